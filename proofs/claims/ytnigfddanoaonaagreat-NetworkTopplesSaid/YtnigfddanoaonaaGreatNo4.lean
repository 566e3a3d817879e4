/-
  Check of graphs: the reference.
  Which states are reachable: plain Lean. Within k steps; after S steps nothing new.
  The search for reachable states, and the fixed point: plain Lean.
  Joined vertices: the forest of the program, and what is reached: plain Lean.
  The forest of a graph: root, join, grown, joined.
  The forest of a graph: joined.
  The parts of a forest: how many there are.
  The single edges of a graph: the iterator, Ends.
  The ends of the single edges: the program and the reference.
  Components, Connected, and joined of ribbon.
  The half-edges at each vertex.
  slices.Contains at lists of integers.
  slices.BinarySearch at ascending lists of integers.
  The error of the list of a vertex.
  ribbon.checked and ribbon.Check.
  The reference's counts on graphs: Between, Valence, Degree, Size, Half, At, Holds.
  The reference's Size, Half, At, Valence, Degree.
  The reference's error of the list of a vertex: around.
  The degree is the number of half-edges: plain Lean.
  The reference's Reached: the vertices that are connected with one.
  The reference's Parts, Connected, Joined.
  The reference's Connected and Joined.
  The reference's Check of ribbon graphs, and ribbon.Check.
-/
import Derived.Test.YtnigfddanoaonaaGreatNo3
import Derived.Outline
import Derived.Deep.AppendLies
import Derived.RangeFuncBox
import Derived.RangeFuncNested
import Derived.RangeFuncLeaves
import Derived.Shelf.Abstract
import Derived.OwnWalkIn
import Derived.TacticsInMore
import Derived.LoopNIn
import Derived.LoopIn
import Derived.Maps.AppendAt
import Derived.Test.YtnigfddanoaonaaGreatProg
import Derived.Deep.RegionHeld3
import Derived.BigQuiet

set_option linter.unusedVariables false
set_option linter.unusedSimpArgs false
namespace Go.Proofs.YtnigfddanoaonaaGreat
open Go.RowKit

/-- The edge behind another one. -/
def edgeAt (n : Int) (es : List Edg) (k : Nat) : Int := edgeErr n (if k = 0 then (-1, -1) else ((es.getD (k - 1) ⟨0, 0, 0⟩).a, (es.getD (k - 1) ⟨0, 0, 0⟩).b)) (es.getD k ⟨0, 0, 0⟩)

theorem edgeAt_two {n : Int} {es : List Edg} {k : Nat} {a b m : Int} (hk : es[k]? = some ⟨a, b, m⟩) (h : ¬ (vtxB n a = true ∧ vtxB n b = true ∧ 1 ≤ m ∧ m ≤ 50)) : edgeAt n es k = 2 := by
  have h0 : es.getD k ⟨0, 0, 0⟩ = ⟨a, b, m⟩ := by rw [List.getD_eq_getElem?_getD, hk]; rfl
  unfold edgeAt
  rw [h0]
  unfold edgeErr
  rw [if_neg]
  simp only [Bool.and_eq_true, decide_eq_true_eq]
  intro h2
  exact h ⟨h2.1.1.1, h2.1.1.2, h2.1.2, h2.2⟩
theorem edgeAt_ok {n : Int} {es : List Edg} {k : Nat} {a b m : Int} {last : Int × Int} (hk : es[k]? = some ⟨a, b, m⟩) (h : vtxB n a = true ∧ vtxB n b = true ∧ 1 ≤ m ∧ m ≤ 50)
    (hl : last = if k = 0 then (-1, -1) else ((es.getD (k - 1) ⟨0, 0, 0⟩).a, (es.getD (k - 1) ⟨0, 0, 0⟩).b)) : (a ≤ b ∧ cmpP last (a, b) < 0 → edgeAt n es k = 0) ∧ (¬ (a ≤ b ∧ cmpP last (a, b) < 0) → edgeAt n es k = 9) := by
  have h0 : es.getD k ⟨0, 0, 0⟩ = ⟨a, b, m⟩ := by rw [List.getD_eq_getElem?_getD, hk]; rfl
  unfold edgeAt
  rw [h0, ← hl]
  unfold edgeErr
  rw [if_pos (by simp only [Bool.and_eq_true, decide_eq_true_eq]; exact ⟨⟨⟨h.1, h.2.1⟩, h.2.2.1⟩, h.2.2.2⟩)]
  constructor
  · intro h2; rw [if_pos (by simp only [Bool.and_eq_true, decide_eq_true_eq]; exact h2)]
  · intro h2; rw [if_neg (by simp only [Bool.and_eq_true, decide_eq_true_eq]; exact h2)]
theorem first_ok {a b : Int} (ha : 0 ≤ a) : cmpP (-1, -1) (a, b) < 0 := cmpP_neg.2 (.inl (by simp only; omega))

theorem not_errI {a : Int} (h : a ≠ 0) : (a != 0) = true := by simp [h]
theorem is_errI {a : Int} (h : a = 0) : (a != 0) = false := by simp [h]

set_option maxRecDepth 100000 in
set_option maxHeartbeats 4000000 in
theorem redge_first {n a b m : Int} {es : List Edg} {oe : Option Addr} {c k bl off : Nat} {w : World} (hoe : oe = some ⟨bl, off, none⟩) (hc : es.length ≤ c) (hc2 : es.length ≤ 9223372036854775807) (hk : k < es.length)
    (c0 : w.cell? ⟨bl, off + k * 3, none⟩ = some (.int .i64 a)) (c1 : w.cell? ⟨bl, off + k * 3 + 1, none⟩ = some (.int .i64 b)) (c2 : w.cell? ⟨bl, off + k * 3 + 2, none⟩ = some (.int .i64 m)) (x : Int)
    (ways : (vtxB n a = false ∧ x = 2) ∨ (vtxB n a = true ∧ vtxB n b = false ∧ x = 2) ∨ (vtxB n a = true ∧ vtxB n b = true ∧ m < 1 ∧ x = 2) ∨ (vtxB n a = true ∧ vtxB n b = true ∧ 1 ≤ m ∧ 50 < m ∧ x = 2) ∨
      (vtxB n a = true ∧ vtxB n b = true ∧ 1 ≤ m ∧ m ≤ 50 ∧ b < a ∧ x = 9) ∨ (vtxB n a = true ∧ vtxB n b = true ∧ 1 ≤ m ∧ m ≤ 50 ∧ a ≤ b ∧ k = 0 ∧ x = 0)) :
    Calls Tryz.prog 138 #[.agg #[.int .i64 n, .slice oe es.length c], .int .i64 k] w (ErrPost w x) := by
  subst hoe
  have hb0 := box_refl w (.cells #[.int .i64 n, .slice (some ⟨bl, off, none⟩) es.length c] 43)
  have hb1 := box_new hb0 (by simp) (.cells #[.int .i64 a, .int .i64 b, .int .i64 m] 145)
  have B1' := Box.new (w.alloc (.cells #[.int .i64 n, .slice (some ⟨bl, off, none⟩) es.length c] 43)) [.int .i64 a, .int .i64 b, .int .i64 m] 145
  rw [World.size_alloc] at B1'
  have B1 := hide B1'
  have HB1 := hide hb1
  have hbl := World.block_lt_of_cell? _ _ c0
  simp only at hbl
  clear B1' hb0 hb1
  rcases ways with ⟨h1, hx⟩ | ways
  · have HX := hide hx
    clear hx
    go_enter Tryz.func138, Tryz.ntmps138
    go_wp2_with fail
    refine (rvertex_any _ _ _ _ _ _).mono ?_
    rintro e w3 ⟨rfl, hb3⟩
    have hx3 := box_then HB1.out (by simp) hb3
    have B3 := B1.out.below hb3
    have e0 := box_cell hx3 0
    have e1 := box_cell hx3 1
    have x0 := B3.cell 0
    have x1 := B3.cell 1
    have x2 := B3.cell 2
    simp at e0 e1 x0 x1 x2
    go_wp2_with fail
    go_ret
    exact ⟨ret_int HX.out.symm, below_box hx3⟩
  rcases ways with ⟨h1, h2, hx⟩ | ⟨h1, h2, h3, hx⟩ | ⟨h1, h2, h3, h4, hx⟩ | ⟨h1, h2, h3, h4, h5, hx⟩ | ⟨h1, h2, h3, h4, h5, h6, hx⟩
  case' inr.inr.inr.inr => subst h6; simp only [Nat.zero_mul, Nat.add_zero, Int.natCast_zero] at *
  all_goals
    have HX := hide hx
    clear hx
    go_enter Tryz.func138, Tryz.ntmps138
    go_wp2_with fail
    refine (rvertex_any _ _ _ _ _ _).mono ?_
    rintro e w3 ⟨rfl, hb3⟩
    have hx3 := box_then HB1.out (by simp) hb3
    have B3 := B1.out.below hb3
    have e0 := box_cell hx3 0
    have e1 := box_cell hx3 1
    have x0 := B3.cell 0
    have x1 := B3.cell 1
    have x2 := B3.cell 2
    simp at e0 e1 x0 x1 x2
    go_wp2_with fail
    refine (rvertex_any _ _ _ _ _ _).mono ?_
    rintro e w4 ⟨rfl, hb4⟩
    have hx4 := box_then hx3 (by simp) hb4
    have B4 := B3.below hb4
    clear e0 e1 x0 x1 x2
    have e0 := box_cell hx4 0
    have e1 := box_cell hx4 1
    have x0 := B4.cell 0
    have x1 := B4.cell 1
    have x2 := B4.cell 2
    simp at e0 e1 x0 x1 x2
    go_wp2_with fail
    go_ret
    exact ⟨ret_int HX.out.symm, below_box hx4⟩

set_option maxRecDepth 100000 in
set_option maxHeartbeats 4000000 in
theorem redge_next {n a b m ya yb ym : Int} {es : List Edg} {oe : Option Addr} {c k bl off : Nat} {w : World} (hoe : oe = some ⟨bl, off, none⟩) (hc : es.length ≤ c) (hc2 : es.length ≤ 9223372036854775807) (hk : k + 1 < es.length)
    (c0 : w.cell? ⟨bl, off + (k + 1) * 3, none⟩ = some (.int .i64 a)) (c1 : w.cell? ⟨bl, off + (k + 1) * 3 + 1, none⟩ = some (.int .i64 b)) (c2 : w.cell? ⟨bl, off + (k + 1) * 3 + 2, none⟩ = some (.int .i64 m))
    (y0 : w.cell? ⟨bl, off + k * 3, none⟩ = some (.int .i64 ya)) (y1 : w.cell? ⟨bl, off + k * 3 + 1, none⟩ = some (.int .i64 yb)) (y2 : w.cell? ⟨bl, off + k * 3 + 2, none⟩ = some (.int .i64 ym)) (x : Int)
    (h1 : vtxB n a = true) (h2 : vtxB n b = true) (h3 : 1 ≤ m) (h4 : m ≤ 50) (h5 : a ≤ b)
    (ways : (a < ya ∧ x = 9) ∨ (ya ≤ a ∧ (a == ya) = true ∧ b ≤ yb ∧ x = 9) ∨ (ya ≤ a ∧ (a == ya) = true ∧ yb < b ∧ x = 0) ∨ (ya ≤ a ∧ (a == ya) = false ∧ x = 0)) :
    Calls Tryz.prog 138 #[.agg #[.int .i64 n, .slice oe es.length c], .int .i64 ((k : Int) + 1)] w (ErrPost w x) := by
  subst hoe
  have hb0 := box_refl w (.cells #[.int .i64 n, .slice (some ⟨bl, off, none⟩) es.length c] 43)
  have hb1 := box_new hb0 (by simp) (.cells #[.int .i64 a, .int .i64 b, .int .i64 m] 145)
  have B1' := Box.new (w.alloc (.cells #[.int .i64 n, .slice (some ⟨bl, off, none⟩) es.length c] 43)) [.int .i64 a, .int .i64 b, .int .i64 m] 145
  rw [World.size_alloc] at B1'
  have B1 := hide B1'
  have HB1 := hide hb1
  have hbl := World.block_lt_of_cell? _ _ c0
  simp only at hbl
  clear B1' hb0 hb1
  rcases ways with ⟨h6, hx⟩ | ⟨h6, h7, h8, hx⟩ | ⟨h6, h7, h8, hx⟩ | ⟨h6, h7, hx⟩
  all_goals
    have HX := hide hx
    clear hx
    go_enter Tryz.func138, Tryz.ntmps138
    go_wp2_with fail
    refine (rvertex_any _ _ _ _ _ _).mono ?_
    rintro e w3 ⟨rfl, hb3⟩
    have hx3 := box_then HB1.out (by simp) hb3
    have B3 := B1.out.below hb3
    have e0 := box_cell hx3 0
    have e1 := box_cell hx3 1
    have x0 := B3.cell 0
    have x1 := B3.cell 1
    have x2 := B3.cell 2
    simp at e0 e1 x0 x1 x2
    go_wp2_with fail
    refine (rvertex_any _ _ _ _ _ _).mono ?_
    rintro e w4 ⟨rfl, hb4⟩
    have hx4 := box_then hx3 (by simp) hb4
    have B4 := B3.below hb4
    have hbb := below_box hx4
    clear e0 e1 x0 x1 x2
    have e0 := box_cell hx4 0
    have e1 := box_cell hx4 1
    have x0 := B4.cell 0
    have x1 := B4.cell 1
    have x2 := B4.cell 2
    simp at e0 e1 x0 x1 x2
    have z0 := (hbb.cell (World.block_lt_of_cell? _ _ y0)).trans y0
    have z1 := (hbb.cell (World.block_lt_of_cell? _ _ y1)).trans y1
    have z2 := (hbb.cell (World.block_lt_of_cell? _ _ y2)).trans y2
    have hs4 := B4.lt
    have hs5 := hbb.size
    have hbl4 : bl < w4.heap.size := by omega
    go_wp2_with fail
    go_ret
    exact ⟨ret_int HX.out.symm, bnew hbb _⟩

theorem redge_any (n : Int) (es : List Edg) (oe : Option Addr) (c : Nat) (k : Nat) (F : Foot) (w : World) (hs : SliceR edgR 3 F w oe es) (hc : es.length ≤ c) (hc2 : es.length ≤ 9223372036854775807) (hk : k < es.length) :
    Calls Tryz.prog 138 #[.agg #[.int .i64 n, .slice oe es.length c], .int .i64 k] w (ErrPost w (edgeAt n es k)) := by
  obtain ⟨a, b, m, hd, hget, _, _, _, bl, off, rfl, _, c0, c1, c2⟩ := hs.edg_at hk
  by_cases hg : vtxB n a = true ∧ vtxB n b = true ∧ 1 ≤ m ∧ m ≤ 50
  case neg =>
    rw [edgeAt_two hget hg]
    refine redge_first rfl hc hc2 hk c0 c1 c2 2 ?_
    cases hva : vtxB n a
    · exact .inl ⟨rfl, rfl⟩
    · cases hvb : vtxB n b
      · exact .inr (.inl ⟨rfl, rfl, rfl⟩)
      · by_cases h1 : m < 1
        · exact .inr (.inr (.inl ⟨rfl, rfl, h1, rfl⟩))
        · by_cases h2 : 50 < m
          · exact .inr (.inr (.inr (.inl ⟨rfl, rfl, by omega, h2, rfl⟩)))
          · exact absurd ⟨hva, hvb, by omega, by omega⟩ hg
  case pos =>
    obtain ⟨h1, h2, h3, h4⟩ := hg
    by_cases hab : b < a
    · have := (edgeAt_ok hget ⟨h1, h2, h3, h4⟩ rfl).2 (by omega)
      rw [this]
      exact redge_first rfl hc hc2 hk c0 c1 c2 9 (.inr (.inr (.inr (.inr (.inl ⟨h1, h2, h3, h4, hab, rfl⟩)))))
    · match k, hk, hget, c0, c1, c2 with
      | 0, hk, hget, c0, c1, c2 =>
        have := (edgeAt_ok hget ⟨h1, h2, h3, h4⟩ rfl).1 ⟨by omega, first_ok (vtxB_iff.1 h1).1⟩
        rw [this]
        exact redge_first rfl hc hc2 hk c0 c1 c2 0 (.inr (.inr (.inr (.inr (.inr ⟨h1, h2, h3, h4, by omega, rfl, rfl⟩)))))
      | k + 1, hk, hget, c0, c1, c2 =>
        obtain ⟨ya, yb, ym, _, hgy, _, _, _, bl', off', he, _, y0, y1, y2⟩ := hs.edg_at (show k < es.length by omega)
        injection he with he
        injection he with e1 e2
        subst e1 e2
        have hok := edgeAt_ok (last := (ya, yb)) hget ⟨h1, h2, h3, h4⟩ (by
          rw [if_neg (by omega), Nat.add_sub_cancel, List.getD_eq_getElem?_getD, hgy]; rfl)
        rw [show ((k + 1 : Nat) : Int) = (k : Int) + 1 from by omega]
        have hcp := cmpP_neg (p := (ya, yb)) (q := (a, b))
        simp only at hcp
        by_cases e1 : a < ya
        · rw [hok.2 (by rw [hcp]; omega)]
          exact redge_next rfl hc hc2 hk c0 c1 c2 y0 y1 y2 9 h1 h2 h3 h4 (by omega) (.inl ⟨e1, rfl⟩)
        · by_cases e2 : a = ya
          · by_cases e3 : b ≤ yb
            · rw [hok.2 (by rw [hcp]; omega)]
              exact redge_next rfl hc hc2 hk c0 c1 c2 y0 y1 y2 9 h1 h2 h3 h4 (by omega) (.inr (.inl ⟨by omega, by simp [e2], e3, rfl⟩))
            · rw [hok.1 (by rw [hcp]; omega)]
              exact redge_next rfl hc hc2 hk c0 c1 c2 y0 y1 y2 0 h1 h2 h3 h4 (by omega) (.inr (.inr (.inl ⟨by omega, by simp [e2], by omega, rfl⟩)))
          · rw [hok.1 (by rw [hcp]; omega)]
            exact redge_next rfl hc hc2 hk c0 c1 c2 y0 y1 y2 0 h1 h2 h3 h4 (by omega) (.inr (.inr (.inr ⟨by omega, by simp [e2], rfl⟩)))

/-- All edges from k on. -/
def edgesFrom (n : Int) (es : List Edg) : Nat → Nat → Int
  | 0, _ => 0
  | j + 1, k => if edgeAt n es k = 0 then edgesFrom n es j (k + 1) else edgeAt n es k
theorem edgesFrom_eq (n : Int) (es : List Edg) : ∀ j k, k + j = es.length → edgesFrom n es j k = edgesErr n (if k = 0 then (-1, -1) else ((es.getD (k - 1) ⟨0, 0, 0⟩).a, (es.getD (k - 1) ⟨0, 0, 0⟩).b)) (es.drop k)
  | 0, k, h => by rw [List.drop_eq_nil_of_le (by omega)]; rfl
  | j + 1, k, h => by
    have hk : k < es.length := by omega
    rw [List.drop_eq_getElem_cons hk]
    unfold edgesFrom edgesErr
    have h0 : es.getD k ⟨0, 0, 0⟩ = es[k] := by rw [List.getD_eq_getElem?_getD, List.getElem?_eq_getElem hk]; rfl
    have h1 : edgeAt n es k = edgeErr n (if k = 0 then (-1, -1) else ((es.getD (k - 1) ⟨0, 0, 0⟩).a, (es.getD (k - 1) ⟨0, 0, 0⟩).b)) es[k] := by unfold edgeAt; rw [h0]
    rw [← h1, edgesFrom_eq n es j (k + 1) (by omega), if_neg (show ¬ k + 1 = 0 by omega), Nat.add_sub_cancel, h0]

set_option maxHeartbeats 1000000 in
theorem rgcheck_any (n : Int) (es : List Edg) (oe : Option Addr) (c : Nat) (F : Foot) (w : World) (hs : SliceR edgR 3 F w oe es) (hc : es.length ≤ c) (hc2 : es.length ≤ 9223372036854775807) :
    Calls Tryz.prog 114 #[.agg #[.int .i64 n, .slice oe es.length c]] w (ErrPost w (gErr n es)) := by
  by_cases hn1 : n < 1
  · have HR : Hid (gErr n es = 2) := if_pos (.inl hn1)
    go_enter Tryz.func114, Tryz.ntmps114
    go_wp2_with fail
    go_ret
    exact ⟨ret_int HR.out.symm, bnew (Below.refl _ _) _⟩
  by_cases hn2 : 12 < n
  · have HR : Hid (gErr n es = 2) := if_pos (.inr hn2)
    go_enter Tryz.func114, Tryz.ntmps114
    go_wp2_with fail
    go_ret
    exact ⟨ret_int HR.out.symm, bnew (Below.refl _ _) _⟩
  have HR : Hid (gErr n es = edgesFrom n es es.length 0) := by
    show _ = _
    rw [edgesFrom_eq n es es.length 0 (by omega)]
    exact if_neg (by omega)
  have hnb1 : 1 ≤ n := by omega
  have hnb2 : n ≤ 12 := by omega
  clear hn1 hn2
  go_enter Tryz.func114, Tryz.ntmps114
  go_wp2_with fail
  go_loopw [3] (fun iv wr => ∃ (k j : Nat), k + j = es.length ∧ iv = .int .i64 k ∧ Hid (gErr n es = edgesFrom n es j k) ∧
     Below (w.heap.size + 1) (w.alloc (.cells #[.int .i64 n, .slice oe es.length c] 43)) wr) (fun i _ => es.length - (intOf i).toNat)
  case atStart => exact ⟨0, es.length, by omega, rfl, HR, box_refl _ _⟩
  case round =>
    obtain ⟨k, j, hk, rfl, HE, hb⟩ := hrel
    have d0 := box_cell hb 0
    have d1 := box_cell hb 1
    simp at d0 d1
    by_cases hlt : k < es.length
    · obtain ⟨j, rfl⟩ : ∃ i, j = i + 1 := ⟨j - 1, by omega⟩
      go_wp2_with fail
      refine (redge_any n es oe c k F _ (hs.below edgR_ok (below_box hb)) hc hc2 hlt).mono ?_
      rintro e w3 ⟨rfl, hb3⟩
      by_cases hz : edgeAt n es k = 0
      · have hz1 := is_errI hz
        have HX : Hid (gErr n es = edgesFrom n es j (k + 1)) := by show _ = _; rw [HE.out, edgesFrom, if_pos hz]
        clear hz
        go_wp2_with fail
        go_roundw
        case rel => exact ⟨k + 1, j, by omega, by go_num, HX, box_then hb (by simp) hb3⟩
        case measure => simp [intOf]; omega
      · have hz1 := not_errI hz
        have HX : Hid (gErr n es = edgeAt n es k) := by show _ = _; rw [HE.out, edgesFrom, if_neg hz]
        clear hz
        go_wp2_with fail
        go_ret
        exact ⟨ret_int HX.out.symm, below_box (box_then hb (by simp) hb3)⟩
    · obtain rfl : j = 0 := by omega
      go_wp2_with fail
      go_ret
      exact ⟨ret_int HE.out.symm, below_box hb⟩

end Go.Proofs.YtnigfddanoaonaaGreat

set_option linter.unusedVariables false
namespace Go.Proofs.YtnigfddanoaonaaGreat
open Go.RowKit

theorem countP_lt {p q : Nat → Bool} : ∀ {l : List Nat}, (∀ x ∈ l, p x = true → q x = true) → (∃ x ∈ l, q x = true ∧ p x = false) → l.countP p < l.countP q
  | [], _, h => by obtain ⟨x, hx, _⟩ := h; cases hx
  | y :: r, h, hx => by
    obtain ⟨x, hx, h1, h2⟩ := hx
    have hle : ∀ l : List Nat, (∀ x ∈ l, p x = true → q x = true) → l.countP p ≤ l.countP q := fun l hl => List.countP_mono_left hl
    have hr := hle r fun x hx => h x (by simp [hx])
    rw [List.countP_cons, List.countP_cons]
    rcases List.mem_cons.1 hx with rfl | hx
    · simp [h1, h2]; omega
    · have ih := countP_lt (l := r) (fun x hx => h x (by simp [hx])) ⟨x, hx, h1, h2⟩
      have hy := h y (by simp)
      by_cases h3 : p y = true
      · simp [h3, hy h3]; omega
      · have h4 : p y = false := by simpa using h3
        simp [h4]
        split <;> omega

/-- Reachable from s within k steps of nx, letters below L. -/
def within (nx : Nat → Nat → Nat) (L s : Nat) : Nat → Nat → Prop
  | 0, t => t = s
  | k + 1, t => within nx L s k t ∨ ∃ u a, within nx L s k u ∧ a < L ∧ t = nx u a
def Rch (nx : Nat → Nat → Nat) (L s t : Nat) : Prop := ∃ k, within nx L s k t

section
variable {nx : Nat → Nat → Nat} {L s S : Nat}
theorem within_lt (hs : s < S) (h : ∀ u a, u < S → a < L → nx u a < S) : ∀ k t, within nx L s k t → t < S
  | 0, t, e => by cases e; exact hs
  | k + 1, t, e => by
    rcases e with e | ⟨u, a, hu, ha, rfl⟩
    · exact within_lt hs h k t e
    · exact h u a (within_lt hs h k u hu) ha
theorem within_mono {k t : Nat} (h : within nx L s k t) : ∀ j, within nx L s (k + j) t
  | 0 => h
  | j + 1 => .inl (within_mono h j)
theorem within_closed {k : Nat} (hc : ∀ t, within nx L s (k + 1) t → within nx L s k t) : ∀ j t, within nx L s (k + j) t → within nx L s k t
  | 0, t, h => h
  | j + 1, t, h => by
    rcases h with h | ⟨u, a, hu, ha, rfl⟩
    · exact within_closed hc j t h
    · exact hc _ (.inr ⟨u, a, within_closed hc j u hu, ha, rfl⟩)
open Classical in
theorem within_more (hs : s < S) (h : ∀ u a, u < S → a < L → nx u a < S) (k : Nat) (hbase : k + 1 ≤ (List.range S).countP fun t => decide (within nx L s k t)) :
    (∀ t, within nx L s (k + 1) t → within nx L s k t) ∨ k + 2 ≤ (List.range S).countP fun t => decide (within nx L s (k + 1) t) := by
  by_cases hc : ∀ t, within nx L s (k + 1) t → within nx L s k t
  · exact .inl hc
  · refine .inr ?_
    have hx : ∃ t, within nx L s (k + 1) t ∧ ¬ within nx L s k t := by
      apply Classical.byContradiction
      intro hn
      exact hc fun t ht => Classical.byContradiction fun h2 => hn ⟨t, ht, h2⟩
    obtain ⟨t, h1, h2⟩ := hx
    have hlt := countP_lt (l := List.range S) (p := fun t => decide (within nx L s k t)) (q := fun t => decide (within nx L s (k + 1) t))
      (fun x _ hp => by simp at hp ⊢; exact .inl hp) ⟨t, by simp; exact within_lt hs h _ _ h1, by simp [h1], by simp [h2]⟩
    omega
open Classical in
theorem within_count (hs : s < S) (h : ∀ u a, u < S → a < L → nx u a < S) (k : Nat) : (∀ t, within nx L s (k + 1) t → within nx L s k t) ∨ k + 2 ≤ (List.range S).countP fun t => decide (within nx L s (k + 1) t) := by
  induction k with
  | zero =>
    refine within_more hs h 0 ?_
    have : 0 < (List.range S).countP fun t => decide (within nx L s 0 t) := List.countP_pos_iff.2 ⟨s, by simp [hs], by simp [within]⟩
    omega
  | succ k ih =>
    rcases ih with hcl | hcl
    · exact .inl fun t ht => Or.inl (within_closed hcl 2 t ht)
    · exact within_more hs h (k + 1) hcl
/-- After S steps all is reached. -/
theorem rch_within (hs : s < S) (h : ∀ u a, u < S → a < L → nx u a < S) (t : Nat) : Rch nx L s t ↔ within nx L s S t := by
  refine ⟨fun ⟨k, hk⟩ => ?_, fun h => ⟨S, h⟩⟩
  have hcl : ∀ t, within nx L s (S + 1) t → within nx L s S t := by
    rcases within_count hs h S with hc | hc
    · exact hc
    · exfalso
      have := List.countP_le_length (p := fun t => Classical.propDecidable (within nx L s (S + 1) t) |>.decide) (l := List.range S)
      simp only [List.length_range] at this
      omega
  have h1 := within_mono hk S
  rw [Nat.add_comm] at h1
  exact within_closed hcl k t h1
end

end Go.Proofs.YtnigfddanoaonaaGreat

set_option linter.unusedVariables false
namespace Go.Proofs.YtnigfddanoaonaaGreat
open Go.RowKit

def castL (l : List Nat) : List Int := l.map fun n : Nat => (n : Int)
theorem nodup_len {S : Nat} : ∀ {l : List Nat}, l.Nodup → (∀ x ∈ l, x < S) → l.length ≤ S := by
  induction S with
  | zero =>
    intro l _ h
    match l with
    | [] => simp
    | x :: r => exact absurd (h x (by simp)) (by omega)
  | succ S ih =>
    intro l hn h
    have h1 : (l.erase S).Nodup := hn.erase S
    have h2 : ∀ x ∈ l.erase S, x < S := fun x hx => by
      have h3 := List.mem_of_mem_erase hx
      have h4 := h x h3
      have h5 : x ≠ S := fun e => by subst e; exact (List.Nodup.not_mem_erase hn) hx
      omega
    have h3 := ih h1 h2
    have h4 : l.length ≤ (l.erase S).length + 1 := by
      rw [List.length_erase]; split <;> omega
    omega

section
variable {nx : Nat → Nat → Nat} {L S s : Nat}
theorem rch_refl : Rch nx L s s := ⟨0, rfl⟩
theorem rch_step {t a : Nat} (h : Rch nx L s t) (ha : a < L) : Rch nx L s (nx t a) := by
  obtain ⟨k, hk⟩ := h
  exact ⟨k + 1, .inr ⟨t, a, hk, ha, rfl⟩⟩
theorem rch_lt (hs : s < S) (h : ∀ u a, u < S → a < L → nx u a < S) {t : Nat} (ht : Rch nx L s t) : t < S := by
  obtain ⟨k, hk⟩ := ht
  exact within_lt hs h k t hk
theorem rch_in {P : Nat → Prop} (h0 : P s) (h : ∀ u a, P u → a < L → P (nx u a)) {t : Nat} (ht : Rch nx L s t) : P t := by
  obtain ⟨k, hk⟩ := ht
  induction k generalizing t with
  | zero => cases hk; exact h0
  | succ k ih =>
    rcases hk with hk | ⟨u, a, hu, ha, rfl⟩
    · exact ih hk
    · exact h u a (ih hu) ha
/-- The search: what waits, what was seen. -/
structure Bfs (nx : Nat → Nat → Nat) (L s : Nat) (work seen : List Nat) : Prop where
  nodup : seen.Nodup
  start : s ∈ seen
  sound : ∀ x ∈ seen, Rch nx L s x
  sub : ∀ x ∈ work, x ∈ seen
  closed : ∀ u ∈ seen, u ∉ work → ∀ a, a < L → nx u a ∈ seen
/-- .. while the letters of t from k on are still to come. -/
structure Mid (nx : Nat → Nat → Nat) (L s t k : Nat) (work seen : List Nat) : Prop where
  nodup : seen.Nodup
  start : s ∈ seen
  sound : ∀ x ∈ seen, Rch nx L s x
  sub : ∀ x ∈ work, x ∈ seen
  here : t ∈ seen
  done : ∀ a, a < k → nx t a ∈ seen
  closed : ∀ u ∈ seen, u ∉ work → u ≠ t → ∀ a, a < L → nx u a ∈ seen
theorem Bfs.begin : Bfs nx L s [s] [s] :=
  ⟨by simp, by simp, fun x hx => by simp at hx; subst hx; exact rch_refl, fun x hx => hx, fun u hu hn => absurd hu hn⟩
theorem Mid.old {t k : Nat} {work seen : List Nat} (h : Mid nx L s t k work seen) (hm : nx t k ∈ seen) : Mid nx L s t (k + 1) work seen := by
  refine ⟨h.nodup, h.start, h.sound, h.sub, h.here, fun a ha => ?_, h.closed⟩
  rcases Nat.lt_or_ge a k with h1 | h1
  · exact h.done a h1
  · have : a = k := by omega
    exact this ▸ hm
theorem Mid.more {t k : Nat} {work seen : List Nat} (h : Mid nx L s t k work seen) (hm : nx t k ∉ seen) (hk : k < L) : Mid nx L s t (k + 1) (work ++ [nx t k]) (seen ++ [nx t k]) where
  nodup := by
    rw [List.nodup_append]
    exact ⟨h.nodup, by simp, fun a ha b hb => by simp at hb; subst hb; exact fun e => hm (e ▸ ha)⟩
  start := by simp [h.start]
  sound := fun x hx => by
    rcases List.mem_append.1 hx with hx | hx
    · exact h.sound x hx
    · simp at hx; subst hx; exact rch_step (h.sound t h.here) hk
  sub := fun x hx => by
    rcases List.mem_append.1 hx with hx | hx
    · simp [h.sub x hx]
    · simp at hx; simp [hx]
  here := by simp [h.here]
  done := fun a ha => by
    rcases Nat.lt_or_ge a k with h1 | h1
    · simp [h.done a h1]
    · have : a = k := by omega
      subst this; simp
  closed := fun u hu hn hne a ha => by
    rcases List.mem_append.1 hu with hu | hu
    · simp [h.closed u hu (fun hw => hn (by simp [hw])) hne a ha]
    · exact absurd (by simp at hu; simp [hu]) hn
theorem Bfs.all {seen : List Nat} (h : Bfs nx L s [] seen) (t : Nat) : t ∈ seen ↔ Rch nx L s t :=
  ⟨h.sound t, fun ht => rch_in (P := fun x => x ∈ seen) h.start (fun u a hu ha => h.closed u hu (by simp) a ha) ht⟩
theorem Bfs.few {work seen : List Nat} (h : Bfs nx L s work seen) (hs : s < S) (hn : ∀ u a, u < S → a < L → nx u a < S) : seen.length ≤ S :=
  nodup_len h.nodup fun x hx => rch_lt hs hn (h.sound x hx)
theorem Mid.few {t k : Nat} {work seen : List Nat} (h : Mid nx L s t k work seen) (hs : s < S) (hn : ∀ u a, u < S → a < L → nx u a < S) : seen.length ≤ S :=
  nodup_len h.nodup fun x hx => rch_lt hs hn (h.sound x hx)
end

/-- The list of what is reachable, in order. -/
def IsReach (nx : Nat → Nat → Nat) (L s : Nat) (l : List Int) : Prop := l.Pairwise (· < ·) ∧ ∀ t : Int, t ∈ l ↔ ∃ n : Nat, t = n ∧ Rch nx L s n

/-- The fixed point, round by round: bs after k rounds; of the round after that the states below t have been taken; of t the letters below j. -/
structure Led (nx : Nat → Nat → Nat) (L S s k t : Nat) (bs : List Bool) : Prop where
  len : bs.length = S
  got : ∀ u, within nx L s k u → bs[u]? = some true
  sound : ∀ u, bs[u]? = some true → Rch nx L s u
  part : ∀ u, u < t → within nx L s k u → ∀ a, a < L → bs[nx u a]? = some true

section
variable {nx : Nat → Nat → Nat} {L S s : Nat}
theorem Led.begin (hs : s < S) : Led nx L S s 0 0 ((List.replicate S false).set s true) where
  len := by simp
  got := fun u hu => by cases hu; simp [hs]
  sound := fun u hu => by
    by_cases e : s = u
    · subst e; exact rch_refl
    · rw [List.getElem?_set_ne e, List.getElem?_replicate] at hu
      split at hu <;> simp at hu
  part := fun u hu => by omega
theorem Led.set {k t j : Nat} {bs : List Bool} (h : Led nx L S s k t bs) (ht : bs[t]? = some true) (hj : j < L) (hn : nx t j < S) (hd : ∀ a, a < j → bs[nx t a]? = some true) :
    Led nx L S s k t (bs.set (nx t j) true) ∧ (bs.set (nx t j) true)[t]? = some true ∧ ∀ a, a < j + 1 → (bs.set (nx t j) true)[nx t a]? = some true := by
  have mono : ∀ u, bs[u]? = some true → (bs.set (nx t j) true)[u]? = some true := fun u hu => by
    by_cases e : nx t j = u
    · subst e; rw [List.getElem?_set_self (by rw [h.len]; exact hn)]
    · rw [List.getElem?_set_ne e]; exact hu
  refine ⟨⟨by simp [h.len], fun u hu => mono u (h.got u hu), fun u hu => ?_, fun u hu hw a ha => mono _ (h.part u hu hw a ha)⟩, mono t ht, fun a ha => ?_⟩
  · by_cases e : nx t j = u
    · subst e; exact rch_step (h.sound t ht) hj
    · rw [List.getElem?_set_ne e] at hu; exact h.sound u hu
  · rcases Nat.lt_or_ge a j with h1 | h1
    · exact mono _ (hd a h1)
    · have : a = j := by omega
      subst this
      rw [List.getElem?_set_self (by rw [h.len]; exact hn)]
theorem Led.next {k t : Nat} {bs : List Bool} (h : Led nx L S s k t bs) (hd : bs[t]? = some true → ∀ a, a < L → bs[nx t a]? = some true) : Led nx L S s k (t + 1) bs := by
  refine ⟨h.len, h.got, h.sound, fun u hu hw a ha => ?_⟩
  rcases Nat.lt_or_ge u t with h1 | h1
  · exact h.part u h1 hw a ha
  · have : u = t := by omega
    subst this
    exact hd (h.got u hw) a ha
theorem Led.round (hs : s < S) (hn : ∀ u a, u < S → a < L → nx u a < S) {k : Nat} {bs : List Bool} (h : Led nx L S s k S bs) : Led nx L S s (k + 1) 0 bs where
  len := h.len
  got := fun u hu => by
    rcases hu with hu | ⟨v, a, hv, ha, rfl⟩
    · exact h.got u hu
    · exact h.part v (within_lt hs hn k v hv) hv a ha
  sound := h.sound
  part := fun u hu => by omega
/-- What the reference says in the end. -/
def Leads (nx : Nat → Nat → Nat) (L S s : Nat) (bs : List Bool) : Prop := bs.length = S ∧ ∀ u, bs[u]? = some true ↔ Rch nx L s u
theorem Led.all (hs : s < S) (hn : ∀ u a, u < S → a < L → nx u a < S) {bs : List Bool} (h : Led nx L S s S 0 bs) : Leads nx L S s bs :=
  ⟨h.len, fun u => ⟨h.sound u, fun hu => h.got u ((rch_within hs hn u).1 hu)⟩⟩
end

theorem true_of_getD {bs : List Bool} {n : Nat} (h : n < bs.length) : bs.getD n false = true ↔ bs[n]? = some true := by
  rw [List.getD_eq_getElem?_getD, List.getElem?_eq_getElem h]; simp

/-- The list of the states whose place in bs is true. -/
def trues (bs : List Bool) : Nat → List Int
  | 0 => []
  | k + 1 => if bs.getD k false then trues bs k ++ [(k : Int)] else trues bs k
/-- Recurrent: from all that is reachable one comes back. -/
def Back (nx : Nat → Nat → Nat) (L s : Nat) : Prop := ∀ t, Rch nx L s t → Rch nx L t s

end Go.Proofs.YtnigfddanoaonaaGreat

set_option linter.unusedVariables false
set_option linter.unusedSimpArgs false
namespace Go.Proofs.YtnigfddanoaonaaGreat
open Go.RowKit

/-- A forest: each vertex has one that is not greater. -/
structure Fst (f : List Nat) : Prop where
  len : f.length = 12
  le : ∀ v, v < 12 → f.getD v 0 ≤ v

def rootK (f : List Nat) : Nat → Nat → Nat
  | 0, v => v
  | k + 1, v => if f.getD v 0 = v then v else rootK f k (f.getD v 0)
def rootF (f : List Nat) (v : Nat) : Nat := rootK f v v

section
variable {f : List Nat}
theorem rootK_le (h : Fst f) : ∀ k v, v < 12 → rootK f k v ≤ v
  | 0, v, _ => Nat.le_refl v
  | k + 1, v, hv => by
    unfold rootK
    have h1 := h.le v hv
    split
    · exact Nat.le_refl v
    · exact Nat.le_trans (rootK_le h k _ (by omega)) h1
theorem rootK_fix (h : Fst f) : ∀ k v, v < 12 → v ≤ k → f.getD (rootK f k v) 0 = rootK f k v
  | 0, v, hv, hk => by
    have h0 : v = 0 := by omega
    subst h0
    have := h.le 0 (by omega)
    simp only [rootK]
    omega
  | k + 1, v, hv, hk => by
    unfold rootK
    have h1 := h.le v hv
    split
    · assumption
    · rename_i hne
      exact rootK_fix h k _ (by omega) (by omega)
theorem rootK_more (h : Fst f) : ∀ k v, v < 12 → v ≤ k → rootK f (k + 1) v = rootK f k v
  | 0, v, hv, hk => by
    have h0 : v = 0 := by omega
    subst h0
    have := h.le 0 (by omega)
    simp only [rootK]
    rw [if_pos (by omega)]
  | k + 1, v, hv, hk => by
    have h1 := h.le v hv
    show (if f.getD v 0 = v then v else rootK f (k + 1) (f.getD v 0)) = (if f.getD v 0 = v then v else rootK f k (f.getD v 0))
    by_cases hf : f.getD v 0 = v
    · rw [if_pos hf, if_pos hf]
    · rw [if_neg hf, if_neg hf]
      exact rootK_more h k _ (by omega) (by omega)
theorem rootK_eq (h : Fst f) {v : Nat} (hv : v < 12) : ∀ j, rootK f (v + j) v = rootF f v
  | 0 => rfl
  | j + 1 => by rw [← Nat.add_assoc, rootK_more h _ _ hv (by omega)]; exact rootK_eq h hv j
theorem rootF_le (h : Fst f) {v : Nat} (hv : v < 12) : rootF f v ≤ v := rootK_le h v v hv
theorem rootF_fix (h : Fst f) {v : Nat} (hv : v < 12) : f.getD (rootF f v) 0 = rootF f v := rootK_fix h v v hv (Nat.le_refl v)
theorem rootF_self (h : Fst f) {v : Nat} (hf : f.getD v 0 = v) : rootF f v = v := by
  unfold rootF
  cases v with
  | zero => rfl
  | succ k => rw [rootK, if_pos hf]
theorem rootF_step (h : Fst f) {v : Nat} (hv : v < 12) : rootF f v = rootF f (f.getD v 0) := by
  have h1 := h.le v hv
  by_cases hf : f.getD v 0 = v
  · rw [hf]
  · obtain ⟨k, rfl⟩ : ∃ k, v = k + 1 := ⟨v - 1, by omega⟩
    unfold rootF
    rw [rootK, if_neg hf]
    obtain ⟨j, hj⟩ : ∃ j, k = f.getD (k + 1) 0 + j := ⟨k - f.getD (k + 1) 0, by omega⟩
    have := rootK_eq h (show f.getD (k + 1) 0 < 12 by omega) j
    rw [← hj] at this
    exact this
end

/-- Two roots are joined; the lesser stands for both. -/
def joinF (f : List Nat) (a b : Nat) : List Nat := f.set (max (rootF f a) (rootF f b)) (min (rootF f a) (rootF f b))

section
variable {f : List Nat} {a b : Nat}
theorem getD_setN {l : List Nat} {i j x : Nat} (hi : i < l.length) : (l.set i x).getD j 0 = if i = j then x else l.getD j 0 := by
  rw [List.getD_eq_getElem?_getD, List.getD_eq_getElem?_getD]
  by_cases h : i = j
  · subst h; rw [List.getElem?_set_self hi, if_pos rfl]; rfl
  · rw [List.getElem?_set_ne h, if_neg h]
theorem joinF_get (h : Fst f) (ha : a < 12) (hb : b < 12) (j : Nat) : (joinF f a b).getD j 0 = if max (rootF f a) (rootF f b) = j then min (rootF f a) (rootF f b) else f.getD j 0 := by
  have h1 := rootF_le h ha
  have h2 := rootF_le h hb
  exact getD_setN (by rw [h.len]; omega)
theorem joinF_fst (h : Fst f) (ha : a < 12) (hb : b < 12) : Fst (joinF f a b) := by
  refine ⟨by simp [joinF, h.len], fun v hv => ?_⟩
  rw [joinF_get h ha hb]
  split
  · omega
  · exact h.le v hv
/-- What the roots are then. -/
theorem joinF_root (h : Fst f) (ha : a < 12) (hb : b < 12) : ∀ n v, v < n → v < 12 → rootF (joinF f a b) v = if rootF f v = max (rootF f a) (rootF f b) then min (rootF f a) (rootF f b) else rootF f v
  | 0, v, hn, _ => by omega
  | n + 1, v, hn, hv => by
    have hj := joinF_fst h ha hb
    have ih := joinF_root h ha hb n
    have ra := rootF_le h ha
    have rb := rootF_le h hb
    have fa := rootF_fix h ha
    have fb := rootF_fix h hb
    have h1 := h.le v hv
    have hget := joinF_get h ha hb
    generalize hA : rootF f a = A at *
    generalize hB : rootF f b = B at *
    have fM : f.getD (max A B) 0 = max A B := by
      rcases Nat.le_total A B with hab | hab
      · rw [Nat.max_eq_right hab]; exact fb
      · rw [Nat.max_eq_left hab]; exact fa
    have fm : f.getD (min A B) 0 = min A B := by
      rcases Nat.le_total A B with hab | hab
      · rw [Nat.min_eq_left hab]; exact fa
      · rw [Nat.min_eq_right hab]; exact fb
    have rM : rootF f (max A B) = max A B := rootF_self h fM
    have rm : rootF f (min A B) = min A B := rootF_self h fm
    by_cases hM : max A B = v
    · subst hM
      rw [rM, if_pos rfl]
      by_cases e : max A B = min A B
      · rw [rootF_self hj (by rw [hget, if_pos rfl]; exact e.symm), e]
      · have hlt : min A B < max A B := by omega
        rw [rootF_step hj hv, hget, if_pos rfl, ih (min A B) (by omega) (by omega), rm, if_neg (by omega)]
    · by_cases hf : f.getD v 0 = v
      · rw [rootF_self hj (by rw [hget, if_neg hM]; exact hf), rootF_self h hf, if_neg (fun e => hM e.symm)]
      · rw [rootF_step hj hv, hget, if_neg hM, ih (f.getD v 0) (by omega) (by omega), ← rootF_step h hv]
end

/-- The vertices that edges join stand in one class, whatever the classes are. -/
def Tied (es : List (Nat × Nat)) (u v : Nat) : Prop := ∀ c : Nat → Nat, (∀ x ∈ es, c x.1 = c x.2) → c u = c v

/-- The forest of the edges so far. -/
structure Uf (f : List Nat) (es : List (Nat × Nat)) : Prop where
  fst : Fst f
  tied : ∀ v, v < 12 → Tied es v (f.getD v 0)
  one : ∀ x ∈ es, rootF f x.1 = rootF f x.2

section
variable {f : List Nat} {es : List (Nat × Nat)}
theorem Uf.begin : Uf (List.range 12) [] := by
  have hg : ∀ v, v < 12 → (List.range 12).getD v 0 = v := fun v hv => by
    rw [List.getD_eq_getElem?_getD, List.getElem?_range hv]; rfl
  exact ⟨⟨by simp, fun v hv => by rw [hg v hv]; exact Nat.le_refl v⟩, fun v hv c _ => by rw [hg v hv], fun x hx => by simp at hx⟩
theorem Uf.root_tied (h : Uf f es) : ∀ n v, v < n → v < 12 → Tied es v (rootF f v)
  | 0, v, hn, _ => by omega
  | n + 1, v, hn, hv => fun c hc => by
    by_cases hf : f.getD v 0 = v
    · rw [rootF_self h.fst hf]
    · have h1 := h.fst.le v hv
      rw [rootF_step h.fst hv]
      exact (h.tied v hv c hc).trans (h.root_tied n (f.getD v 0) (by omega) (by omega) c hc)
theorem Uf.join (h : Uf f es) {a b : Nat} (ha : a < 12) (hb : b < 12) (hes : ∀ x ∈ es, x.1 < 12 ∧ x.2 < 12) : Uf (joinF f a b) (es ++ [(a, b)]) := by
  have ta := h.root_tied (a + 1) a (by omega) ha
  have tb := h.root_tied (b + 1) b (by omega) hb
  refine ⟨joinF_fst h.fst ha hb, fun v hv c hc => ?_, fun x hx => ?_⟩
  · have hc1 : ∀ x ∈ es, c x.1 = c x.2 := fun x hx => hc x (by simp [hx])
    rw [joinF_get h.fst ha hb]
    split
    · rename_i e
      have hab := hc (a, b) (by simp)
      simp only at hab
      have h1 := ta c hc1
      have h2 := tb c hc1
      rw [← e]
      rcases Nat.le_total (rootF f a) (rootF f b) with hl | hl
      · rw [Nat.max_eq_right hl, Nat.min_eq_left hl, ← h1, ← h2, hab]
      · rw [Nat.max_eq_left hl, Nat.min_eq_right hl, ← h1, ← h2, hab]
    · exact h.tied v hv c hc1
  · rcases List.mem_append.1 hx with hx | hx
    · rw [joinF_root h.fst ha hb 12 _ (hes x hx).1 (hes x hx).1, joinF_root h.fst ha hb 12 _ (hes x hx).2 (hes x hx).2, h.one x hx]
    · simp at hx
      subst hx
      rw [joinF_root h.fst ha hb 12 a ha ha, joinF_root h.fst ha hb 12 b hb hb]
      rcases Nat.le_total (rootF f a) (rootF f b) with hl | hl
      · rw [Nat.max_eq_right hl, Nat.min_eq_left hl]
        by_cases e : rootF f a = rootF f b
        · simp [e]
        · simp [e]
      · rw [Nat.max_eq_left hl, Nat.min_eq_right hl]
        by_cases e : rootF f b = rootF f a
        · simp [e]
        · simp [e]
theorem Uf.same (h : Uf f es) {u v : Nat} (hu : u < 12) (hv : v < 12) : rootF f u = rootF f v ↔ Tied es u v :=
  ⟨fun e c hc => (h.root_tied 12 u hu hu c hc).trans ((congrArg c e).trans (h.root_tied 12 v hv hv c hc).symm), fun ht => ht (rootF f) h.one⟩
/-- A root is the least of its class. -/
theorem Uf.least (h : Uf f es) {v : Nat} (hv : v < 12) : rootF f v = v ↔ ∀ u, u < v → ¬ Tied es u v := by
  constructor
  · intro e u hu ht
    have h1 := (h.same (by omega) hv).2 ht
    have h2 := rootF_le h.fst (show u < 12 by omega)
    omega
  · intro hn
    rcases Nat.lt_or_ge (rootF f v) v with h1 | h1
    · exact absurd (fun c hc => (h.root_tied 12 v hv hv c hc).symm) (hn _ h1)
    · have := rootF_le h.fst hv
      omega
end

theorem Tied.symm {es : List (Nat × Nat)} {u v : Nat} (h : Tied es u v) : Tied es v u := fun c hc => (h c hc).symm
theorem Tied.refl {es : List (Nat × Nat)} {u : Nat} : Tied es u u := fun c hc => rfl
theorem Tied.trans {es : List (Nat × Nat)} {u v x : Nat} (h : Tied es u v) (h2 : Tied es v x) : Tied es u x := fun c hc => (h c hc).trans (h2 c hc)

/-- Along the edges, step by step: adj says whether two vertices are joined. -/
def nxA (adj : Nat → Nat → Bool) (a b : Nat) : Nat := if adj a b then b else a
theorem rch_tied {adj : Nat → Nat → Bool} {N : Nat} {es : List (Nat × Nat)} (hadj : ∀ a b, adj a b = true ↔ (a, b) ∈ es ∨ (b, a) ∈ es) (hes : ∀ x ∈ es, x.1 < N ∧ x.2 < N) {u v : Nat} : Rch (nxA adj) N u v ↔ Tied es u v := by
  have step : ∀ x y : Nat, adj x y = true → Tied es x y := fun x y h c hc => by
    rcases (hadj x y).1 h with h | h
    · exact hc _ h
    · exact (hc _ h).symm
  constructor
  · intro h
    refine rch_in (P := fun t => Tied es u t) Tied.refl (fun x a hx ha => ?_) h
    unfold nxA
    split
    · exact hx.trans (step x a (by assumption))
    · exact hx
  · intro h
    have go : ∀ x y, y < N → adj x y = true → Rch (nxA adj) N u x → Rch (nxA adj) N u y := fun x y hy hxy hx => by
      have := rch_step hx hy
      simpa [nxA, hxy] using this
    have hcl : ∀ x ∈ es, (Rch (nxA adj) N u x.1 ↔ Rch (nxA adj) N u x.2) := fun x hx =>
      ⟨go _ _ (hes x hx).2 ((hadj _ _).2 (.inl hx)), go _ _ (hes x hx).1 ((hadj _ _).2 (.inr hx))⟩
    have key := h (fun t => @ite Nat (Rch (nxA adj) N u t) (Classical.propDecidable _) 0 1) (fun x hx => by
      by_cases h1 : Rch (nxA adj) N u x.1
      · rw [if_pos h1, if_pos ((hcl x hx).1 h1)]
      · rw [if_neg h1, if_neg fun h2 => h1 ((hcl x hx).2 h2)])
    rw [if_pos rch_refl] at key
    by_cases h2 : Rch (nxA adj) N u v
    · exact h2
    · rw [if_neg h2] at key; cases key

end Go.Proofs.YtnigfddanoaonaaGreat

set_option linter.unusedVariables false
set_option linter.unusedSimpArgs false
namespace Go.Proofs.YtnigfddanoaonaaGreat
open Go.RowKit

def castV (l : List Nat) : List Value := l.map fun n : Nat => .int .i64 n
theorem castV_get {l : List Nat} {i : Nat} (hi : i < l.length) : (castV l)[i]? = some (.int .i64 (l.getD i 0 : Nat)) := by
  simp only [castV, List.getElem?_map, List.getD_eq_getElem?_getD, List.getElem?_eq_getElem hi]
  rfl
theorem castV_set (l : List Nat) (i x : Nat) : (castV l).set i (.int .i64 x) = castV (l.set i x) := by simp [castV, List.map_set]
set_option maxHeartbeats 400000 in
theorem root_any (f : List Nat) (B v : Nat) (w : World) (hb : Box w B (castV f) 219) (hf : Hid (Fst f)) (hv : v < 12) :
    Calls Tryz.prog 173 #[.pointer (some ⟨B, 0, none⟩), .int .i64 v] w fun e w' => e = .returned (.int .i64 (rootF f v : Nat)) ∧ w = w' := by
  go_enter Tryz.func173, Tryz.ntmps173
  go_wp2_with fail
  go_loop [1] (fun uv => ∃ u : Nat, u < 12 ∧ uv = .int .i64 u ∧ Hid (rootF f v = rootF f u)) (fun uv => (intOf uv).toNat)
  case atStart => exact ⟨v, hv, rfl, rfl⟩
  case round =>
    obtain ⟨u, hu, rfl, HU⟩ := hrel
    have c0 := hb.cell u
    rw [castV_get (by rw [hf.out.len]; exact hu)] at c0
    have hle := hf.out.le u hu
    by_cases hfix : f.getD u 0 = u
    · have HR : Hid (rootF f v = u) := HU.out.trans (rootF_self hf.out hfix)
      rw [hfix] at c0
      have hq : ((u : Int) != (u : Int)) = false := by simp
      clear hfix hle
      go_wp2_with fail
      go_ret
      exact ⟨ret_int (by rw [HR.out]), rfl⟩
    · have HR : Hid (rootF f v = rootF f (f.getD u 0)) := HU.out.trans (rootF_step hf.out hu)
      generalize f.getD u 0 = x at c0 hle hfix HR
      have hq : ((x : Int) != (u : Int)) = true := by simp; omega
      have hlt : x < u := by omega
      clear hfix hle
      go_wp2_with fail
      go_round
      case rel => exact ⟨x, by omega, rfl, HR⟩
      case measure => simp [intOf]; omega

def JoinPost (w : World) (B : Nat) (f : List Nat) (a b : Nat) (e : Ending) (w' : World) : Prop :=
  e = .returned (.tuple #[]) ∧ Box w' B (castV (joinF f a b)) 219 ∧ ∀ n, n ≤ B → Below n w w'

set_option maxHeartbeats 400000 in
theorem join_any (f : List Nat) (B a b : Nat) (w : World) (hb : Box w B (castV f) 219) (hf : Hid (Fst f)) (ha : a < 12) (hbb : b < 12) :
    Calls Tryz.prog 172 #[.pointer (some ⟨B, 0, none⟩), .int .i64 a, .int .i64 b] w (JoinPost w B f a b) := by
  have h1 := rootF_le hf.out ha
  have h2 := rootF_le hf.out hbb
  go_enter Tryz.func172, Tryz.ntmps172
  go_wp2_with fail
  refine (root_any f B a _ hb hf ha).mono ?_
  rintro e w2 ⟨rfl, rfl⟩
  go_wp2_with fail
  refine (root_any f B b _ hb hf hbb).mono ?_
  rintro e w2 ⟨rfl, rfl⟩
  have HJ : Hid (joinF f a b = f.set (max (rootF f a) (rootF f b)) (min (rootF f a) (rootF f b))) := rfl
  generalize rootF f a = x at h1 HJ
  generalize rootF f b = y at h2 HJ
  have hlen : f.length = 12 := hf.out.len
  rcases Nat.lt_trichotomy x y with hxy | hxy | hxy
  · skip
    have c0 := hb.cell y
    rw [castV_get (by omega)] at c0
    have f0 := hb.free y
    have hp := hb.put y (.int .i64 x)
    rw [castV_set] at hp
    have HE : Hid (joinF f a b = f.set y x) := by show _ = _; rw [HJ.out, Nat.max_eq_right (by omega), Nat.min_eq_left (by omega)]
    go_wp2_with fail
    go_end0
    exact ⟨rfl, by rw [HE.out]; exact hp, fun n hn => (Below.refl n w).setCell hn _⟩
  · subst hxy
    have c0 := hb.cell x
    rw [castV_get (by omega)] at c0
    have f0 := hb.free x
    have hp := hb.put x (.int .i64 x)
    rw [castV_set] at hp
    have HE : Hid (joinF f a b = f.set x x) := by show _ = _; rw [HJ.out, Nat.max_self, Nat.min_self]
    go_wp2_with fail
    go_end0
    exact ⟨rfl, by rw [HE.out]; exact hp, fun n hn => (Below.refl n w).setCell hn _⟩
  · skip
    have c0 := hb.cell x
    rw [castV_get (by omega)] at c0
    have f0 := hb.free x
    have hp := hb.put x (.int .i64 y)
    rw [castV_set] at hp
    have HE : Hid (joinF f a b = f.set x y) := by show _ = _; rw [HJ.out, Nat.max_eq_left (by omega), Nat.min_eq_right (by omega)]
    go_wp2_with fail
    go_end0
    exact ⟨rfl, by rw [HE.out]; exact hp, fun n hn => (Below.refl n w).setCell hn _⟩

theorem twelve {α : Type} {l : List α} (h : l.length = 12) : ∃ a0 a1 a2 a3 a4 a5 a6 a7 a8 a9 a10 a11, l = [a0, a1, a2, a3, a4, a5, a6, a7, a8, a9, a10, a11] := by
  match l, h with
  | [a0, a1, a2, a3, a4, a5, a6, a7, a8, a9, a10, a11], _ => exact ⟨a0, a1, a2, a3, a4, a5, a6, a7, a8, a9, a10, a11, rfl⟩

set_option maxRecDepth 100000 in
set_option maxHeartbeats 1000000 in
theorem grown_any (w : World) : Calls Tryz.prog 171 #[] w fun e w' => e = .returned (.agg #[.int .i64 0, .int .i64 1, .int .i64 2, .int .i64 3, .int .i64 4, .int .i64 5, .int .i64 6, .int .i64 7, .int .i64 8, .int .i64 9, .int .i64 10, .int .i64 11]) ∧ Below w.heap.size w w' := by
  go_enter Tryz.func171, Tryz.ntmps171
  go_wp2_with fail
  have hb0 := box_refl w (.cells (castV (List.replicate 12 0)).toArray 219)
  have hb1 := Box.new (w.alloc (.cells (castV (List.replicate 12 0)).toArray 219)) (castV (List.replicate 12 0)) 219
  have hb2 := box_new hb0 (by simp) (.cells (castV (List.replicate 12 0)).toArray 219)
  rw [World.size_alloc] at hb1
  go_loopw [3] (fun iv wr => ∃ (k : Nat) (fl : List Nat), k ≤ 12 ∧ iv = .int .i64 k ∧ Hid (fl.length = 12 ∧ ∀ j, j < k → fl.getD j 0 = j) ∧ Box wr (w.heap.size + 1) (castV fl) 219 ∧
    Below (w.heap.size + 1) (w.alloc (.cells (castV (List.replicate 12 0)).toArray 219)) wr) (fun iv _ => 12 - (intOf iv).toNat)
  case atStart => exact ⟨0, _, by omega, rfl, ⟨by simp, fun j hj => by omega⟩, hb1, hb2⟩
  case round =>
    obtain ⟨k, fl, hk, rfl, HF, hbx, hbb⟩ := hrel
    by_cases hlt : k < 12
    · have c0 := hbx.cell k
      rw [castV_get (by rw [HF.out.1]; exact hlt)] at c0
      have f0 := hbx.free k
      have hp := hbx.put k (.int .i64 k)
      rw [castV_set] at hp
      have HF2 : Hid ((fl.set k k).length = 12 ∧ ∀ j, j < k + 1 → (fl.set k k).getD j 0 = j) := by
        refine ⟨by simp [HF.out.1], fun j hj => ?_⟩
        rw [getD_setN (by rw [HF.out.1]; exact hlt)]
        split
        · assumption
        · exact HF.out.2 j (by omega)
      go_wp2_with fail
      go_roundw
      case rel => exact ⟨k + 1, _, by omega, by go_num, HF2, hp, hbb.setCell (by simp) _⟩
      case measure => simp [intOf]; omega
    · have hfl : fl = List.range 12 := by
        apply List.ext_getElem
        · simp [HF.out.1]
        · intro i h1 h2
          have := HF.out.2 i (by have := HF.out.1; omega)
          rw [List.getD_eq_getElem?_getD, List.getElem?_eq_getElem h1] at this
          simpa using this
      subst hfl
      have q0 := hbx.cell 0
      have q1 := hbx.cell 1
      have q2 := hbx.cell 2
      have q3 := hbx.cell 3
      have q4 := hbx.cell 4
      have q5 := hbx.cell 5
      have q6 := hbx.cell 6
      have q7 := hbx.cell 7
      have q8 := hbx.cell 8
      have q9 := hbx.cell 9
      have q10 := hbx.cell 10
      have q11 := hbx.cell 11
      have E12 : castV (List.range 12) = [.int .i64 0, .int .i64 1, .int .i64 2, .int .i64 3, .int .i64 4, .int .i64 5, .int .i64 6, .int .i64 7, .int .i64 8, .int .i64 9, .int .i64 10, .int .i64 11] := rfl
      have Z12 : castV (List.replicate 12 0) = [.int .i64 0, .int .i64 0, .int .i64 0, .int .i64 0, .int .i64 0, .int .i64 0, .int .i64 0, .int .i64 0, .int .i64 0, .int .i64 0, .int .i64 0, .int .i64 0] := rfl
      rw [E12] at q0 q1 q2 q3 q4 q5 q6 q7 q8 q9 q10 q11
      simp only [List.getElem?_cons_zero, List.getElem?_cons_succ] at q0 q1 q2 q3 q4 q5 q6 q7 q8 q9 q10 q11
      have hr : Box wr w.heap.size (castV (List.replicate 12 0)) 219 := (hbb.block w.heap.size (by omega)).trans (heap_alloc_new w _)
      have r0 := hr.cell 0
      have r1 := hr.cell 1
      have r2 := hr.cell 2
      have r3 := hr.cell 3
      have r4 := hr.cell 4
      have r5 := hr.cell 5
      have r6 := hr.cell 6
      have r7 := hr.cell 7
      have r8 := hr.cell 8
      have r9 := hr.cell 9
      have r10 := hr.cell 10
      have r11 := hr.cell 11
      rw [Z12] at r0 r1 r2 r3 r4 r5 r6 r7 r8 r9 r10 r11
      simp only [List.getElem?_cons_zero, List.getElem?_cons_succ] at r0 r1 r2 r3 r4 r5 r6 r7 r8 r9 r10 r11
      have fr := fun i => hr.free i
      have hsz := hr.lt
      clear hb0 hb1 hb2 E12 Z12 HF hbx
      go_wp2_with fail
      have hfin := ((((((((((((hr.put 0 (.int .i64 0)).put 1 (.int .i64 1)).put 2 (.int .i64 2)).put 3 (.int .i64 3)).put 4 (.int .i64 4)).put 5 (.int .i64 5)).put 6 (.int .i64 6)).put 7 (.int .i64 7)).put 8 (.int .i64 8)).put 9 (.int .i64 9)).put 10 (.int .i64 10)).put 11 (.int .i64 11))
      rw [show castV (List.replicate 12 0) = [.int .i64 0, .int .i64 0, .int .i64 0, .int .i64 0, .int .i64 0, .int .i64 0, .int .i64 0, .int .i64 0, .int .i64 0, .int .i64 0, .int .i64 0, .int .i64 0] from rfl] at hfin
      simp only [List.set_cons_zero, List.set_cons_succ] at hfin
      have z0 := hfin.cell 0
      have z1 := hfin.cell 1
      have z2 := hfin.cell 2
      have z3 := hfin.cell 3
      have z4 := hfin.cell 4
      have z5 := hfin.cell 5
      have z6 := hfin.cell 6
      have z7 := hfin.cell 7
      have z8 := hfin.cell 8
      have z9 := hfin.cell 9
      have z10 := hfin.cell 10
      have z11 := hfin.cell 11
      simp only [List.getElem?_cons_zero, List.getElem?_cons_succ] at z0 z1 z2 z3 z4 z5 z6 z7 z8 z9 z10 z11
      have hbf := (below_box hbb)
      refine bodyPost_ret (v := .agg #[.int .i64 0, .int .i64 1, .int .i64 2, .int .i64 3, .int .i64 4, .int .i64 5, .int .i64 6, .int .i64 7, .int .i64 8, .int .i64 9, .int .i64 10, .int .i64 11]) ?_ rfl ⟨rfl, ?_⟩
      · simp [results, Tryz.results171, go_sem, z0, z1, z2, z3, z4, z5, z6, z7, z8, z9, z10, z11]
      · exact (((((((((((hbf.setCell (Nat.le_refl _) _).setCell (Nat.le_refl _) _).setCell (Nat.le_refl _) _).setCell (Nat.le_refl _) _).setCell (Nat.le_refl _) _).setCell (Nat.le_refl _) _).setCell (Nat.le_refl _) _).setCell (Nat.le_refl _) _).setCell (Nat.le_refl _) _).setCell (Nat.le_refl _) _).setCell (Nat.le_refl _) _).setCell (Nat.le_refl _) _

end Go.Proofs.YtnigfddanoaonaaGreat

set_option linter.unusedVariables false
set_option linter.unusedSimpArgs false
namespace Go.Proofs.YtnigfddanoaonaaGreat
open Go.RowKit

def eL (es : List Edg) : List (Nat × Nat) := es.map fun x => (x.a.toNat, x.b.toNat)
theorem eL_next {es : List Edg} {k : Nat} {a b : Nat} {m : Int} (h : es[k]? = some ⟨a, b, m⟩) : eL (es.take (k + 1)) = eL (es.take k) ++ [(a, b)] := by
  rw [List.take_add_one, h]
  simp [eL]
theorem eL_lt {n : Int} {es : List Edg} (hV : gErr n es = 0) (k : Nat) : ∀ x ∈ eL (es.take k), x.1 < 12 ∧ x.2 < 12 := by
  intro x hx
  simp only [eL, List.mem_map] at hx
  obtain ⟨y, hy, rfl⟩ := hx
  have h := (gErr_zero hV).2.1 y (List.mem_of_mem_take hy)
  have h2 := (gErr_zero hV).1
  constructor
  · simp only; omega
  · simp only; omega

def ForestPost (w : World) (es : List Edg) (e : Ending) (w' : World) : Prop :=
  ∃ f, e = .returned (.agg (castV f).toArray) ∧ Uf f (eL es) ∧ Below w.heap.size w w'

set_option maxRecDepth 100000 in
set_option maxHeartbeats 2000000 in
theorem joinedG_any (n : Int) (es : List Edg) (oe : Option Addr) (c : Nat) (F : Foot) (w : World) (hs : SliceR edgR 3 F w oe es) (hc : es.length ≤ c) (hc2 : es.length ≤ 9223372036854775807) (hV : Hid (gErr n es = 0)) :
    Calls Tryz.prog 163 #[.agg #[.int .i64 n, .slice oe es.length c]] w (ForestPost w es) := by
  go_enter Tryz.func163, Tryz.ntmps163
  go_wp2_with fail
  refine (grown_any _).mono ?_
  rintro e w2 ⟨rfl, hb2⟩
  have hx2 := box_then (box_new (box_refl w (.cells #[.int .i64 n, .slice oe es.length c] 43)) (by simp) (.cells #[.int .i64 0, .int .i64 0, .int .i64 0, .int .i64 0, .int .i64 0, .int .i64 0, .int .i64 0, .int .i64 0, .int .i64 0, .int .i64 0, .int .i64 0, .int .i64 0] 219)) (by simp) hb2
  have hr2 := (Box.new (w.alloc (.cells #[.int .i64 n, .slice oe es.length c] 43)) [.int .i64 0, .int .i64 0, .int .i64 0, .int .i64 0, .int .i64 0, .int .i64 0, .int .i64 0, .int .i64 0, .int .i64 0, .int .i64 0, .int .i64 0, .int .i64 0] 219).below hb2
  rw [World.size_alloc] at hr2
  have hsz2 := hr2.lt
  have d1 := box_cell hx2 1
  simp at d1
  have hszx : w.heap.size < w2.heap.size := by omega
  have d1n := cell_next d1 (.cells #[.int .i64 0, .int .i64 1, .int .i64 2, .int .i64 3, .int .i64 4, .int .i64 5, .int .i64 6, .int .i64 7, .int .i64 8, .int .i64 9, .int .i64 10, .int .i64 11] 219)
  clear hb2
  go_wp2_with fail
  have hx3 := box_new hx2 (by simp) (.cells #[.int .i64 0, .int .i64 1, .int .i64 2, .int .i64 3, .int .i64 4, .int .i64 5, .int .i64 6, .int .i64 7, .int .i64 8, .int .i64 9, .int .i64 10, .int .i64 11] 219)
  have hf3 : Box (w2.alloc (.cells #[.int .i64 0, .int .i64 1, .int .i64 2, .int .i64 3, .int .i64 4, .int .i64 5, .int .i64 6, .int .i64 7, .int .i64 8, .int .i64 9, .int .i64 10, .int .i64 11] 219)) w2.heap.size (castV (List.range 12)) 219 := Box.new w2 (castV (List.range 12)) _
  have hr3 := hr2.next (.cells #[.int .i64 0, .int .i64 1, .int .i64 2, .int .i64 3, .int .i64 4, .int .i64 5, .int .i64 6, .int .i64 7, .int .i64 8, .int .i64 9, .int .i64 10, .int .i64 11] 219)
  have hU := hide (Uf.begin)
  clear hx2 hr2 d1 d1n
  go_loopw [10] (fun iv wr => ∃ (k : Nat) (f : List Nat), k ≤ es.length ∧ iv = .int .i64 k ∧ Hid (Uf f (eL (es.take k))) ∧ Box wr w2.heap.size (castV f) 219 ∧ Box wr (w.heap.size + 1) [.int .i64 0, .int .i64 0, .int .i64 0, .int .i64 0, .int .i64 0, .int .i64 0, .int .i64 0, .int .i64 0, .int .i64 0, .int .i64 0, .int .i64 0, .int .i64 0] 219 ∧
    Below (w.heap.size + 1) (w.alloc (.cells #[.int .i64 n, .slice oe es.length c] 43)) wr) (fun iv _ => es.length - (intOf iv).toNat)
  case atStart => exact ⟨0, _, by omega, rfl, hU, hf3, hr3, hx3⟩
  case round =>
    obtain ⟨k, f, hk, rfl, HU, hf, hr, hb⟩ := hrel
    clear hx3 hf3 hr3 hU
    have hszf := hf.lt
    by_cases hlt : k < es.length
    · obtain ⟨a, b, m, _, hget, _, _, _, bl, off, rfl, _, c0, c1, c2⟩ := (hs.below edgR_ok (below_box hb)).edg_at hlt
      have hve := (gErr_zero hV.out).2.1 _ (List.mem_of_getElem? hget)
      have hvn := (gErr_zero hV.out).1
      simp only at hve
      obtain ⟨a, rfl⟩ := Int.eq_ofNat_of_zero_le hve.1.1
      obtain ⟨b, rfl⟩ := Int.eq_ofNat_of_zero_le hve.2.1.1
      have ha : a < 12 := by omega
      have hbb : b < 12 := by omega
      have hbl := World.block_lt_of_cell? _ _ c0
      simp only at hbl
      have HU2 : Hid (Uf (joinF f a b) (eL (es.take (k + 1)))) := by
        show Uf _ _
        rw [eL_next hget]
        exact HU.out.join ha hbb (eL_lt hV.out k)
      have HF := hide HU.out.fst
      have bx := Box.new wr [.int .i64 a, .int .i64 b, .int .i64 m] 145
      have x0 := bx.cell 0
      have x1 := bx.cell 1
      simp at x0 x1
      clear hget hve bx
      go_wp2_with fail
      refine (join_any f w2.heap.size a b _ (hf.next _) HF ha hbb).mono ?_
      rintro e w4 ⟨rfl, hf4, hb4⟩
      have hb4a := hb4 (w.heap.size + 2) (by omega)
      go_wp2_with fail
      go_roundw
      case rel => exact ⟨k + 1, _, by omega, by go_num, HU2, hf4, (hr.next _).under hb4a (by omega), (box_new hb (by simp) _).trans (hb4a.mono (by omega))⟩
      case measure => simp [intOf]; omega
    · have hk2 : k = es.length := by omega
      have HUF : Hid (Uf f (eL es)) := by
        have := HU.out
        rw [hk2, List.take_length] at this
        exact this
      obtain ⟨a0, a1, a2, a3, a4, a5, a6, a7, a8, a9, a10, a11, rfl⟩ := twelve HU.out.fst.len
      have q : ∀ i, wr.cell? ⟨w2.heap.size, i, none⟩ = ([.int .i64 (a0 : Nat), .int .i64 (a1 : Nat), .int .i64 (a2 : Nat), .int .i64 (a3 : Nat), .int .i64 (a4 : Nat), .int .i64 (a5 : Nat), .int .i64 (a6 : Nat), .int .i64 (a7 : Nat), .int .i64 (a8 : Nat), .int .i64 (a9 : Nat), .int .i64 (a10 : Nat), .int .i64 (a11 : Nat)] : List Value)[i]? := fun i => hf.cell i
      have q0 := q 0
      have q1 := q 1
      have q2 := q 2
      have q3 := q 3
      have q4 := q 4
      have q5 := q 5
      have q6 := q 6
      have q7 := q 7
      have q8 := q 8
      have q9 := q 9
      have q10 := q 10
      have q11 := q 11
      simp only [List.getElem?_cons_zero, List.getElem?_cons_succ] at q0 q1 q2 q3 q4 q5 q6 q7 q8 q9 q10 q11
      have r0 := hr.cell 0
      have r1 := hr.cell 1
      have r2 := hr.cell 2
      have r3 := hr.cell 3
      have r4 := hr.cell 4
      have r5 := hr.cell 5
      have r6 := hr.cell 6
      have r7 := hr.cell 7
      have r8 := hr.cell 8
      have r9 := hr.cell 9
      have r10 := hr.cell 10
      have r11 := hr.cell 11
      simp only [List.getElem?_cons_zero, List.getElem?_cons_succ] at r0 r1 r2 r3 r4 r5 r6 r7 r8 r9 r10 r11
      have fr := fun i => hr.free i
      have hszr := hr.lt
      have hbf := below_box hb
      have HHR := hide hr
      clear hk2 HU q hf hr
      go_wp2_with fail
      have hfin := ((((((((((((HHR.out.put 0 (.int .i64 (a0 : Nat))).put 1 (.int .i64 (a1 : Nat))).put 2 (.int .i64 (a2 : Nat))).put 3 (.int .i64 (a3 : Nat))).put 4 (.int .i64 (a4 : Nat))).put 5 (.int .i64 (a5 : Nat))).put 6 (.int .i64 (a6 : Nat))).put 7 (.int .i64 (a7 : Nat))).put 8 (.int .i64 (a8 : Nat))).put 9 (.int .i64 (a9 : Nat))).put 10 (.int .i64 (a10 : Nat))).put 11 (.int .i64 (a11 : Nat)))
      simp only [List.set_cons_zero, List.set_cons_succ] at hfin
      have z0 := hfin.cell 0
      have z1 := hfin.cell 1
      have z2 := hfin.cell 2
      have z3 := hfin.cell 3
      have z4 := hfin.cell 4
      have z5 := hfin.cell 5
      have z6 := hfin.cell 6
      have z7 := hfin.cell 7
      have z8 := hfin.cell 8
      have z9 := hfin.cell 9
      have z10 := hfin.cell 10
      have z11 := hfin.cell 11
      simp only [List.getElem?_cons_zero, List.getElem?_cons_succ] at z0 z1 z2 z3 z4 z5 z6 z7 z8 z9 z10 z11
      refine bodyPost_ret (v := .agg #[.int .i64 (a0 : Nat), .int .i64 (a1 : Nat), .int .i64 (a2 : Nat), .int .i64 (a3 : Nat), .int .i64 (a4 : Nat), .int .i64 (a5 : Nat), .int .i64 (a6 : Nat), .int .i64 (a7 : Nat), .int .i64 (a8 : Nat), .int .i64 (a9 : Nat), .int .i64 (a10 : Nat), .int .i64 (a11 : Nat)]) ?_ rfl ⟨[a0, a1, a2, a3, a4, a5, a6, a7, a8, a9, a10, a11], rfl, HUF.out, ?_⟩
      · simp [results, Tryz.results163, go_sem, z0, z1, z2, z3, z4, z5, z6, z7, z8, z9, z10, z11]
      · exact (((((((((((hbf.setCell (by simp) _).setCell (by simp) _).setCell (by simp) _).setCell (by simp) _).setCell (by simp) _).setCell (by simp) _).setCell (by simp) _).setCell (by simp) _).setCell (by simp) _).setCell (by simp) _).setCell (by simp) _).setCell (by simp) _

end Go.Proofs.YtnigfddanoaonaaGreat

set_option linter.unusedVariables false
set_option linter.unusedSimpArgs false
namespace Go.Proofs.YtnigfddanoaonaaGreat
open Go.RowKit Go.Maps

theorem intInfo8 : (Tryz.prog.info? 3).map (fun i => (i.zero, i.size, i.bytes)) = some (some (.int .i64 0), 1, 8) := by kernel_rfl
theorem listInfo : (Tryz.prog.info? 23).map (fun i => (i.zero, i.size, i.bytes)) = some (some (.slice none 0 0), 1, 24) := by kernel_rfl
theorem keyLaw : Keyed Tryz.prog 3 := int_keyed Tryz.underlying3
theorem zeroInt (w : World) : (zeroValue 3).run Tryz.prog w = .ok (.int .i64 0) w := by kernel_rfl
abbrev DU := DataW Unit
def kl (r : Nat) : Lit := .int .i64 r
def vl (r : Nat) : DU := .lit (.int .i64 r)
theorem nat_wf {r : Nat} (h : r < 9223372036854775808) : (Lit.int .i64 (r : Nat)).wf = true := WalkArith.wf_i64 ⟨by omega, by omega⟩

set_option maxRecDepth 100000 in
theorem look_at {w : World} {b n : Nat} {D : DU} (h : w.ownsMap Tryz.prog 3 (plainElem (H := Unit) Tryz.prog 3) b n D) {r i : Nat} (hr : r < 9223372036854775808) (hat : D.atKey (kl r) (vl 0) = vl i) :
    (Instr.lookup 229 (.map (some b)) (.int .i64 (r : Nat)) false).run Tryz.prog w = .ok (.int .i64 (i : Nat)) w := by
  obtain ⟨c, hrun, hc, _⟩ := World.ownsMap.lookup_int h keyLaw Tryz.underlying229 Tryz.underlying3 (zeroInt w) (keyOf_int_mk Tryz.underlying3 (nat_wf hr))
  have : vl i = (.lit (.int .i64 c) : DU) := hat.symm.trans hc
  simp only [vl, DataW.lit.injEq, Lit.int.injEq, true_and] at this
  rw [hrun, this]

theorem grown_setR (w : World) (p : Addr) (v : Value) : w.grownBy (w.setCell p v) (some p.block) := ⟨rfl, rfl, rfl, by simp, fun k _ hk => heap_setCell_other w p k v (fun e => hk (by simp [e]))⟩
theorem one_cell {w : World} {t : TypeId} {v : Value} {j : Nat} {u : Value} (h : [v][j]? = some u) : (w.alloc (.cells #[v] t)).cell? ((⟨w.heap.size, 0, none⟩ : Addr).add j) = some u := by
  have hj : j = 0 := by
    have := (List.getElem?_eq_some_iff.1 h).1
    simp at this
    exact this
  subst hj
  simp at h
  subst h
  exact (Box.new w [v] t).cell 0

/-- How many of the first n vertices stand for themselves. -/
def cnt (f : List Nat) (n : Nat) : Nat := ((List.range n).filter fun v => rootF f v == v).length
theorem cnt_yes {f : List Nat} {k : Nat} (h : rootF f k = k) : cnt f (k + 1) = cnt f k + 1 := by
  simp [cnt, List.range_succ, List.filter_append, h]
theorem cnt_no {f : List Nat} {k : Nat} (h : ¬ rootF f k = k) : cnt f (k + 1) = cnt f k := by
  simp [cnt, List.range_succ, List.filter_append, h]

def PartsPost (w : World) (f : List Nat) (n : Nat) (e : Ending) (w' : World) : Prop := ∃ oa c, e = .returned (.slice oa (cnt f n) c) ∧ Below w.heap.size w w'

set_option maxRecDepth 100000 in
set_option maxHeartbeats 4000000 in
theorem parts_any (f : List Nat) (B n : Nat) (w : World) (hb : Box w B (castV f) 219) (hf : Hid (Fst f)) (hn : n ≤ 12) :
    Calls Tryz.prog 164 #[.pointer (some ⟨B, 0, none⟩), .int .i64 n] w (PartsPost w f n) := by
  have hmm := @run_makeMap Tryz.prog
  have hBl := hb.lt
  obtain ⟨i0, hi0, hz0, hz1, hz2⟩ := info_parts listInfo
  go_enter Tryz.func164, Tryz.ntmps164
  go_wp2_with fail
  have hm0 := World.ownsMap_made (H := Unit) w Tryz.prog 3 (plainElem (H := Unit) Tryz.prog 3)
  have hb0 : Below w.heap.size w (w.alloc (.map #[] 0)) := (Below.refl _ _).alloc (Nat.le_refl _) _
  go_loopw [5, 11] (fun ov iv wr => ∃ (k : Nat) (vs : List Value) (xss : List (List Int)) (m : Nat) (D : DU), k ≤ n ∧ iv = .int .i64 k ∧ Hid (vs.length = cnt f k) ∧ Lists (w.heap.size + 1) 3 23 wr ov vs xss ∧
      wr.ownsMap Tryz.prog 3 (plainElem (H := Unit) Tryz.prog 3) w.heap.size m D ∧ m ≤ k ∧ vs.length ≤ k ∧ Hid (∀ r, r < k → rootF f r = r → ∃ i, i < vs.length ∧ D.atKey (kl r) (vl 0) = vl i) ∧ Hid (∀ xs ∈ xss, xs.length ≤ k) ∧ Below w.heap.size w wr) (fun _ iv _ => n - (intOf iv).toNat)
  case atStart => exact ⟨0, [], [], 0, _, by omega, rfl, rfl, Lists.nil _ _ _ _, hm0, by omega, by simp, fun r hr => by omega, fun xs hx => by simp at hx, hb0⟩
  case round =>
    clear hm0 hb0
    obtain ⟨k, vs, xss, m, D, hk, rfl, HC, HL, hmap, hmk, hvk, HI, HS, hbW⟩ := hrel
    by_cases hlt : k < n
    · have HR : Hid (rootF f k ≤ k) := rootF_le hf.out (by omega)
      have HRR : Hid (rootF f (rootF f k) = rootF f k) := rootF_self hf.out (rootF_fix hf.out (by omega))
      have hbw := hb.below hbW
      have hk12 : k < 12 := by omega
      have hszr := hbW.size
      go_wp2_with fail
      refine (root_any f B k _ hbw hf hk12).mono ?_
      rintro e w2 ⟨rfl, rfl⟩
      have hrk := HR.out
      by_cases hroot : rootF f k = k
      · have HC2 : Hid (vs.length + 1 = cnt f (k + 1)) := by show _ = _; rw [cnt_yes hroot, HC.out]
        rw [hroot]
        have hiD : IsMap D := hmap.isMap
        have HI2 : Hid (∀ r, r < k + 1 → rootF f r = r → ∃ i, i < (vs ++ [Value.slice none 0 0]).length ∧ (D.put (kl k) (vl vs.length)).atKey (kl r) (vl 0) = vl i) := by
          intro r hr hrr
          by_cases he : r = k
          · subst he
            exact ⟨vs.length, by simp, atKey_put_same hiD (show WideAt.IsKeyLit (kl r) from trivial) _ _⟩
          · obtain ⟨i, h1, h2⟩ := HI.out r (by omega) hrr
            exact ⟨i, by simp; omega, (atKey_put_other (fun h => he (by simp [kl] at h; omega)) _ _).trans h2⟩
        have HS2 : Hid (∀ xs ∈ xss ++ [[]], xs.length ≤ k) := by
          intro xs hxs
          rcases List.mem_append.1 hxs with h | h
          · exact HS.out xs h
          · simp at h; subst h; simp
        have hvs : (Lit.int .i64 (vs.length : Nat)).wf = true := nat_wf (by omega)
        have hq : ((k : Int) == (k : Int)) = true := by simp
        have hlen : ∃ oa c, u5 = .slice oa vs.length c := by
          rcases Go.Joins.ownsRow_forms HL.row with ⟨h1, h2⟩ | ⟨g, c, h1⟩
          · rw [h2]; exact ⟨_, _, h1⟩
          · exact ⟨_, _, h1⟩
        obtain ⟨oa, c0, rfl⟩ := hlen
        clear hroot HC HI HS hrk HR HRR hiD
        go_wp2_with (first
          | (at_mapUpdate; refine wpList_mapUpdate_own _ rfl _ _ _ 229 rfl 3 3 keyLaw Tryz.underlying229 (plainElem (H := Unit) Tryz.prog 3) w.heap.size m D rfl hmap (by unfold maxLen; omega) _ _ (kl k) rfl rfl (keyOf_int_mk Tryz.underlying3 (nat_wf (by omega))) (vl vs.length) [] (plainElem_int Tryz.underlying3 hvs) ?_; intro w2 hmap2 hgm)
          | (at_builtin; refine wpList_append_own_at _ rfl (.tmp 24) (.tmp 25) 24 rfl (w.heap.size + 1) 23 i0 _ 1 24 Tryz.underlying24 hi0 hz0 hz1 hz2 rfl (by decide) (.slice oa vs.length c0) vs.length vs rfl ((HL.under hgm (by omega)).row.alloc _) ⟨w2.heap.size, 0, none⟩ 1 1 [.slice none 0 0] rfl rfl (fun j u hj => one_cell hj) (by simp [Value.oneCell']) (by unfold maxLen; omega) (by omega) (by have := hgm.size; simp; omega) ?_; intro ov2 w4 hrow4 hg4 hnil4 hat4)
          | fail)
        obtain ⟨vs', xss', m', D', i, HC, HL, hmap, hmk, hvk, HI, HS, hbW, hi, hat⟩ : ∃ (vs' : List Value) (xss' : List (List Int)) (m' : Nat) (D' : DU) (i : Nat), Hid (vs'.length = cnt f (k + 1)) ∧ Lists (w.heap.size + 1) 3 23 w4 ov2 vs' xss' ∧ w4.ownsMap Tryz.prog 3 (plainElem (H := Unit) Tryz.prog 3) w.heap.size m' D' ∧ m' ≤ k + 1 ∧ vs'.length ≤ k + 1 ∧
            Hid (∀ r, r < k + 1 → rootF f r = r → ∃ i, i < vs'.length ∧ D'.atKey (kl r) (vl 0) = vl i) ∧ Hid (∀ xs ∈ xss', xs.length ≤ k) ∧ Below w.heap.size w w4 ∧ i < vs'.length ∧ Hid (D'.atKey (kl k) (vl 0) = vl i) := by
          refine ⟨_, _, m + 1, _, vs.length, by simpa using HC2, (HL.under hgm (by omega)).snoc hrow4 hg4 hat4, (hmap2.alloc _).kept hg4 (fun he => by have := (HL.row.lt _ he.symm).1; omega), by omega, by simp; omega, HI2, HS2, ?_, by simp, hide (atKey_put_same hmap.isMap (show WideAt.IsKeyLit (kl k) from trivial) _ _)⟩
          exact (((hbW.grown hgm (by omega) fun q hq => by injection hq with hq; omega).alloc (by have := hgm.size; omega) _).grown hg4 (by have := hgm.size; simp; omega) fun q hq => by have := (HL.row.lt _ hq).1; omega)
        clear HC2 HI2 HS2 hmap2 hgm hrow4 hg4 hnil4 hat4 hvs
        obtain ⟨g, cap, rfl⟩ := Go.Joins.ownsRow_form HL.row (by omega)
        obtain ⟨v, hv⟩ : ∃ v, vs'[i]? = some v := ⟨vs'[i], List.getElem?_eq_getElem hi⟩
        obtain ⟨xs, hx⟩ : ∃ xs, xss'[i]? = some xs := ⟨xss'[i]'(by rw [← HL.len]; exact hi), List.getElem?_eq_getElem _⟩
        have hcell := HL.row.cellAt i (by omega)
        rw [hv] at hcell
        have hfree := HL.row.frozenAt i
        have hgl := (HL.row.lt g rfl).2
        have hgb := (HL.row.lt g rfl).1
        have hxl := HS.out xs (List.mem_of_getElem? hx)
        have hown := (HL.ms.own i v xs hv hx)
        have hvb := fun q hq => HL.ms.block hv q hq
        have HG := hide (fun w' v' h1 h2 h3 => HL.draw.grow (w' := w') (v' := v') (x := (k : Int)) (o := .cells #[.int .i64 (k : Nat)] 3) hv hx h1 h2 h3)
        have hoffv : v.ownBlock ≠ some g := fun he => HL.off i v g hv he rfl
        have hszW := hbW.size
        have HS2 : Hid (∀ ys ∈ xss'.set i (xs ++ [(k : Int)]), ys.length ≤ k + 1) := by
          intro ys hys
          rcases List.mem_or_eq_of_mem_set hys with h | h
          · exact Nat.le_succ_of_le (HS.out ys h)
          · subst h; simp; exact hxl
        have HBW := hide hbW
        have L1 := look_at hmap.drew (show k < 9223372036854775808 by omega) hat.out
        have L2 := look_at (hmap.alloc (.cells #[.int .i64 (k : Nat)] 3)).drew (show k < 9223372036854775808 by omega) hat.out
        clear hv hx HL hbW HS
        go_wp2_with fail
        go_region_law (refine step_append_n rfl (.tmp 36) (.tmp 38) 23 rfl (w.heap.size + 1) 3 _ Tryz.underlying23 intInfo8 rfl v xs (by simp [Act.eval, Act.put]) (hown.draw.new _) ⟨w4.heap.size, 0, none⟩ 1 (k : Int) (by simp [Act.eval, Act.put]) (one_cell rfl) (by constructor <;> omega) (by omega) (by simp; omega) ?_; intro v' w3 ho3 hb3 hg3 hv3; obtain ⟨oa3, c3, rfl, _, _⟩ := ho3.slice; have hm3 := (hmap.drew.alloc (.cells #[.int .i64 (k : Nat)] 3)).kept hg3 (fun he => by have := (hvb _ he.symm).1; omega); have L3 := look_at hm3 (show k < 9223372036854775808 by omega) hat.out; have hf3 : w3.frozen? ⟨g, i, none⟩ = false := (hg3.frozen_far ⟨g, i, none⟩ (by simp; omega) (fun he => hoffv he.symm)).trans (((World.grownBy_alloc w4.drew _ none).frozen_far ⟨g, i, none⟩ hgl (by simp)).trans hfree); have hc3 : w3.cell? ⟨g, i, none⟩ = some v := (hg3.cell_far ⟨g, i, none⟩ (by simp; omega) (fun he => hoffv he.symm)).trans (((World.grownBy_alloc w4.drew _ none).cell_far ⟨g, i, none⟩ hgl (by simp)).trans hcell))
        all_goals
          have hL := HG.out _ _ ho3 hg3 hv3
          rw [List.length_set] at hL
          have hBf := ((HBW.out.drew.alloc hszW (.cells #[.int .i64 (k : Nat)] 3)).trans (hb3.mono (by omega))).setCell (p := ⟨g, i, none⟩) (by simp; omega) (.slice oa3 (xs ++ [(k : Int)]).length c3)
          have hmf := hm3.kept (grown_setR w3 ⟨g, i, none⟩ (.slice oa3 (xs ++ [(k : Int)]).length c3)) (by simp; omega)
          simp only [List.length_append, List.length_cons, List.length_nil, Nat.zero_add] at hL hBf hmf
          have HH := hide (And.intro hL (And.intro hBf hmf))
          clear hL hBf hmf L1 L2 L3 hf3 hc3 hcell hfree ho3 hg3 hv3 hb3
          go_wp2_with fail
          go_roundw
          case rel => exact ⟨k + 1, _, _, m', D', by omega, by go_num, (by show _ = _; rw [List.length_set]; exact HC.out), HH.out.1, HH.out.2.2, hmk, by simp; exact hvk, by rw [List.length_set]; exact HI, HS2, HH.out.2.1⟩
          case measure => simp [intOf]; omega
      · have HC2 : Hid (vs.length = cnt f (k + 1)) := by show _ = _; rw [cnt_no hroot, HC.out]
        have HI2 : Hid (∀ r, r < k + 1 → rootF f r = r → ∃ i, i < vs.length ∧ D.atKey (kl r) (vl 0) = vl i) := by
          intro r hr hrr
          by_cases he : r = k
          · subst he; exact (hroot hrr).elim
          · exact HI.out r (by omega) hrr
        clear HI
        generalize rootF f k = r at hroot hrk HR HRR
        have hq : ((r : Int) == (k : Int)) = false := by simp; omega
        obtain ⟨i0', h1, h2⟩ := HI2.out r (by omega) HRR.out
        obtain ⟨vs', xss', m', D', i, HC, HL, hmap, hmk, hvk, HI, HS, hbW, hi, hat⟩ : ∃ (vs' : List Value) (xss' : List (List Int)) (m' : Nat) (D' : DU) (i : Nat), Hid (vs'.length = cnt f (k + 1)) ∧ Lists (w.heap.size + 1) 3 23 wr u5 vs' xss' ∧ wr.ownsMap Tryz.prog 3 (plainElem (H := Unit) Tryz.prog 3) w.heap.size m' D' ∧ m' ≤ k + 1 ∧ vs'.length ≤ k + 1 ∧
            Hid (∀ r, r < k + 1 → rootF f r = r → ∃ i, i < vs'.length ∧ D'.atKey (kl r) (vl 0) = vl i) ∧ Hid (∀ xs ∈ xss', xs.length ≤ k) ∧ Below w.heap.size w wr ∧ i < vs'.length ∧ Hid (D'.atKey (kl r) (vl 0) = vl i) := by
          exact ⟨_, _, m, _, i0', HC2, HL, hmap, by omega, by omega, HI2, HS, hbW, h1, h2⟩
        clear HC2 HI2 hroot HR HRR
        obtain ⟨g, cap, rfl⟩ := Go.Joins.ownsRow_form HL.row (by omega)
        obtain ⟨v, hv⟩ : ∃ v, vs'[i]? = some v := ⟨vs'[i], List.getElem?_eq_getElem hi⟩
        obtain ⟨xs, hx⟩ : ∃ xs, xss'[i]? = some xs := ⟨xss'[i]'(by rw [← HL.len]; exact hi), List.getElem?_eq_getElem _⟩
        have hcell := HL.row.cellAt i (by omega)
        rw [hv] at hcell
        have hfree := HL.row.frozenAt i
        have hgl := (HL.row.lt g rfl).2
        have hgb := (HL.row.lt g rfl).1
        have hxl := HS.out xs (List.mem_of_getElem? hx)
        have hown := (HL.ms.own i v xs hv hx)
        have hvb := fun q hq => HL.ms.block hv q hq
        have HG := hide (fun w' v' h1 h2 h3 => HL.draw.grow (w' := w') (v' := v') (x := (k : Int)) (o := .cells #[.int .i64 (k : Nat)] 3) hv hx h1 h2 h3)
        have hoffv : v.ownBlock ≠ some g := fun he => HL.off i v g hv he rfl
        have hszW := hbW.size
        have HS2 : Hid (∀ ys ∈ xss'.set i (xs ++ [(k : Int)]), ys.length ≤ k + 1) := by
          intro ys hys
          rcases List.mem_or_eq_of_mem_set hys with h | h
          · exact Nat.le_succ_of_le (HS.out ys h)
          · subst h; simp; exact hxl
        have HBW := hide hbW
        have L1 := look_at hmap.drew (show r < 9223372036854775808 by omega) hat.out
        have L2 := look_at (hmap.alloc (.cells #[.int .i64 (k : Nat)] 3)).drew (show r < 9223372036854775808 by omega) hat.out
        clear hv hx HL hbW HS
        go_wp2_with fail
        go_region_law (refine step_append_n rfl (.tmp 36) (.tmp 38) 23 rfl (w.heap.size + 1) 3 _ Tryz.underlying23 intInfo8 rfl v xs (by simp [Act.eval, Act.put]) (hown.draw.new _) ⟨wr.heap.size, 0, none⟩ 1 (k : Int) (by simp [Act.eval, Act.put]) (one_cell rfl) (by constructor <;> omega) (by omega) (by simp; omega) ?_; intro v' w3 ho3 hb3 hg3 hv3; obtain ⟨oa3, c3, rfl, _, _⟩ := ho3.slice; have hm3 := (hmap.drew.alloc (.cells #[.int .i64 (k : Nat)] 3)).kept hg3 (fun he => by have := (hvb _ he.symm).1; omega); have L3 := look_at hm3 (show r < 9223372036854775808 by omega) hat.out; have hf3 : w3.frozen? ⟨g, i, none⟩ = false := (hg3.frozen_far ⟨g, i, none⟩ (by simp; omega) (fun he => hoffv he.symm)).trans (((World.grownBy_alloc wr.drew _ none).frozen_far ⟨g, i, none⟩ hgl (by simp)).trans hfree); have hc3 : w3.cell? ⟨g, i, none⟩ = some v := (hg3.cell_far ⟨g, i, none⟩ (by simp; omega) (fun he => hoffv he.symm)).trans (((World.grownBy_alloc wr.drew _ none).cell_far ⟨g, i, none⟩ hgl (by simp)).trans hcell))
        all_goals
          have hL := HG.out _ _ ho3 hg3 hv3
          rw [List.length_set] at hL
          have hBf := ((HBW.out.drew.alloc hszW (.cells #[.int .i64 (k : Nat)] 3)).trans (hb3.mono (by omega))).setCell (p := ⟨g, i, none⟩) (by simp; omega) (.slice oa3 (xs ++ [(k : Int)]).length c3)
          have hmf := hm3.kept (grown_setR w3 ⟨g, i, none⟩ (.slice oa3 (xs ++ [(k : Int)]).length c3)) (by simp; omega)
          simp only [List.length_append, List.length_cons, List.length_nil, Nat.zero_add] at hL hBf hmf
          have HH := hide (And.intro hL (And.intro hBf hmf))
          clear hL hBf hmf L1 L2 L3 hf3 hc3 hcell hfree ho3 hg3 hv3 hb3
          go_wp2_with fail
          go_roundw
          case rel => exact ⟨k + 1, _, _, m', D', by omega, by go_num, (by show _ = _; rw [List.length_set]; exact HC.out), HH.out.1, HH.out.2.2, hmk, by simp; exact hvk, by rw [List.length_set]; exact HI, HS2, HH.out.2.1⟩
          case measure => simp [intOf]; omega
    · have : k = n := by omega
      subst this
      have hlen : ∃ oa c, u5 = .slice oa vs.length c := by
        rcases Go.Joins.ownsRow_forms HL.row with ⟨h1, h2⟩ | ⟨g, c, h1⟩
        · rw [h2]; exact ⟨_, _, h1⟩
        · exact ⟨_, _, h1⟩
      obtain ⟨oa, c0, rfl⟩ := hlen
      go_wp2_with fail
      go_ret
      exact ⟨oa, c0, congrArg (fun q : Nat => Ending.returned (.slice oa q c0)) HC.out, hbW⟩

end Go.Proofs.YtnigfddanoaonaaGreat

set_option linter.unusedVariables false
set_option linter.unusedSimpArgs false
namespace Go.Proofs.YtnigfddanoaonaaGreat
open Go.RowKit Go.Shelf

attribute [local go_sem] Oper.semAt_some

/-- The single edges with their numbers. -/
def singL (es : List Edg) : List (Nat × Int × Int) := (endsL es).zipIdx.map fun p => (p.2, p.1)
theorem singL_len (es : List Edg) : (singL es).length = (endsL es).length := by simp [singL]
theorem singL_snd (es : List Edg) : (singL es).map (fun p => p.2) = endsL es := by
  unfold singL
  rw [List.map_map]
  have : ((fun p : Nat × Int × Int => p.2) ∘ fun p : (Int × Int) × Nat => (p.2, p.1)) = Prod.fst := rfl
  rw [this]
  simp
theorem singL_get {es : List Edg} {i : Nat} {p : Int × Int} (h : (endsL es)[i]? = some p) : (singL es)[i]? = some (i, p) := by
  unfold singL
  rw [List.getElem?_map, List.getElem?_zipIdx, h]
  simp
theorem endsL_take (es : List Edg) (k : Nat) : endsL (es.take k) ++ endsL (es.drop k) = endsL es := by
  unfold endsL
  rw [← List.flatMap_append, List.take_append_drop]
theorem endsL_at {es : List Edg} {k j : Nat} {x : Edg} (hx : es[k]? = some x) (hj : j < x.m.toNat) : (endsL es)[(endsL (es.take k)).length + j]? = some (x.a, x.b) := by
  have hk : k < es.length := (List.getElem?_eq_some_iff.1 hx).1
  rw [← endsL_take es k, List.getElem?_append_right (by omega), Nat.add_sub_cancel_left, List.drop_eq_getElem_cons hk]
  have : es[k] = x := by rw [List.getElem?_eq_getElem hk] at hx; injection hx
  rw [this, endsL_cons, List.getElem?_append_left (by simpa using hj), List.getElem?_replicate, if_pos hj]
theorem endsL_next {es : List Edg} {k : Nat} {x : Edg} (hx : es[k]? = some x) : (endsL (es.take (k + 1))).length = (endsL (es.take k)).length + x.m.toNat := by
  have hk : k < es.length := (List.getElem?_eq_some_iff.1 hx).1
  rw [List.take_add_one, hx]
  simp [endsL, List.flatMap_append]
theorem take_next {α : Type} {l : List α} {i : Nat} {x : α} (h : l[i]? = some x) : l.take i ++ [x] = l.take (i + 1) := by
  rw [List.take_add_one, h]; rfl

/-- What lay below n₀ lies as it lay, and so do the blocks of type T, wherever they lie. -/
def KpE (T : TypeId) (n₀ : Nat) (W W' : World) : Prop := Below n₀ W W' ∧ ∀ (k : Nat) (cs : Array Value), W.heap[k]? = some (Obj.cells cs T (0, 0)) → W'.heap[k]? = some (Obj.cells cs T (0, 0))
theorem KpE.refl (T : TypeId) (n₀ : Nat) (W : World) : KpE T n₀ W W := ⟨Below.refl _ _, fun _ _ h => h⟩
theorem KpE.t {T : TypeId} {n₀ : Nat} {A B C : World} (h : KpE T n₀ A B) (k : KpE T n₀ B C) : KpE T n₀ A C := ⟨h.1.trans k.1, fun i cs hi => k.2 i cs (h.2 i cs hi)⟩
theorem KpE.b {T : TypeId} {n₀ : Nat} {w : World} (hn : n₀ ≤ w.heap.size) (W : World) (l : Nat) (o o' : Obj) (hl : w.heap.size ≤ l) (ho : W.heap[l]? = some o) (hc : o.isCells = false) (hw : o.isWalk = false) : KpE T n₀ W (W.putObj l o') := by
  refine ⟨belowK_b hn W l o o' hl ho hc hw, fun k cs hk => ?_⟩
  have : k ≠ l := fun e => by
    subst e
    rw [hk] at ho
    injection ho with ho
    subst ho
    cases hc
  rw [World.putObj_heap_other this]
  exact hk
theorem KpE.new {T : TypeId} {n₀ : Nat} {W W' : World} (h : KpE T n₀ W W') (hn : n₀ ≤ W'.heap.size) (o : Obj) : KpE T n₀ W (W'.alloc o) :=
  ⟨h.1.alloc hn o, fun k cs hk => (Below.heap_alloc W' o k (Array.getElem?_eq_some_iff.1 (h.2 k cs hk)).1).trans (h.2 k cs hk)⟩
theorem KpE.box {T : TypeId} {n₀ : Nat} {W W' : World} (h : KpE T n₀ W W') {B : Nat} {cs : List Value} (hb : Box W B cs T) : Box W' B cs T := h.2 B _ hb

def sEnc (x : Nat × Int × Int) : Array Value := #[.int .i64 (x.1 : Int), .agg #[.int .i64 x.2.1, .int .i64 x.2.2]]

set_option maxRecDepth 100000 in
set_option maxHeartbeats 4000000 in
theorem singles1_in (F : Fence) (n : Nat) (h7 : F.fn 133) (hro : F.round = none) (hn : 1 ≤ n) (l Bg n₀ bl off : Nat) (N : Int) (c : Nat) (oe : Option Addr) (es : List Edg) (hoe : oe = some ⟨bl, off, none⟩) (hes : es.length ≤ 1000) (hm : ∀ x ∈ es, x.m ≤ 50) (hb : bl < n₀) (J Jx : List (Nat × Int × Int) → World → Prop)
    (hY : ∀ pre x W, J pre W → pre.length < (singL es).length → YieldAt F (n - 1) Tryz.prog l (sEnc x) W fun e W' =>
      (e = .returned (.bool true) ∧ J (pre ++ [x]) W' ∧ KpE 145 n₀ W W') ∨ (e = .returned (.bool false) ∧ Jx (pre ++ [x]) W'))
    (W : World) (hn₀ : n₀ ≤ W.heap.size) (hJ : AbidesFrom W.heap.size J) (hBs : W.cell? ⟨Bg, 1, none⟩ = some (.slice oe es.length c)) (hc : ∀ i (x : Edg), es[i]? = some x → W.cell? ⟨bl, off + i * 3, none⟩ = some (.int .i64 x.a) ∧ W.cell? ⟨bl, off + i * 3 + 1, none⟩ = some (.int .i64 x.b) ∧ W.cell? ⟨bl, off + i * 3 + 2, none⟩ = some (.int .i64 x.m)) (h0 : J [] W) :
    CallsIn F n Tryz.prog 133 #[.func (.yield l) #[] #[], .pointer (some ⟨Bg, 0, none⟩)] W fun e W' => (∃ v, e = .returned v) ∧
      ((∃ ys, ys = singL es ∧ J ys W') ∨ (∃ pre, pre <+: singL es ∧ Jx pre W')) := by
  subst hoe
  have HC := hide hc
  have HM := hide hm
  clear hc hm
  have hcap : (endsL es).length ≤ 50000 := by have := endsL_len HM.out; omega
  refine callsIn_of_wp Tryz.func133 rfl h7 ?_ hro
  simp only [Tryz.ntmps133, List.size_toArray, List.length_cons, List.length_nil, Nat.reduceAdd, Nat.reduceSub, Array.replicate_succ, Array.replicate_zero, List.push_toArray, List.append_toArray, List.nil_append, List.cons_append]
  gi_wp2
  gi_loopw [3, 9] (fun ev iv wr => ∃ (k e : Nat), k ≤ es.length ∧ iv = .int .i64 k ∧ ev = .int .i64 e ∧ Hid (e = (endsL (es.take k)).length) ∧ J ((singL es).take e) wr ∧ Below n₀ W wr ∧ W.heap.size ≤ wr.heap.size)
    (fun _ i _ => es.length - (intOf i).toNat)
  case atStart => exact ⟨0, 0, Nat.zero_le _, rfl, rfl, rfl, by simpa using h0, Below.refl _ _, Nat.le_refl _⟩
  case round =>
    obtain ⟨k, e, hk, rfl, rfl, HE, hJs, hnx, hsz⟩ := hrel
    by_cases hlt : k < es.length
    · obtain ⟨x, hx⟩ : ∃ x, es[k]? = some x := ⟨_, List.getElem?_eq_getElem hlt⟩
      obtain ⟨c0, c1, c2⟩ := HC.out k x hx
      have c0 := (hnx.cell (p := ⟨bl, off + k * 3, none⟩) hb).trans c0
      have c1 := (hnx.cell (p := ⟨bl, off + k * 3 + 1, none⟩) hb).trans c1
      have c2 := (hnx.cell (p := ⟨bl, off + k * 3 + 2, none⟩) hb).trans c2
      have hbl : bl < wr.heap.size := by omega
      have HX := hide hx
      have hxm := HM.out x (List.mem_of_getElem? hx)
      have hJ2 : J ((singL es).take e) (wr.alloc (.cells #[.int .i64 x.a, .int .i64 x.b, .int .i64 x.m] 145)) := hJ _ _ _ none hJs (World.grownBy_alloc wr _ none) (fun r e => by cases e)
      have hbx := Box.new wr [.int .i64 x.a, .int .i64 x.b, .int .i64 x.m] 145
      have hnx2 := hnx.alloc (show n₀ ≤ wr.heap.size by omega) (.cells #[.int .i64 x.a, .int .i64 x.b, .int .i64 x.m] 145)
      obtain ⟨Bx, hBx⟩ : ∃ Bx, Bx = wr.heap.size := ⟨_, rfl⟩
      rw [← hBx] at hbx
      clear hx
      gi_wp2
      rw [← hBx]
      have hBn : n₀ ≤ Bx := by omega
      have hBsz : wr.heap.size ≤ wr.heap.size + 1 := by omega
      generalize hW2 : wr.alloc (.cells #[.int .i64 x.a, .int .i64 x.b, .int .i64 x.m] 145) = W2 at *
      have hs2 : W.heap.size ≤ W2.heap.size := by rw [← hW2]; simp; omega
      have HBX := hide hBx
      have HWW := hide hW2
      clear hBx hW2
      obtain ⟨wo, rfl⟩ : ∃ wo : World, wo = wr := ⟨_, rfl⟩
      gi_loopw [3, 15] (fun ev jv wy => ∃ (j f : Nat), (j : Int) ≤ max x.m 0 ∧ jv = .int .i64 j ∧ ev = .int .i64 f ∧ Hid (f = e + j) ∧ J ((singL es).take f) wy ∧ Below n₀ W wy ∧ W.heap.size ≤ wy.heap.size ∧ Box wy Bx [.int .i64 x.a, .int .i64 x.b, .int .i64 x.m] 145)
        (fun _ j _ => x.m.toNat - (intOf j).toNat)
      case atStart => exact ⟨0, e, by omega, rfl, rfl, rfl, hJ2, hnx2, hs2, hbx⟩
      case round =>
        obtain ⟨j, f, hj, rfl, rfl, HF, hJ3, hny, hsy, hby⟩ := hrel
        by_cases hjl : (j : Int) < x.m
        · have hat : (singL es)[f]? = some (f, x.a, x.b) := singL_get (by rw [HF.out, HE.out]; exact endsL_at HX.out (by omega))
          have hfl : f < (singL es).length := (List.getElem?_eq_some_iff.1 hat).1
          have hlen : ((singL es).take f).length < (singL es).length := by simp; omega
          obtain ⟨fn, tmps, assign, body, hy, hR⟩ := hY _ (f, x.a, x.b) wr hJ3 hlen
          simp only [sEnc] at hy
          have hfl2 : f ≤ 50000 := by rw [singL_len] at hfl; omega
          have HT := hide (take_next hat)
          have b0 := hby.cell 0
          have b1 := hby.cell 1
          simp at b0 b1
          clear hat hlen hJ3 hJ2
          gi_wp2
          refine hR.mono ?_
          rintro e' W3 (⟨rfl, hJ4, hk4⟩ | ⟨rfl, hJx4⟩)
          · gi_wp2
            go_roundw
            case rel =>
              refine ⟨j + 1, f + 1, by omega, by go_num, by go_num, ?_, by rw [← HT.out]; exact hJ4, hny.trans hk4.1, Nat.le_trans hsy hk4.1.size, hk4.box hby⟩
              show _ = _
              rw [HF.out]
              omega
            case measure => simp [intOf]; omega
          · gi_wp2
            refine bodyPost_ret (results_none rfl _ _ _) rfl ?_
            refine ⟨⟨_, rfl⟩, .inr ⟨_, ?_, hJx4⟩⟩
            rw [HT.out]
            exact List.take_prefix _ _
        · have HF2 : Hid (f = (endsL (es.take (k + 1))).length) := by
            show _ = _
            rw [endsL_next HX.out, HF.out, HE.out]
            omega
          gi_wp2
          go_roundw
          case rel => exact ⟨k + 1, f, by omega, by go_num, rfl, HF2, hJ3, hny, hsy⟩
          case measure => simp [intOf]; omega
    · have hke : k = es.length := by omega
      have HJ : Hid (J (singL es) wr) := by
        have h1 : e = (singL es).length := by rw [HE.out, hke, List.take_length, singL_len]
        rw [h1, List.take_length] at hJs
        exact hJs
      gi_wp2
      go_end0
      exact ⟨⟨_, rfl⟩, .inl ⟨_, rfl, HJ.out⟩⟩

set_option maxRecDepth 100000 in
set_option maxHeartbeats 1000000 in
theorem singles1_nil_in (F : Fence) (n : Nat) (h7 : F.fn 133) (hro : F.round = none) (l Bg : Nat) (c : Nat) (a : Option Addr) (J : List (Nat × Int × Int) → World → Prop) (W : World) (hBs : W.cell? ⟨Bg, 1, none⟩ = some (.slice a 0 c)) (h0 : J [] W) :
    CallsIn F n Tryz.prog 133 #[.func (.yield l) #[] #[], .pointer (some ⟨Bg, 0, none⟩)] W fun e W' => (∃ v, e = .returned v) ∧ J [] W' := by
  refine callsIn_of_wp Tryz.func133 rfl h7 ?_ hro
  simp only [Tryz.ntmps133, List.size_toArray, List.length_cons, List.length_nil, Nat.reduceAdd, Nat.reduceSub, Array.replicate_succ, Array.replicate_zero, List.push_toArray, List.append_toArray, List.nil_append, List.cons_append]
  gi_wp2
  gi_loopw [9] (fun i wr => i = .int .i64 0 ∧ J [] wr) (fun _ _ => 0)
  case atStart => exact ⟨rfl, h0⟩
  case round =>
    obtain ⟨rfl, hJs⟩ := hrel
    gi_wp2
    go_end0
    exact ⟨⟨_, rfl⟩, hJs⟩

/-- The edges as they lie, in a block below n₀. -/
def EdgesBelow (n₀ : Nat) (W : World) (oe : Option Addr) (es : List Edg) : Prop :=
  es = [] ∨ ∃ bl off, oe = some ⟨bl, off, none⟩ ∧ bl < n₀ ∧ ∀ i (x : Edg), es[i]? = some x → W.cell? ⟨bl, off + i * 3, none⟩ = some (.int .i64 x.a) ∧ W.cell? ⟨bl, off + i * 3 + 1, none⟩ = some (.int .i64 x.b) ∧ W.cell? ⟨bl, off + i * 3 + 2, none⟩ = some (.int .i64 x.m)
theorem EdgesBelow.of {F : Foot} {w : World} {oe : Option Addr} {es : List Edg} (h : SliceR edgR 3 F w oe es) : EdgesBelow w.heap.size w oe es := by
  rcases Nat.eq_zero_or_pos es.length with h0 | h0
  · exact .inl (List.eq_nil_of_length_eq_zero h0)
  · obtain ⟨a, b, m, _, _, _, _, _, bl, off, rfl, _, c0, _⟩ := h.edg_at h0
    refine .inr ⟨bl, off, rfl, World.block_lt_of_cell? _ _ c0, fun i x hx => ?_⟩
    obtain ⟨a', b', m', _, hg, _, _, _, bl', off', he, _, e0, e1, e2⟩ := h.edg_at (List.getElem?_eq_some_iff.1 hx).1
    injection he with he
    injection he with q1 q2
    subst q1 q2
    rw [hx] at hg
    injection hg with hg
    subst hg
    exact ⟨e0, e1, e2⟩
theorem EdgesBelow.below {n₀ : Nat} {A B : World} {oe : Option Addr} {es : List Edg} (h : Below n₀ A B) : EdgesBelow n₀ A oe es → EdgesBelow n₀ B oe es
  | .inl e => .inl e
  | .inr ⟨bl, off, e, hb, hc⟩ => .inr ⟨bl, off, e, hb, fun i x hx => ⟨(h.cell (p := ⟨bl, off + i * 3, none⟩) hb).trans (hc i x hx).1, (h.cell (p := ⟨bl, off + i * 3 + 1, none⟩) hb).trans (hc i x hx).2.1, (h.cell (p := ⟨bl, off + i * 3 + 2, none⟩) hb).trans (hc i x hx).2.2⟩⟩
theorem EdgesBelow.more {n₀ n₁ : Nat} {A : World} {oe : Option Addr} {es : List Edg} (h : EdgesBelow n₀ A oe es) (hn : n₀ ≤ n₁) : EdgesBelow n₁ A oe es :=
  h.imp id fun ⟨bl, off, e, hb, hc⟩ => ⟨bl, off, e, by omega, hc⟩

theorem singles_stops (F : Fence) (n : Nat) (h7 : F.fn 133) (hro : F.round = none) (hn : 1 ≤ n) (Bg n₀ : Nat) (c : Nat) (oe : Option Addr) (es : List Edg) (hes : es.length ≤ 1000) (hm : ∀ x ∈ es, x.m ≤ 50) (w : World) (hBg : Bg < w.heap.size) (hn₀ : n₀ ≤ w.heap.size)
    (hc : w.cell? ⟨Bg, 1, none⟩ = some (.slice oe es.length c)) (hI : EdgesBelow n₀ w oe es) :
    SeqStopsK F n Tryz.prog 133 #[.pointer (some ⟨Bg, 0, none⟩)] sEnc (KpE 145 n₀) (fun ys => ys = singL es) (fun pre => pre <+: singL es) (singL es).length w := fun l J Jx W hW hJ _ hY h0 => by
  have hc' := (hW.cell (p := ⟨Bg, 1, none⟩) hBg).trans hc
  rcases hI.below (hW.mono hn₀) with rfl | ⟨bl, off, hoe, hb, hcs⟩
  · exact (singles1_nil_in F n h7 hro l Bg c oe J W hc' h0).mono fun e W' ⟨he, hj⟩ => ⟨he, .inl ⟨_, rfl, hj⟩⟩
  · exact singles1_in F n h7 hro hn l Bg n₀ bl off 0 c oe es hoe hes hm hb J Jx hY W (Nat.le_trans hn₀ hW.size) hJ hc' hcs h0

theorem singles_any (N : Int) (oe : Option Addr) (k c : Nat) (w : World) :
    Calls Tryz.prog 105 #[.agg #[.int .i64 N, .slice oe k c]] w fun e w' => e = .returned (.func (.func 133) #[] #[.pointer (some ⟨w.heap.size, 0, none⟩)]) ∧ w' = w.alloc (.cells #[.int .i64 N, .slice oe k c] 43) := by
  go_enter Tryz.func105, Tryz.ntmps105
  go_wp2_with fail
  go_ret
  exact ⟨rfl, rfl⟩

end Go.Proofs.YtnigfddanoaonaaGreat

set_option linter.unusedVariables false
set_option linter.unusedSimpArgs false
set_option linter.unnecessarySimpa false
namespace Go.Proofs.YtnigfddanoaonaaGreat
open Go.RowKit Go.Shelf

attribute [local go_sem] Oper.semAt_some

theorem prInfo : (Tryz.prog.info? 80).map (fun i => (i.zero, i.size, i.bytes)) = some (some (.agg #[.int .i64 0, .int .i64 0]), 2, 16) := by kernel_rfl

def flatP (l : List (Int × Int)) : List Value := l.flatMap fun p => [.int .i64 p.1, .int .i64 p.2]
theorem flatP_snoc (l : List (Int × Int)) (p : Int × Int) : flatP (l ++ [p]) = flatP l ++ [.int .i64 p.1, .int .i64 p.2] := by simp [flatP]
theorem flatP_chunk : ∀ (l : List (Int × Int)) (i : Nat) (p : Int × Int), l[i]? = some p → chunk 2 i (flatP l) = [.int .i64 p.1, .int .i64 p.2]
  | [], i, p, h => by simp at h
  | x :: r, 0, p, h => by simp at h; subst h; simp [chunk, flatP]
  | x :: r, i + 1, p, h => by
    have := flatP_chunk r i p (by simpa using h)
    unfold chunk at this ⊢
    rw [show (i + 1) * 2 = i * 2 + 1 + 1 from by omega]
    simpa [flatP] using this

def I64P (l : List (Int × Int)) : Prop := ∀ p ∈ l, I64 p.1 ∧ I64 p.2
theorem OwnS.pairs {base : Nat} {e : TypeId} {F : Foot} {w : World} {v : Value} {l : List (Int × Int)} (h : w.ownsRow base e 2 v l.length (flatP l)) (hl : I64P l) : OwnS prR 2 base e F w v l := by
  refine ⟨flatP l, h, ?_, fun i x hx => ⟨flatP_chunk l i x hx, hl x (List.mem_of_getElem? hx)⟩⟩
  intro u hu
  simp only [flatP, List.mem_flatMap] at hu
  obtain ⟨p, _, hp⟩ := hu
  simp at hp
  rcases hp with rfl | rfl <;> rfl

theorem box_own {β : Type} (B : Nat) (t : TypeId) (cs : List Value) : Own (fun (_ : β) W => Box W B cs t) := fun s X Y row hs hg hrow =>
  hs.keep (hg.block B hs.lt fun e' => by
    obtain ⟨o, ho, hc⟩ := hrow B e'.symm
    rw [show X.heap[B]? = _ from hs] at ho
    cases ho
    cases hc)
/-- What an append to a row of type e and a store into a box of type t do to the blocks of a third type. -/
theorem KpE.appended {T t e : TypeId} {W w1 : World} {n₀ B size k : Nat} {v v' u : Value} {xs : List Value} {tmp : Obj} (hTe : T ≠ e) (hTt : T ≠ t) (hrow : W.ownsRow n₀ e size v k xs) (hv : Boxed W B t u)
    (hgrow : (W.alloc tmp).grownBy w1 v.ownBlock) (hb : Below n₀ W (w1.setCell ⟨B, 0, none⟩ v')) : KpE T n₀ W (w1.setCell ⟨B, 0, none⟩ v') := by
  refine ⟨hb, fun j cs hj => ?_⟩
  have hjl := (Array.getElem?_eq_some_iff.1 hj).1
  have h1 : j ≠ B := fun e1 => by
    subst e1
    have := (show W.heap[j]? = _ from hv).symm.trans hj
    simp at this
    exact hTt this.2.symm
  rw [Below.heap_setCell w1 ⟨B, 0, none⟩ v' j h1, hgrow.block j (by simp; omega) ?_, Below.heap_alloc W tmp j hjl]
  · exact hj
  · intro e1
    rcases hrow.2 with ⟨rfl, _⟩ | ⟨g, cap, cur, rfl, _, hgb, _⟩
    · simp [Value.ownBlock] at e1
    · obtain rfl : j = g := by simpa [Value.ownBlock] using e1
      rw [hj] at hgb
      simp at hgb
      exact hTe hgb.2

theorem pair_lit {w : World} {a b : Int} (ia : I64 a) (ib : I64 b) : SliceR prR 2 All (w.alloc (.cells #[.int .i64 a, .int .i64 b] 80)) (some ⟨w.heap.size, 0, none⟩) [(a, b)] :=
  SliceR.lit (F := fun _ => False) prR_ok w 80 [[.int .i64 a, .int .i64 b]] [(a, b)] (fun i x hx => by
    match i, hx with
    | 0, hx => simp at hx; subst hx; exact ⟨_, rfl, rfl, ia, ib⟩
    | i + 1, hx => simp at hx) rfl (fun _ h => h.elim) trivial
theorem cells_new (W : World) (l : List Value) (t : TypeId) : ∀ (j : Nat) (u : Value), l[j]? = some u → (W.alloc (.cells l.toArray t)).cell? ((⟨W.heap.size, 0, none⟩ : Addr).add j) = some u := fun j u hu => by
  rw [Addr.add_lit, Nat.zero_add, (Box.new W l t).cell j]
  exact hu

def EndsPost (w : World) (es : List Edg) (e : Ending) (w' : World) : Prop :=
  ∃ v, e = .returned (.tuple #[v, .int .i64 0]) ∧ OwnS prR 2 w.heap.size 80 Non w' v (endsL es) ∧ Below w.heap.size w w'

set_option maxRecDepth 100000 in
set_option maxHeartbeats 4000000 in
theorem gends_in (n0 : Nat) (n : Int) (es : List Edg) (oe : Option Addr) (c : Nat) (F : Foot) (w : World) (hs : SliceR edgR 3 F w oe es) (hc : es.length ≤ c) (hc2 : es.length ≤ 1000) (hn0 : 3 ≤ n0)
    (hV : Hid (gErr n es = 0)) : CallsIn Go.Fence.wide n0 Tryz.prog 71 #[.agg #[.int .i64 n, .slice oe es.length c]] w (EndsPost w es) := by
  have h1 : 1 ≤ n0 := by omega
  obtain ⟨i0, hi, hz0, hz1, hz2⟩ := info_parts prInfo
  have HI := hide (And.intro hi (And.intro hz0 (And.intro hz1 hz2)))
  clear hi hz0 hz1 hz2
  have hcap : (endsL es).length ≤ 50000 := by have := endsL_len fun x hx => ((gErr_zero hV.out).2.1 x hx).2.2.2.1; omega
  have HM : Hid (∀ x ∈ es, x.m ≤ 50) := fun x hx => ((gErr_zero hV.out).2.1 x hx).2.2.2.1
  have cK : ∀ W : World, Below w.heap.size w W → CallsIn Go.Fence.wide (n0 - 1) Tryz.prog 104 #[.agg #[.int .i64 n, .slice oe es.length c]] W (ErrPost W 0) := fun W hW => by
    have := (callsIn_wide (n := n0 - 1)).2 (gcheck_any n es oe c F W (hs.below edgR_ok hW) hc (by omega))
    rw [hV.out] at this
    exact this
  have cS : ∀ W : World, CallsIn Go.Fence.wide (n0 - 1) Tryz.prog 105 #[.agg #[.int .i64 n, .slice oe es.length c]] W fun e w' => e = .returned (.func (.func 133) #[] #[.pointer (some ⟨W.heap.size, 0, none⟩)]) ∧ w' = W.alloc (.cells #[.int .i64 n, .slice oe es.length c] 43) := fun W => callsIn_wide.2 (singles_any n oe es.length c W)
  have hf1 : Go.Fence.wide.fn 104 := trivial
  have hf2 : Go.Fence.wide.fn 105 := trivial
  have HK := hide cK
  have HS := hide cS
  clear cK cS
  refine callsIn_of_wp_marks Tryz.func71 rfl trivial ?_ rfl
  simp only [Tryz.ntmps71, List.size_toArray, List.length_cons, List.length_nil, Nat.reduceAdd, Nat.reduceSub, Array.replicate_succ, Array.replicate_zero, List.push_toArray, List.append_toArray, List.nil_append, List.cons_append]
  gi_wp2_with (first | (gi_at_call 104; refine (HK.out _ (bnew (Below.refl _ _) _)).mono ?_; rintro e w2 ⟨rfl, hb2⟩; have hx2 := hb2.mono (B' := w.heap.size + 1) (by simp); have d0 := box_cell hx2 0; have d1 := box_cell hx2 1; simp at d0 d1; have hsz2 := box_lt hx2; clear hb2) | (gi_at_call 105; refine (HS.out _).mono ?_; rintro e w3 ⟨rfl, rfl⟩))
  have HB2 := hide (below_box hx2)
  have hle2 : w.heap.size ≤ w2.heap.size := by omega
  obtain ⟨W0, hW0⟩ : ∃ W0, (w2.alloc (.cells #[.slice none 0 0] 76)).alloc (.cells #[.int .i64 n, .slice oe es.length c] 43) = W0 := ⟨_, rfl⟩
  have hsz0 : W0.heap.size = w2.heap.size + 2 := by rw [← hW0]; simp
  have bO : Boxed W0 w2.heap.size 76 (.slice none 0 0) := by rw [← hW0]; exact (Boxed.new w2 _ _).alloc _
  have hB0 : Below w.heap.size w W0 := by rw [← hW0]; exact (HB2.out.alloc hle2 _).alloc (by simp; omega) _
  have bg : W0.cell? ⟨w2.heap.size + 1, 1, none⟩ = some (.slice oe es.length c) := by
    have := (Box.new (w2.alloc (.cells #[.slice none 0 0] 76)) [.int .i64 n, .slice oe es.length c] 43).cell 1
    rw [World.size_alloc] at this
    rw [← hW0]
    simpa using this
  have hEB : EdgesBelow w.heap.size W0 oe es := (EdgesBelow.of hs).below hB0
  rw [hW0]
  clear hx2 d0 d1 hsz2 hW0
  refine wpIn_rangeFunc_ownH rfl h1 (gf := 133) (lb := #[.pointer (some ⟨w2.heap.size + 1, 0, none⟩)]) rfl trivial (enters_of Tryz.func133 (by kernel_rfl) rfl)
    (singles_stops Go.Fence.wide (n0 - 1) trivial rfl (by omega) (w2.heap.size + 1) w.heap.size c oe es hc2 HM.out W0 (by omega) (by omega) bg hEB) KpE.t (KpE.b (by omega)) (Below.refl _ _) (fun _ => rfl)
    (fun pre W => (∃ v, Boxed W w2.heap.size 76 v ∧ W.ownsRow w.heap.size 80 2 v pre.length (flatP (pre.map fun p => p.2)) ∧ True) ∧ Below w.heap.size w W)
    (fun _ _ _ => False)
    (OwnFrom.and (Own.from (holdsRow_own w.heap.size w2.heap.size 76 80 2 (fun pre : List (Nat × Int × Int) => pre.length) (fun pre => flatP (pre.map fun p => p.2)) (fun pre v => True)) _) (ownFrom_below (Nat.le_refl _) (by omega)))
    (fun _ _ _ _ _ hs _ _ => hs)
    ⟨⟨_, bO, World.ownsRow_nil _ _ _ _, trivial⟩, hB0⟩
    (fun x a' W => ∃ Bx, Box W Bx [.int .i64 x.2.1, .int .i64 x.2.2] 168 ∧ a' = { tmps := #[.agg #[.int .i64 n, .slice oe es.length c], .pointer (some ⟨w.heap.size, 0, none⟩), .slice none 0 0, .int .i64 0, .int .i64 0, .pointer (some ⟨w2.heap.size, 0, none⟩), undef, .pointer (some ⟨Bx, 0, none⟩), .agg #[.int .i64 n, .slice oe es.length c], .int .i64 0, .int .i64 0, .bool false, undef, .agg #[.int .i64 n, .slice oe es.length c], .func (.func 133) #[] #[.pointer (some ⟨w2.heap.size + 1, 0, none⟩)], .int .i64 x.1, .agg #[.int .i64 x.2.1, .int .i64 x.2.2], undef, undef, undef, undef, undef, undef, undef, undef, undef], defers := [] })
    (fun x a' _ X Y row hs hg hr => by obtain ⟨Bx, h1, h2⟩ := hs; exact ⟨Bx, box_own (β := Unit) Bx _ _ () X Y row h1 hg (fun r e => (hr r e).2), h2⟩)
    ?assign ?body ?done ?stop
  case assign =>
    rintro l pre x W K ⟨⟨v, hv, hrow, _⟩, hB⟩ hK
    simp only [sEnc]
    gi_wp2
    exact hK _ _ ((KeepsOthers.alloc _ _).from _) ((KpE.refl _ _ W).new hB.size _) ⟨⟨v, hv.alloc _, hrow.alloc _, trivial⟩, hB.alloc hB.size _⟩ ⟨W.heap.size, Box.new W [.int .i64 x.2.1, .int .i64 x.2.2] _, rfl⟩
  case body =>
    rintro l pre x a' W hl _ ⟨⟨v, hv, hrow, _⟩, hB⟩ ⟨Bx, bX, rfl⟩ hlt
    have hpl : pre.length < 50000 := by rw [singL_len] at hlt; omega
    have hc := hv.cell
    have x0 := bX.cell 0
    have x1 := bX.cell 1
    simp at x0 x1
    gi_wp2_with (gi_at_builtin; (refine wpListIn_append_own _ rfl _ _ 76 rfl w.heap.size 80 i0 (.agg #[.int .i64 0, .int .i64 0]) 2 16 Tryz.underlying76 HI.out.1 HI.out.2.1 HI.out.2.2.1 HI.out.2.2.2 rfl (by decide) _ _ _ rfl (hrow.alloc _) ⟨W.heap.size, 0, none⟩ 1 1 [.int .i64 x.2.1, .int .i64 x.2.2] rfl rfl (cells_new _ _ _) (by simp [Value.oneCell']) (by unfold maxLen; omega) (by omega) (by have := hB.size; simp; omega) ?_); intro v' w1 hown' hgrow _; obtain ⟨g', cap', rfl⟩ := ownsRow_succ hown'; obtain ⟨hv1, hv2, hr2, hk2, hb2⟩ := hv.appended (by decide) hrow hB.size hle2 hown' hgrow; have hc1 := hv1.cell; have hf1 := hv1.frozen)
    exact ⟨hk2.from _, KpE.appended (by decide) (by decide) hrow hv hgrow hb2, ⟨_, hv2, by simpa [List.map_append, flatP_snoc] using hr2, trivial⟩, hB.trans hb2⟩
  case done =>
    rintro D ys W hD rfl ⟨⟨v, hv, hrow, _⟩, hB⟩ hK
    have hc := hv.cell
    gi_wp2
    refine ⟨by simp, .inl ⟨_, _, rfl, run_takeDeferred hK, ?_⟩⟩
    rw [singL_snd, singL_len] at hrow
    refine ⟨_, results_tmp2 rfl _ _ _, v, rfl, OwnS.pairs (ownsRow_putObj hrow _ hK rfl) ?_, hB.trans (belowK_b (w := w) (Nat.le_refl _) W D _ _ (by omega) hK rfl rfl)⟩
    intro p hp
    obtain ⟨x, hx, rfl⟩ := endsL_mem hp
    have h2 := (gErr_zero hV.out).2.1 x hx
    have h3 := (gErr_zero hV.out).1
    unfold I64
    omega
  case stop =>
    rintro D c pre W _ _ h _
    exact h.elim

def endsRes (n : Int) (es : List Edg) : List (Int × Int) × Int := if gErr n es = 0 then (endsL es, 0) else ([], gErr n es)
def PairsPost (w : World) (r : List (Int × Int) × Int) (e : Ending) (w' : World) : Prop :=
  ∃ v, e = .returned (.tuple #[v, .int .i64 r.2]) ∧ OwnS prR 2 w.heap.size 80 Non w' v r.1 ∧ Below w.heap.size w w'

set_option maxRecDepth 100000 in
set_option maxHeartbeats 1000000 in
theorem gends_no (n : Int) (es : List Edg) (oe : Option Addr) (c : Nat) (F : Foot) (w : World) (hs : SliceR edgR 3 F w oe es) (hc : es.length ≤ c) (hc2 : es.length ≤ 9223372036854775807)
    (hV : Hid (gErr n es ≠ 0)) : Calls Tryz.prog 71 #[.agg #[.int .i64 n, .slice oe es.length c]] w (PairsPost w ([], gErr n es)) := by
  go_enter Tryz.func71, Tryz.ntmps71
  go_wp2_with fail
  refine (gcheck_any n es oe c F _ (hs.below edgR_ok (bnew (Below.refl _ _) _)) hc hc2).mono ?_
  rintro e w2 ⟨rfl, hb2⟩
  have hz := not_errI hV.out
  go_wp2_with fail
  go_ret2
  exact ⟨_, rfl, OwnS.nil _ _ _ _ _ _, (bnew (Below.refl _ _) _).trans (hb2.mono (by simp))⟩

theorem gends_any (n : Int) (es : List Edg) (oe : Option Addr) (c : Nat) (F : Foot) (w : World) (hs : SliceR edgR 3 F w oe es) (hc : es.length ≤ c) (hc2 : es.length ≤ 1000) :
    Calls Tryz.prog 71 #[.agg #[.int .i64 n, .slice oe es.length c]] w (PairsPost w (endsRes n es)) := by
  by_cases hV : gErr n es = 0
  · refine ((callsIn_wide (n := 3)).1 (gends_in 3 n es oe c F w hs hc hc2 (by omega) hV)).mono ?_
    rintro e w' ⟨v, rfl, ho, hb⟩
    exact ⟨v, by rw [endsRes, if_pos hV], by rw [endsRes, if_pos hV]; exact ho, hb⟩
  · rw [endsRes, if_neg hV]
    exact gends_no n es oe c F w hs hc (by omega) hV

set_option maxRecDepth 100000 in
set_option maxHeartbeats 2000000 in
theorem rgends_any (n : Int) (es : List Edg) (oe : Option Addr) (c : Nat) (F : Foot) (w : World) (hs : SliceR edgR 3 F w oe es) (hc : es.length ≤ c) (hc2 : es.length ≤ 1000) (hm : Hid (∀ x ∈ es, x.m ≤ 50)) :
    Calls Tryz.prog 106 #[.agg #[.int .i64 n, .slice oe es.length c]] w fun e w' => ∃ v, e = .returned v ∧ OwnS prR 2 w.heap.size 80 Non w' v (endsL es) ∧ Below w.heap.size w w' := by
  have hcap : (endsL es).length ≤ 50000 := by have := endsL_len hm.out; omega
  go_enter Tryz.func106, Tryz.ntmps106
  go_wp2_with fail
  go_loopw [3, 4] (fun v iv wr => ∃ (k : Nat), k ≤ es.length ∧ iv = .int .i64 k ∧ OwnS prR 2 (w.heap.size + 1) 80 Non wr v (endsL (es.take k)) ∧ Below (w.heap.size + 1) (w.alloc (.cells #[.int .i64 n, .slice oe es.length c] 43)) wr) (fun _ i _ => es.length - (intOf i).toNat)
  case atStart => exact ⟨0, by omega, rfl, OwnS.nil _ _ _ _ _ _, box_refl _ _⟩
  case round =>
    obtain ⟨k, hk, rfl, hown, hb⟩ := hrel
    have d1 := box_cell hb 1
    simp at d1
    by_cases hlt : k < es.length
    · obtain ⟨a, b, m, _, hget, ia, ib, im, bl, off, rfl, _, c0, c1, c2⟩ := (hs.below edgR_ok (below_box hb)).edg_at hlt
      have HG := hide hget
      have hm50 : m ≤ 50 := hm.out _ (List.mem_of_getElem? hget)
      have HN := hide (endsL_next hget)
      have HA : Hid (endsL (es.take (k + 1)) = endsL (es.take k) ++ List.replicate m.toNat (a, b)) := by
        show _ = _
        rw [List.take_add_one, hget]
        simp [endsL, List.flatMap_append]
      have htl : (endsL (es.take k)).length ≤ 50000 := by
        have := congrArg List.length (endsL_take es k)
        simp at this
        omega
      clear hget
      go_wp2_with fail
      obtain ⟨wo, rfl⟩ : ∃ wo : World, wo = wr := ⟨_, rfl⟩
      go_loopw [3, 5] (fun v jv wr => ∃ (j : Nat) (l : List (Int × Int)), (j : Int) ≤ max m 0 ∧ jv = .int .i64 j ∧ Hid (l = endsL (es.take k) ++ List.replicate j (a, b)) ∧ OwnS prR 2 (w.heap.size + 1) 80 Non wr v l ∧ Below (w.heap.size + 1) (w.alloc (.cells #[.int .i64 n, .slice (some ⟨bl, off, none⟩) es.length c] 43)) wr) (fun _ j _ => m.toNat - (intOf j).toNat)
      case atStart => exact ⟨0, _, by omega, rfl, by show _ = _; simp, hown, hb⟩
      case round =>
        clear hown hb d1 c0 c1 c2
        obtain ⟨j, l, hj, rfl, HL, hown, hb⟩ := hrel
        have d1 := box_cell hb 1
        simp at d1
        obtain ⟨a', b', m', _, hget', _, _, _, bl', off', he, _, c0, c1, c2⟩ := (hs.below edgR_ok (below_box hb)).edg_at hlt
        injection he with he
        injection he with q1 q2
        subst q1 q2
        rw [HG.out] at hget'
        injection hget' with hget'
        injection hget' with q1 q2 q3
        subst q1 q2 q3
        have hbl := World.block_lt_of_cell? _ _ c0
        simp only at hbl
        have hsz := box_lt hb
        have hll : l.length ≤ 60000 := by rw [HL.out]; simp; omega
        by_cases hjm : (j : Int) < m
        · go_wp2_with fail
          go_region_law (refine step_append_rep rfl (.tmp 23) (.tmp 37) 76 rfl (w.heap.size + 1) 80 _ 2 16 Tryz.underlying76 prInfo rfl (by decide) prR_ok Non All u3 l (by simp [Act.eval, Act.put]) ((hown.draw prR_ok).new prR_ok _) (some ⟨wr.heap.size, 0, none⟩) 1 [(a, b)] (by simp [Act.eval, Act.put]) (pair_lit ia ib) (fun _ _ h => h) (fun _ h => h.elim) (by simp; omega) (by simp; omega) (by simp; omega) ?_; intro v' w3 ho hb1 hg)
          all_goals
            go_wp2_with fail
            go_roundw
            case rel =>
              refine ⟨j + 1, l ++ [(a, b)], by omega, by go_num, ?_, ho, (box_new hb.drew (by simp) _).trans hb1⟩
              show _ = _
              rw [HL.out, List.replicate_succ']
              simp
            case measure => simp [intOf]; omega
        · have HL2 : Hid (l = endsL (es.take (k + 1))) := by
            show _ = _
            rw [HL.out, HA.out, show j = m.toNat from by omega]
          go_wp2_with fail
          go_roundw
          case rel => exact ⟨k + 1, by omega, by go_num, by rw [← HL2.out]; exact hown, hb⟩
          case measure => simp [intOf]; omega
    · have : k = es.length := by omega
      subst this
      rw [List.take_length] at hown
      go_wp2_with fail
      go_ret
      exact ⟨u3, rfl, hown.rebase (by omega), below_box hb⟩

end Go.Proofs.YtnigfddanoaonaaGreat

set_option linter.unusedVariables false
set_option linter.unusedSimpArgs false
set_option linter.unnecessarySimpa false
namespace Go.Proofs.YtnigfddanoaonaaGreat
open Go.RowKit

theorem cnt_uf {E : List (Nat × Nat)} {f g : List Nat} (hf : Uf f E) (hg : Uf g E) {n : Nat} (hn : n ≤ 12) : cnt f n = cnt g n := by
  unfold cnt
  congr 1
  refine List.filter_congr fun v hv => ?_
  have hv2 : v < 12 := by have := List.mem_range.1 hv; omega
  have h1 := (hf.least hv2).trans (hg.least hv2).symm
  show (rootF f v == v) = (rootF g v == v)
  by_cases h : rootF f v = v
  · rw [h, h1.1 h]
  · rw [beq_eq_false_iff_ne.2 h, beq_eq_false_iff_ne.2 (fun e => h (h1.2 e))]

/-- How many parts a right graph has; 0 of a wrong one. -/
def partsN (n : Int) (es : List Edg) (f : List Nat) : Nat := if gErr n es = 0 then cnt f n.toNat else 0
def CompPost (w : World) (n : Int) (es : List Edg) (f : List Nat) (e : Ending) (w' : World) : Prop :=
  (∃ oa c, e = .returned (.tuple #[.slice oa (partsN n es f) c, .int .i64 (gErr n es)])) ∧ Below w.heap.size w w'

set_option maxRecDepth 100000 in
set_option maxHeartbeats 2000000 in
theorem comps_any (n : Int) (es : List Edg) (oe : Option Addr) (c : Nat) (F : Foot) (w : World) (hs : SliceR edgR 3 F w oe es) (hc : es.length ≤ c) (hc2 : es.length ≤ 9223372036854775807)
    (f : List Nat) (hU : Hid (gErr n es = 0 → Uf f (eL es))) : Calls Tryz.prog 147 #[.agg #[.int .i64 n, .slice oe es.length c]] w (CompPost w n es f) := by
  go_enter Tryz.func147, Tryz.ntmps147
  go_wp2_with fail
  have hb0 := box_refl w (.cells #[.int .i64 n, .slice oe es.length c] 43)
  refine (gcheck_any n es oe c F _ (hs.below edgR_ok (below_box hb0)) hc hc2).mono ?_
  rintro e w2 ⟨rfl, hb2⟩
  have hx2 := hb2.mono (B' := w.heap.size + 1) (by simp)
  have d0 := box_cell hx2 0
  have d1 := box_cell hx2 1
  simp at d0 d1
  clear hb2 hb0
  have hs2 := hs.below edgR_ok (below_box hx2)
  by_cases hV : gErr n es = 0
  · have HV := hide hV
    have HP : Hid (partsN n es f = cnt f n.toNat) := if_pos hV
    have hn := (gErr_zero hV).1
    rw [hV]
    obtain ⟨N, rfl⟩ := Int.eq_ofNat_of_zero_le (show 0 ≤ n by omega)
    go_wp2_with fail
    refine (joinedG_any N es oe c F _ hs2 hc hc2 HV).mono ?_
    rintro e w3 ⟨g, rfl, hg, hb3⟩
    have hx3 := hx2.trans (hb3.mono (box_lt hx2))
    have d0 := box_cell hx3 0
    simp at d0
    have HG := hide hg
    have hlt3 := box_lt hx3
    clear hb3 d1 hx2 hs2
    obtain ⟨a0, a1, a2, a3, a4, a5, a6, a7, a8, a9, a10, a11, hg12⟩ := twelve hg.fst.len
    have hca : castV g = [.int .i64 (a0 : Nat), .int .i64 (a1 : Nat), .int .i64 (a2 : Nat), .int .i64 (a3 : Nat), .int .i64 (a4 : Nat), .int .i64 (a5 : Nat), .int .i64 (a6 : Nat), .int .i64 (a7 : Nat), .int .i64 (a8 : Nat), .int .i64 (a9 : Nat), .int .i64 (a10 : Nat), .int .i64 (a11 : Nat)] := by rw [hg12]; rfl
    have d0n := cell_next d0 (.cells #[.int .i64 (a0 : Nat), .int .i64 (a1 : Nat), .int .i64 (a2 : Nat), .int .i64 (a3 : Nat), .int .i64 (a4 : Nat), .int .i64 (a5 : Nat), .int .i64 (a6 : Nat), .int .i64 (a7 : Nat), .int .i64 (a8 : Nat), .int .i64 (a9 : Nat), .int .i64 (a10 : Nat), .int .i64 (a11 : Nat)] 219)
    have hbx : Box (w3.alloc (.cells #[.int .i64 (a0 : Nat), .int .i64 (a1 : Nat), .int .i64 (a2 : Nat), .int .i64 (a3 : Nat), .int .i64 (a4 : Nat), .int .i64 (a5 : Nat), .int .i64 (a6 : Nat), .int .i64 (a7 : Nat), .int .i64 (a8 : Nat), .int .i64 (a9 : Nat), .int .i64 (a10 : Nat), .int .i64 (a11 : Nat)] 219)) w3.heap.size (castV g) 219 := by rw [hca]; exact Box.new w3 _ _
    rw [hca]
    have HB3 := hide (box_new hx3 (by simp) (.cells #[.int .i64 (a0 : Nat), .int .i64 (a1 : Nat), .int .i64 (a2 : Nat), .int .i64 (a3 : Nat), .int .i64 (a4 : Nat), .int .i64 (a5 : Nat), .int .i64 (a6 : Nat), .int .i64 (a7 : Nat), .int .i64 (a8 : Nat), .int .i64 (a9 : Nat), .int .i64 (a10 : Nat), .int .i64 (a11 : Nat)] 219))
    clear hca hg12 hg hV hx3
    go_wp2_with fail
    refine (parts_any g w3.heap.size N _ hbx (hide HG.out.fst) (by omega)).mono ?_
    rintro e w4 ⟨oa, c4, rfl, hb4⟩
    have HF : Hid (cnt g N = partsN (N : Int) es f) := by
      show _ = _
      rw [HP.out]
      exact cnt_uf HG.out (hU.out HV.out) (by omega)
    have HB4 := hide (below_then (below_box HB3.out) (hb4.mono (by simp)))
    clear hb4 hbx
    go_wp2_with fail
    go_ret2
    refine ⟨⟨oa, c4, ?_⟩, ?_⟩
    · rw [← HF.out, HV.out]; rfl
    · exact HB4.out
  · have HP : Hid (partsN n es f = 0) := if_neg hV
    have hx := hide (below_box hx2)
    have hq : (gErr n es != 0) = true := by simpa using hV
    go_wp2_with fail
    go_ret2
    exact ⟨⟨none, 0, by rw [HP.out]; rfl⟩, hx.out⟩

def ConnPost (w : World) (n : Int) (es : List Edg) (f : List Nat) (e : Ending) (w' : World) : Prop :=
  e = .returned (.tuple #[.bool (partsN n es f == 1), .int .i64 (gErr n es)]) ∧ Below w.heap.size w w'

set_option maxRecDepth 100000 in
set_option maxHeartbeats 1000000 in
theorem conn_any (n : Int) (es : List Edg) (oe : Option Addr) (c : Nat) (F : Foot) (w : World) (hs : SliceR edgR 3 F w oe es) (hc : es.length ≤ c) (hc2 : es.length ≤ 9223372036854775807)
    (f : List Nat) (hU : Hid (gErr n es = 0 → Uf f (eL es))) : Calls Tryz.prog 124 #[.agg #[.int .i64 n, .slice oe es.length c]] w (ConnPost w n es f) := by
  go_enter Tryz.func124, Tryz.ntmps124
  go_wp2_with fail
  have hb0 := box_refl w (.cells #[.int .i64 n, .slice oe es.length c] 43)
  refine (comps_any n es oe c F _ (hs.below edgR_ok (below_box hb0)) hc hc2 f hU).mono ?_
  rintro e w2 ⟨⟨oa, c2, rfl⟩, hb2⟩
  have hx := hide (below_box (hb2.mono (B' := w.heap.size + 1) (by simp)))
  clear hb2
  have HQ : Hid ((partsN n es f == 1) = decide (((partsN n es f : Nat) : Int) = 1)) := by
    show _ = _
    rw [Bool.eq_iff_iff]
    simp
    omega
  go_wp2_with fail
  go_ret2
  exact ⟨by rw [HQ.out]; rfl, hx.out⟩

/-- The error of a graph that has to be connected. -/
def jErr (n : Int) (es : List Edg) (f : List Nat) : Int := if gErr n es = 0 then (if partsN n es f = 1 then 0 else 13) else gErr n es
def jEnds (n : Int) (es : List Edg) : List (Int × Int) := if gErr n es = 0 then endsL es else []
def JoinedPost (w : World) (n : Int) (es : List Edg) (f : List Nat) (e : Ending) (w' : World) : Prop :=
  ∃ v, e = .returned (.tuple #[v, .int .i64 (jErr n es f)]) ∧ OwnS prR 2 w.heap.size 80 Non w' v (jEnds n es) ∧ Below w.heap.size w w'

set_option maxRecDepth 100000 in
set_option maxHeartbeats 1000000 in
theorem joined_any (n : Int) (es : List Edg) (oe : Option Addr) (c : Nat) (F : Foot) (w : World) (hs : SliceR edgR 3 F w oe es) (hc : es.length ≤ c) (hc2 : es.length ≤ 1000)
    (f : List Nat) (hU : Hid (gErr n es = 0 → Uf f (eL es))) : Calls Tryz.prog 150 #[.agg #[.int .i64 n, .slice oe es.length c]] w (JoinedPost w n es f) := by
  go_enter Tryz.func150, Tryz.ntmps150
  go_wp2_with fail
  have hb0 := box_refl w (.cells #[.int .i64 n, .slice oe es.length c] 43)
  refine (gends_any n es oe c F _ (hs.below edgR_ok (below_box hb0)) hc hc2).mono ?_
  rintro e w2 ⟨v, rfl, ho, hb2⟩
  have hx2 := hb2.mono (B' := w.heap.size + 1) (by simp)
  have d0 := box_cell hx2 0
  have d1 := box_cell hx2 1
  simp at d0 d1
  clear hb2 hb0
  have hs2 := hs.below edgR_ok (below_box hx2)
  by_cases hV : gErr n es = 0
  · have HR : Hid (endsRes n es = (endsL es, 0)) := if_pos hV
    have HJ : Hid (jErr n es f = if partsN n es f = 1 then 0 else 13) := if_pos hV
    have HE : Hid (jEnds n es = endsL es) := if_pos hV
    rw [HR.out] at ho
    rw [HR.out]
    have HO := hide ho
    go_wp2_with fail
    refine (conn_any n es oe c F _ hs2 hc (by omega) f hU).mono ?_
    rintro e w3 ⟨rfl, hb3⟩
    have HO3 := hide (HO.out.below prR_ok hb3)
    have HX := hide (below_box (hx2.trans (hb3.mono (box_lt hx2))))
    clear hb3 ho hs2 d0 d1 hx2
    rw [hV]
    clear hV
    by_cases hp : partsN n es f = 1
    · have HJ2 : Hid (jErr n es f = 0) := by show _ = _; rw [HJ.out, if_pos hp]
      have hq : (partsN n es f == 1) = true := by simpa using hp
      clear hp
      go_wp2_with fail
      go_ret2
      exact ⟨v, by rw [HJ2.out]; rfl, by rw [HE.out]; exact HO3.out.rebase (by simp), HX.out⟩
    · have HJ2 : Hid (jErr n es f = 13) := by show _ = _; rw [HJ.out, if_neg hp]
      have hq : (partsN n es f == 1) = false := by simpa using hp
      clear hp
      go_wp2_with fail
      go_ret2
      exact ⟨v, by rw [HJ2.out]; rfl, by rw [HE.out]; exact HO3.out.rebase (by simp), HX.out⟩
  · have HR : Hid (endsRes n es = ([], gErr n es)) := if_neg hV
    have HJ : Hid (jErr n es f = gErr n es) := if_neg hV
    have HE : Hid (jEnds n es = []) := if_neg hV
    have hx := hide (below_box hx2)
    have hq : (gErr n es != 0) = true := by simpa using hV
    rw [HR.out]
    clear ho
    go_wp2_with fail
    go_ret2
    exact ⟨_, by rw [HJ.out]; rfl, by rw [HE.out]; exact OwnS.nil prR 2 _ _ _ _, hx.out⟩

end Go.Proofs.YtnigfddanoaonaaGreat

set_option linter.unusedVariables false
set_option linter.unusedSimpArgs false
set_option linter.unnecessarySimpa false
namespace Go.Proofs.YtnigfddanoaonaaGreat
open Go.RowKit

/-- The vertex of a half-edge. -/
def hv (l : List (Int × Int)) (h : Nat) : Int := if h % 2 = 0 then (l.getD (h / 2) (0, 0)).1 else (l.getD (h / 2) (0, 0)).2

theorem at_any (l : List (Int × Int)) (oa : Option Addr) (c : Nat) (F : Foot) (w : World) (hs : SliceR prR 2 F w oa l) (hc : l.length ≤ c) (h : Nat) (hh : h < 2 * l.length) (hl : l.length ≤ 1000000000) :
    Calls Tryz.prog 166 #[.slice oa l.length c, .int .i64 h] w fun e w' => e = .returned (.int .i64 (hv l h)) ∧ w = w' := by
  obtain ⟨q, hq⟩ : ∃ q, q = h / 2 := ⟨_, rfl⟩
  have hq1 : ((h : Int)).tdiv 2 = (q : Int) := by rw [Int.tdiv_eq_ediv_of_nonneg (by omega)]; omega
  have hql : q < l.length := by omega
  have hwq : wrap64 (q : Int) = (q : Int) := by unfold wrap64; omega
  obtain ⟨a, b, hd, hget, _, _, bl, off, hoa, _, c0, c1⟩ := hs.pr_at (i := q) (by omega)
  subst hoa
  have hgd : l.getD q (0, 0) = (a, b) := by rw [List.getD_eq_getElem?_getD, hget]; rfl
  by_cases hr : h % 2 = 0
  · have HR : Hid (hv l h = a) := by show _ = _; rw [hv, if_pos hr, ← hq, hgd]
    have hr1 : ((h : Int)).tmod 2 = 0 := by rw [Int.tmod_eq_emod_of_nonneg (by omega)]; omega
    clear hd hget hgd hq hr
    go_enter Tryz.func166, Tryz.ntmps166
    go_wp2_with fail
    go_ret
    exact ⟨ret_int HR.out.symm, rfl⟩
  · have HR : Hid (hv l h = b) := by show _ = _; rw [hv, if_neg hr, ← hq, hgd]
    have hr1 : ((h : Int)).tmod 2 = 1 := by rw [Int.tmod_eq_emod_of_nonneg (by omega)]; omega
    clear hd hget hgd hq hr
    go_enter Tryz.func166, Tryz.ntmps166
    go_wp2_with fail
    go_ret
    exact ⟨ret_int HR.out.symm, rfl⟩

/-- The half-edges below H at a vertex. -/
def halfU (l : List (Int × Int)) (H : Nat) (v : Nat) : List Int := ((List.range H).filter fun h : Nat => hv l h == (v : Int)).map fun h : Nat => (h : Int)
theorem halfU_yes {l : List (Int × Int)} {H v : Nat} (h : hv l H = (v : Int)) : halfU l (H + 1) v = halfU l H v ++ [(H : Int)] := by
  simp [halfU, List.range_succ, List.filter_append, h]
theorem halfU_no {l : List (Int × Int)} {H v : Nat} (h : ¬ hv l H = (v : Int)) : halfU l (H + 1) v = halfU l H v := by
  simp [halfU, List.range_succ, List.filter_append, h]
theorem halfU_len (l : List (Int × Int)) (H v : Nat) : (halfU l H v).length ≤ H := by
  have := List.length_filter_le (fun h : Nat => hv l h == (v : Int)) (List.range H)
  simp [halfU]
  simpa using this
def halvesU (n : Nat) (l : List (Int × Int)) (H : Nat) : List (List Int) := (List.range n).map (halfU l H)
theorem halvesU_get {n : Nat} {l : List (Int × Int)} {H v : Nat} (hv : v < n) : (halvesU n l H)[v]? = some (halfU l H v) := by
  simp [halvesU, hv]
theorem halvesU_step {n : Nat} {l : List (Int × Int)} {H V : Nat} (h : hv l H = (V : Int)) (hV : V < n) : halvesU n l (H + 1) = (halvesU n l H).set V (halfU l H V ++ [(H : Int)]) := by
  apply List.ext_getElem?
  intro i
  rcases Nat.lt_or_ge i n with hi | hi
  · rw [halvesU_get hi]
    by_cases e : V = i
    · subst e
      rw [List.getElem?_set_self (by simp [halvesU, hi]), halfU_yes h]
    · rw [List.getElem?_set_ne e, halvesU_get hi, halfU_no (by rw [h]; omega)]
  · rw [List.getElem?_eq_none (by simp [halvesU, hi]), List.getElem?_eq_none (by simp [halvesU, hi])]
theorem halvesU_zero (n : Nat) (l : List (Int × Int)) : halvesU n l 0 = List.replicate n [] := by
  apply List.ext_getElem?
  intro i
  rcases Nat.lt_or_ge i n with hi | hi
  · rw [halvesU_get hi]; simp [hi, halfU]
  · rw [List.getElem?_eq_none (by simp [halvesU, hi]), List.getElem?_eq_none (by simp [hi])]

theorem Lists.made {e lt : TypeId} {w : World} {g n : Nat} (h : w.ownsRow g lt 1 (.slice (some ⟨g, 0, none⟩) n n) n (List.replicate n (.slice none 0 0))) :
    Lists g e lt w (.slice (some ⟨g, 0, none⟩) n n) (List.replicate n (.slice none 0 0)) (List.replicate n []) := by
  refine ⟨by simpa using h, OwnM.nils n, fun i v k hi hk => ?_⟩
  rw [List.getElem?_replicate] at hi
  split at hi
  · injection hi with hi
    subst hi
    simp [Value.ownBlock] at hk
  · cases hi

def HalvesPost (w : World) (n : Nat) (l : List (Int × Int)) (e : Ending) (w' : World) : Prop :=
  ∃ g vs, e = .returned (.slice (some ⟨g, 0, none⟩) n n) ∧ vs.length = n ∧ Lists w.heap.size 3 23 w' (.slice (some ⟨g, 0, none⟩) n n) vs (halvesU n l (2 * l.length)) ∧ Below w.heap.size w w'

set_option maxRecDepth 100000 in
set_option maxHeartbeats 2000000 in
theorem halves_any (n : Nat) (l : List (Int × Int)) (oa : Option Addr) (c : Nat) (F : Foot) (w : World) (hs : SliceR prR 2 F w oa l) (hc : l.length ≤ c) (hl : l.length ≤ 100000) (hn : n ≤ 12)
    (hr : Hid (∀ h, h < 2 * l.length → 0 ≤ hv l h ∧ hv l h < n)) : Calls Tryz.prog 151 #[.int .i64 n, .slice oa l.length c] w (HalvesPost w n l) := by
  obtain ⟨i0, hi0, hz0, hz1, hz2⟩ := info_parts listInfo
  go_enter Tryz.func151, Tryz.ntmps151
  go_wp2_with (at_make; refine wpList_make_full _ rfl _ _ 24 rfl w.heap.size 23 i0 _ 1 Tryz.underlying24 hi0 hz0 hz1 .i64 .i64 _ _ n rfl rfl rfl rfl (by rw [hz2]; omega) (by unfold maxLen; omega) (Nat.le_refl _) (fun w1 hrow hg1 => ?_))
  have hb1 : Below w.heap.size w w1 := (Below.refl _ _).grown hg1 (Nat.le_refl _) fun k hk => by cases hk
  have HL1 : Lists w.heap.size 3 23 w1 (.slice (some ⟨w.heap.size, 0, none⟩) n n) (List.replicate n (.slice none 0 0)) (List.replicate n []) := Lists.made (by
    have e : (madeCells (Value.slice none 0 0).cells (n * 1)).toList = List.replicate n (.slice none 0 0) := by
      rw [Nat.mul_one]
      exact toList_madeCells_one _ n
    rw [← e]; exact hrow)
  clear hrow hg1
  go_loopw [12] (fun iv wr => ∃ (k : Nat) (vs : List Value), k ≤ 2 * l.length ∧ iv = .int .i64 k ∧ vs.length = n ∧ Lists w.heap.size 3 23 wr (.slice (some ⟨w.heap.size, 0, none⟩) n n) vs (halvesU n l k) ∧ Below w.heap.size w wr) (fun iv _ => 2 * l.length - (intOf iv).toNat)
  case atStart => exact ⟨0, List.replicate n (.slice none 0 0), by omega, rfl, List.length_replicate, by rw [halvesU_zero]; exact HL1, hb1⟩
  case round =>
    clear HL1 hb1
    obtain ⟨k, vs, hk, rfl, hvl, HL, hbW⟩ := hrel
    by_cases hlt : k < 2 * l.length
    · have HL : Lists w.heap.size 3 23 wr (.slice (some ⟨w.heap.size, 0, none⟩) vs.length n) vs (halvesU n l k) := by rw [hvl]; exact HL
      obtain ⟨h0, h1⟩ := hr.out k hlt
      have hs2 := hs.below prR_ok hbW
      obtain ⟨V, hV⟩ := Int.eq_ofNat_of_zero_le h0
      have hVn : V < n := by omega
      have HV : Hid (hv l k = (V : Int)) := hV
      obtain ⟨v, hv'⟩ : ∃ v, vs[V]? = some v := ⟨vs[V], List.getElem?_eq_getElem (by omega)⟩
      have hx := halvesU_get (l := l) (H := k) hVn
      have hcell := HL.row.cellAt V (by omega)
      rw [hv'] at hcell
      have hfree := HL.row.frozenAt V
      have hgl := (HL.row.lt w.heap.size rfl).2
      have hxl := halfU_len l k V
      have hown := HL.ms.own V v _ hv' hx
      have HG := hide (fun w' v' h1 h2 h3 => HL.grow (w' := w') (v' := v') (x := (k : Int)) (o := .cells #[.int .i64 (k : Nat)] 3) hv' hx h1 h2 h3)
      have hoffv : v.ownBlock ≠ some w.heap.size := fun he => HL.off V v w.heap.size hv' he rfl
      have HBW := hide hbW
      have hszW := hbW.size
      have HS := hide (halvesU_step (n := n) HV.out hVn)
      have hone := one_cell (w := wr) (t := 3) (v := .int .i64 (k : Nat)) (j := 0) rfl
      have c2 : (wr.alloc (.cells #[.int .i64 (k : Nat)] 3)).cell? ⟨w.heap.size, V, none⟩ = some v := cell_next hcell _
      generalize halfU l k V = xs at hxl hown HG HS
      clear hv' hx HL hbW h0 h1
      go_wp2_with (first
        | (go_at_call 166; refine (at_any l oa c F _ hs2 hc k hlt (by omega)).mono ?_; rintro e w' ⟨rfl, rfl⟩; rw [hV])
        | (at_builtin; refine wpList_append_n rfl (.tmp 24) (.tmp 26) 23 rfl w.heap.size 3 _ Tryz.underlying23 intInfo8 rfl v xs rfl (hown.new _) ⟨wr.heap.size, 0, none⟩ 1 (k : Int) rfl hone (by constructor <;> omega) (by omega) (by simp; omega) ?_; intro v' w3 ho3 hb3 hg3 hv3; obtain ⟨oa3, c3, rfl, _, _⟩ := ho3.slice; have hf3 : w3.frozen? ⟨w.heap.size, V, none⟩ = false := (hg3.frozen_far ⟨w.heap.size, V, none⟩ (by simp; omega) (fun he => hoffv he.symm)).trans (((World.grownBy_alloc wr _ none).frozen_far ⟨w.heap.size, V, none⟩ hgl (by simp)).trans hfree); have hc3 : w3.cell? ⟨w.heap.size, V, none⟩ = some v := (hg3.cell_far ⟨w.heap.size, V, none⟩ (by simp; omega) (fun he => hoffv he.symm)).trans (((World.grownBy_alloc wr _ none).cell_far ⟨w.heap.size, V, none⟩ hgl (by simp)).trans hcell))
        | fail)
      have hL := HG.out _ _ ho3 hg3 hv3
      rw [List.length_set] at hL
      have hBf := ((HBW.out.alloc hszW (.cells #[.int .i64 (k : Nat)] 3)).trans hb3).setCell (p := ⟨w.heap.size, V, none⟩) (by simp) (.slice oa3 (xs ++ [(k : Int)]).length c3)
      simp only [List.length_append, List.length_cons, List.length_nil, Nat.zero_add] at hL hBf
      go_roundw
      case rel => exact ⟨k + 1, vs.set V (.slice oa3 (xs.length + 1) c3), by omega, by go_num, by rw [List.length_set]; exact hvl, by rw [HS.out]; rw [hvl] at hL; exact hL, hBf⟩
      case measure => simp [intOf]; omega
    · have : k = 2 * l.length := by omega
      subst this
      go_wp2_with fail
      go_ret
      exact ⟨w.heap.size, vs, rfl, hvl, HL, hbW⟩

end Go.Proofs.YtnigfddanoaonaaGreat

set_option linter.unusedVariables false
namespace Go.Proofs.YtnigfddanoaonaaGreat
open Go.RowKit

theorem index_any (x : Int) (l : List Int) (oa : Option Addr) (c : Nat) (F : Foot) (w : World) (hs : SliceR intR 1 F w oa l) (hc : l.length ≤ c) (hc2 : l.length ≤ 9223372036854775807) :
    Calls Tryz.prog 176 #[.slice oa l.length c, .int .i64 x] w fun e w' => ∃ r : Int, e = .returned (.int .i64 r) ∧ (0 ≤ r ↔ x ∈ l) ∧ w = w' := by
  go_enter Tryz.func176, Tryz.ntmps176
  go_wp2_with fail
  go_loop [8] (fun i => ∃ k : Nat, k ≤ l.length ∧ i = .int .i64 k ∧ Hid (x ∉ l.take k)) (fun i => l.length - (intOf i).toNat)
  case atStart => exact ⟨0, by omega, rfl, by show _ ∉ _; simp⟩
  case round =>
    obtain ⟨k, hk, rfl, HE⟩ := hrel
    by_cases hlt : k < l.length
    · obtain ⟨y, hd, hget, _, b, off, hoa, _, c0⟩ := hs.int_at hlt
      subst hoa
      by_cases hxy : x = y
      · have hm : Hid (x ∈ l) := by show _ ∈ _; rw [hxy]; exact List.mem_of_getElem? hget
        have hq : (x == y) = true := by simp [hxy]
        have hq2 : (y == x) = true := by simp [hxy]
        have HXY := hide hxy
        clear hd hget hxy
        go_wp2_with fail
        go_ret
        exact ⟨_, rfl, ⟨fun _ => hm.out, fun _ => by omega⟩, rfl⟩
      · have hm : Hid (x ∉ l.take (k + 1)) := by
          show _ ∉ _
          rw [List.take_add_one, hget]
          have := HE.out
          simp [hxy]
          exact this
        have hq : (x == y) = false := by simp [hxy]
        have hq2 : (y == x) = false := by simp; exact fun h => hxy h.symm
        have HXY := hide hxy
        clear hd hget hxy
        go_wp2_with fail
        go_round
        case rel => exact ⟨k + 1, by omega, by go_num, hm⟩
        case measure => simp [intOf]; omega
    · go_wp2_with fail
      go_ret
      refine ⟨_, rfl, ⟨fun h => by omega, fun h => ?_⟩, rfl⟩
      have := HE.out
      rw [List.take_of_length_le (by omega)] at this
      exact absurd h this

theorem contains_any (x : Int) (l : List Int) (oa : Option Addr) (c : Nat) (F : Foot) (w : World) (hs : SliceR intR 1 F w oa l) (hc : l.length ≤ c) (hc2 : l.length ≤ 9223372036854775807) :
    Calls Tryz.prog 168 #[.slice oa l.length c, .int .i64 x] w fun e w' => e = .returned (.bool (decide (x ∈ l))) ∧ w = w' := by
  go_enter Tryz.func168, Tryz.ntmps168
  go_wp2_with fail
  refine (index_any x l oa c F w hs hc hc2).mono ?_
  rintro e w' ⟨r, rfl, hr, rfl⟩
  have HR := hide hr
  clear hr
  go_wp2_with fail
  go_ret
  refine ⟨ret_bool ?_, rfl⟩
  have h := HR.out
  by_cases hx : x ∈ l <;> simp [hx] at h ⊢ <;> omega

end Go.Proofs.YtnigfddanoaonaaGreat

set_option linter.unusedVariables false
set_option linter.unusedSimpArgs false
namespace Go.Proofs.YtnigfddanoaonaaGreat
open Go.RowKit

theorem lessI_any (x y : Int) (w : World) : Calls Tryz.prog 174 #[.int .i64 x, .int .i64 y] w fun e w' => e = .returned (.bool (decide (x < y))) ∧ w = w' :=
  by
  have h1 : (x != x) = false := by simp
  have h2 : (y != y) = false := by simp
  by_cases h : x < y
  · go_enter Tryz.func174, Tryz.ntmps174
    go_wp2
    go_ret
    exact ⟨ret_bool (by simp [h]), rfl⟩
  · go_enter Tryz.func174, Tryz.ntmps174
    go_wp2
    go_ret
    exact ⟨ret_bool (by simp [h]), rfl⟩

theorem up_get {l : List Int} (h : l.Pairwise (· < ·)) {i j : Nat} (hij : i < j) (hj : j < l.length) : l[i]'(by omega) < l[j] := List.pairwise_iff_getElem.1 h i j (by omega) hj hij

set_option maxHeartbeats 1000000 in
theorem bin_any (x : Int) (l : List Int) (hp : Hid (l.Pairwise (· < ·))) (oa : Option Addr) (c : Nat) (F : Foot) (w : World) (hs : SliceR intR 1 F w oa l) (hc : l.length ≤ c) (hc2 : l.length ≤ 1000000000) :
    Calls Tryz.prog 167 #[.slice oa l.length c, .int .i64 x] w fun e w' => (∃ i : Int, e = .returned (.tuple #[.int .i64 i, .bool (decide (x ∈ l))])) ∧ w = w' := by
  go_enter Tryz.func167, Tryz.ntmps167
  go_wp2_with fail
  go_loop [7, 8] (fun iv jv => ∃ i j : Nat, i ≤ j ∧ j ≤ l.length ∧ iv = .int .i64 i ∧ jv = .int .i64 j ∧ Hid ((∀ (k : Nat) (y : Int), k < i → l[k]? = some y → y < x) ∧ ∀ (k : Nat) (y : Int), j ≤ k → l[k]? = some y → x ≤ y)) (fun iv jv => (intOf jv).toNat - (intOf iv).toNat)
  case atStart => exact ⟨0, l.length, by omega, by omega, rfl, rfl, fun k y hk => by omega, fun k y hk h => by
    have := (List.getElem?_eq_some_iff.1 h).1
    omega⟩
  case round =>
    obtain ⟨i, j, hij, hj, rfl, rfl, HI⟩ := hrel
    by_cases hlt : i < j
    · obtain ⟨h, hh⟩ : ∃ h, h = (i + j) / 2 := ⟨_, rfl⟩
      have hmid : ((i : Int) + j) / 2 = (h : Int) := by omega
      have h1 : i ≤ h := by omega
      have h2 : h < j := by omega
      have HH := hide hh
      clear hh
      obtain ⟨y, hd, hget, iy, b, off, hoa, _, c0⟩ := hs.int_at (i := h) (by omega)
      subst hoa
      by_cases hyx : y < x
      · have HI2 : Hid ((∀ (k : Nat) (y : Int), k < h + 1 → l[k]? = some y → y < x) ∧ ∀ (k : Nat) (y : Int), j ≤ k → l[k]? = some y → x ≤ y) := by
          refine ⟨fun k z hk hz => ?_, HI.out.2⟩
          obtain ⟨hhl, hhe⟩ := List.getElem?_eq_some_iff.1 hget
          obtain ⟨hkl, hke⟩ := List.getElem?_eq_some_iff.1 hz
          rcases Nat.lt_or_ge k h with hkh | hkh
          · have := up_get hp.out hkh hhl
            omega
          · have : k = h := by omega
            subst this
            omega
        have hq : decide (y < x) = true := by simp [hyx]
        clear hd hget hyx
        go_wp2_with (go_at_call 174; refine (lessI_any y x _).mono ?_; rintro e w' ⟨rfl, rfl⟩)
        go_round
        case rel => exact ⟨h + 1, j, by omega, hj, by go_num, rfl, HI2⟩
        case measure => simp [intOf]; omega
      · have HI2 : Hid ((∀ (k : Nat) (y : Int), k < i → l[k]? = some y → y < x) ∧ ∀ (k : Nat) (y : Int), h ≤ k → l[k]? = some y → x ≤ y) := by
          refine ⟨HI.out.1, fun k z hk hz => ?_⟩
          obtain ⟨hhl, hhe⟩ := List.getElem?_eq_some_iff.1 hget
          obtain ⟨hkl, hke⟩ := List.getElem?_eq_some_iff.1 hz
          rcases Nat.lt_or_ge h k with hkh | hkh
          · have := up_get hp.out hkh hkl
            omega
          · have : k = h := by omega
            subst this
            omega
        have hq : decide (y < x) = false := by simp; omega
        clear hd hget hyx
        go_wp2_with (go_at_call 174; refine (lessI_any y x _).mono ?_; rintro e w' ⟨rfl, rfl⟩)
        go_round
        case rel => exact ⟨i, h, by omega, by omega, rfl, rfl, HI2⟩
        case measure => simp [intOf]; omega
    · have : i = j := by omega
      subst this
      have hxx : (x != x) = false := by simp
      by_cases hi : i < l.length
      · obtain ⟨y, hd, hget, iy, b, off, hoa, _, c0⟩ := hs.int_at hi
        subst hoa
        have hyy : (y != y) = false := by simp
        by_cases hyx : y = x
        · have HR : Hid (decide (x ∈ l) = true) := by
            show _ = _
            simp
            rw [← hyx]
            exact List.mem_of_getElem? hget
          have hq : (y == x) = true := by simp [hyx]
          have HY := hide hyx
          clear hd hget hyx
          go_wp2
          go_ret2
          exact ⟨⟨_, by rw [HR.out]; rfl⟩, rfl⟩
        · have HR : Hid (decide (x ∈ l) = false) := by
            show _ = _
            simp
            intro hx
            obtain ⟨k, hk, hke⟩ := List.getElem_of_mem hx
            have hz : l[k]? = some x := by rw [List.getElem?_eq_getElem hk, hke]
            rcases Nat.lt_or_ge k i with h1 | h1
            · have := HI.out.1 k x h1 hz; omega
            · have h3 := HI.out.2 i y (by omega) hget
              rcases Nat.lt_or_ge i k with h2 | h2
              · obtain ⟨hhl, hhe⟩ := List.getElem?_eq_some_iff.1 hget
                have := up_get hp.out h2 hk
                omega
              · have : k = i := by omega
                subst this
                rw [hget] at hz
                injection hz with hz
                exact hyx hz
          have hq : (y == x) = false := by simp [hyx]
          have HY := hide hyx
          clear hd hget hyx
          go_wp2
          go_ret2
          exact ⟨⟨_, by rw [HR.out]; rfl⟩, rfl⟩
      · have HR : Hid (decide (x ∈ l) = false) := by
          show _ = _
          simp
          intro hx
          obtain ⟨k, hk, hke⟩ := List.getElem_of_mem hx
          have := HI.out.1 k x (by omega) (by rw [List.getElem?_eq_getElem hk, hke])
          omega
        go_wp2
        go_ret2
        exact ⟨⟨_, by rw [HR.out]; rfl⟩, rfl⟩

end Go.Proofs.YtnigfddanoaonaaGreat

set_option linter.unusedVariables false
set_option linter.unusedSimpArgs false
set_option linter.unnecessarySimpa false
namespace Go.Proofs.YtnigfddanoaonaaGreat
open Go.RowKit

/-- The first thing that is wrong with the half-edges one by one. -/
def scanE (own : List Int) : List Int → List Int → Int
  | _, [] => 0
  | pre, h :: r => if h ∈ own then (if h ∈ pre then 7 else scanE own (pre ++ [h]) r) else 2
def listE (l own : List Int) : Int := if l.length = own.length then (if scanE own [] l = 0 then (if l.head? = own.head? then 0 else 9) else scanE own [] l) else 8

theorem scanE_cons (own pre r : List Int) (h : Int) : scanE own pre (h :: r) = if h ∈ own then (if h ∈ pre then 7 else scanE own (pre ++ [h]) r) else 2 := rfl
theorem SliceR.pre {α : Type} {R : Rep α} {sz : Nat} {F : Foot} {w : World} {oa : Option Addr} {xs : List α} (h : SliceR R sz F w oa xs) (k : Nat) : SliceR R sz F w oa (xs.take k) := by
  intro i x hx
  rw [List.getElem?_take] at hx
  split at hx
  · exact h i x hx
  · cases hx

set_option maxRecDepth 100000 in
set_option maxHeartbeats 2000000 in
theorem list_any (l own : List Int) (ol oo : Option Addr) (cl co : Nat) (F G : Foot) (w : World) (hs : SliceR intR 1 F w ol l) (hc : l.length ≤ cl) (hl : l.length ≤ 9223372036854775807)
    (hso : SliceR intR 1 G w oo own) (hco : own.length ≤ co) (ho : own.length ≤ 1000000000) (hp : Hid (own.Pairwise (· < ·))) :
    Calls Tryz.prog 152 #[.slice ol l.length cl, .slice oo own.length co] w (ErrPost w (listE l own)) := by
  by_cases hlen : l.length = own.length
  · have HE : Hid (listE l own = if scanE own [] l = 0 then (if l.head? = own.head? then 0 else 9) else scanE own [] l) := if_pos hlen
    have hq : ((l.length : Int) != (own.length : Int)) = false := by simp [hlen]
    have hlo : l.length ≤ 1000000000 := by omega
    have HLen := hide hlen
    clear hlen
    go_enter Tryz.func152, Tryz.ntmps152
    go_wp2_with fail
    go_loop [16] (fun iv => ∃ k : Nat, k ≤ l.length ∧ iv = .int .i64 k ∧ Hid (scanE own [] l = scanE own (l.take k) (l.drop k))) (fun iv => l.length - (intOf iv).toNat)
    case atStart => exact ⟨0, by omega, rfl, rfl⟩
    case round =>
      obtain ⟨k, hk, rfl, HS⟩ := hrel
      by_cases hlt : k < l.length
      · obtain ⟨x, hd, hget, ix, b, off, hoa, _, c0⟩ := hs.int_at hlt
        have hpre := hs.pre k
        have hlp : (l.take k).length = k := by rw [List.length_take]; omega
        have HP : Hid (l.take k ++ [x] = l.take (k + 1)) := by show _ = _; rw [List.take_add_one, hget]; rfl
        have hSS := HS.out
        rw [hd, scanE_cons] at hSS
        have HS2 := hide hSS
        have hcon := fun W (hW : SliceR intR 1 F W ol (l.take k)) => contains_any x (l.take k) ol cl F W hW (by rw [hlp]; omega) (by rw [hlp]; omega)
        simp only [hlp] at hcon
        clear hSS hd hget
        by_cases hxo : x ∈ own
        · have q1 : decide (x ∈ own) = true := by simp [hxo]
          by_cases hxp : x ∈ l.take k
          · have q2 : decide (x ∈ l.take k) = true := by simp [hxp]
            have HR : Hid (listE l own = 7) := by
              show _ = _
              have h := HS2.out
              rw [if_pos hxo, if_pos hxp] at h
              rw [HE.out, h, if_neg (by decide)]
            clear hxo hxp
            subst hoa
            go_wp2_with (first | (go_at_call 167; refine (bin_any x own hp oo co G _ hso hco ho).mono ?_; rintro e w' ⟨⟨ib, rfl⟩, rfl⟩; rw [q1]) | (go_at_call 168; refine (hcon _ hpre).mono ?_; rintro e w' ⟨rfl, rfl⟩; rw [q2]) | fail)
            go_ret
            exact ⟨ret_int HR.out.symm, Below.refl _ _⟩
          · have q2 : decide (x ∈ l.take k) = false := by simp [hxp]
            have HS3 : Hid (scanE own [] l = scanE own (l.take (k + 1)) (l.drop (k + 1))) := by
              show _ = _
              have h := HS2.out
              rw [if_pos hxo, if_neg hxp, HP.out] at h
              exact h
            clear hxo hxp
            subst hoa
            go_wp2_with (first | (go_at_call 167; refine (bin_any x own hp oo co G _ hso hco ho).mono ?_; rintro e w' ⟨⟨ib, rfl⟩, rfl⟩; rw [q1]) | (go_at_call 168; refine (hcon _ hpre).mono ?_; rintro e w' ⟨rfl, rfl⟩; rw [q2]) | fail)
            go_round
            case rel => exact ⟨k + 1, by omega, by go_num, HS3⟩
            case measure => simp [intOf]; omega
        · have q1 : decide (x ∈ own) = false := by simp [hxo]
          have HR : Hid (listE l own = 2) := by
            show _ = _
            have h := HS2.out
            rw [if_neg hxo] at h
            rw [HE.out, h, if_neg (by decide)]
          clear hxo
          subst hoa
          go_wp2_with (first | (go_at_call 167; refine (bin_any x own hp oo co G _ hso hco ho).mono ?_; rintro e w' ⟨⟨ib, rfl⟩, rfl⟩; rw [q1]) | fail)
          go_ret
          exact ⟨ret_int HR.out.symm, Below.refl _ _⟩
      · have HR : Hid (listE l own = if l.head? = own.head? then 0 else 9) := by
          show _ = _
          have h := HS.out
          rw [List.drop_of_length_le (by omega)] at h
          rw [HE.out, if_pos (h.trans (show scanE own (l.take k) [] = 0 from rfl))]
        by_cases hz : 0 < l.length
        · obtain ⟨x, _, hgx, ix, b1, off1, hoa1, _, c0⟩ := hs.int_at hz
          obtain ⟨y, _, hgy, iy, b2, off2, hoa2, _, c1⟩ := hso.int_at (i := 0) (by have := HLen.out; omega)
          simp only [Nat.add_zero] at c0 c1
          subst hoa1 hoa2
          have h1 : l.head? = some x := by rw [List.head?_eq_getElem?]; exact hgx
          have h2 : own.head? = some y := by rw [List.head?_eq_getElem?]; exact hgy
          have hz2 : 0 < own.length := by have := HLen.out; omega
          by_cases hxy : x = y
          · have HR2 : Hid (listE l own = 0) := by show _ = _; rw [HR.out, h1, h2, if_pos (by rw [hxy])]
            have q3 : (x != y) = false := by simp [hxy]
            have HXY := hide hxy
            clear h1 h2 hgx hgy hxy
            go_wp2_with fail
            go_quiet (fail)
            go_wp2_with fail
            go_ret
            exact ⟨ret_int HR2.out.symm, below_drewN (Below.refl _ _) _⟩
          · have HR2 : Hid (listE l own = 9) := by show _ = _; rw [HR.out, h1, h2, if_neg (by simp [hxy])]
            have q3 : (x != y) = true := by simp [hxy]
            have HXY := hide hxy
            clear h1 h2 hgx hgy hxy
            go_wp2_with fail
            go_quiet (fail)
            go_wp2_with fail
            go_ret
            exact ⟨ret_int HR2.out.symm, below_drewN (Below.refl _ _) _⟩
        · have h0 : l.length = 0 := by omega
          have HR2 : Hid (listE l own = 0) := by
            show _ = _
            rw [HR.out, List.eq_nil_of_length_eq_zero h0, List.eq_nil_of_length_eq_zero (show own.length = 0 by have := HLen.out; omega)]
            rfl
          go_wp2_with fail
          go_quiet (fail)
          go_wp2_with fail
          go_ret
          exact ⟨ret_int HR2.out.symm, below_drewN (Below.refl _ _) _⟩
  · have HE : Hid (listE l own = 8) := if_neg hlen
    have hq : ((l.length : Int) != (own.length : Int)) = true := by simp; omega
    go_enter Tryz.func152, Tryz.ntmps152
    go_wp2_with fail
    go_ret
    exact ⟨ret_int HE.out.symm, Below.refl _ _⟩

end Go.Proofs.YtnigfddanoaonaaGreat

set_option linter.unusedVariables false
set_option linter.unusedSimpArgs false
set_option linter.unnecessarySimpa false
namespace Go.Proofs.YtnigfddanoaonaaGreat
open Go.RowKit

theorem hv_mem {l : List (Int × Int)} {h : Nat} (hh : h < 2 * l.length) : ∃ p ∈ l, hv l h = p.1 ∨ hv l h = p.2 := by
  have hq : h / 2 < l.length := by omega
  have hg : l.getD (h / 2) (0, 0) = l[h / 2] := by rw [List.getD_eq_getElem?_getD, List.getElem?_eq_getElem hq]; rfl
  refine ⟨l[h / 2], List.getElem_mem hq, ?_⟩
  unfold hv
  rw [hg]
  split
  · exact .inl rfl
  · exact .inr rfl
theorem hv_range {n : Int} {es : List Edg} (hV : gErr n es = 0) : ∀ h, h < 2 * (endsL es).length → 0 ≤ hv (endsL es) h ∧ hv (endsL es) h < n := by
  intro h hh
  obtain ⟨p, hp, hpe⟩ := hv_mem hh
  obtain ⟨x, hx, rfl⟩ := endsL_mem hp
  have h1 := (gErr_zero hV).2.1 x hx
  rcases hpe with e | e <;> (rw [e]; simp only; omega)
theorem halfU_up (l : List (Int × Int)) (H v : Nat) : (halfU l H v).Pairwise (· < ·) := by
  unfold halfU
  rw [List.pairwise_map]
  refine (List.Pairwise.filter _ List.pairwise_lt_range).imp fun h => by omega

def rowsE : List (List Int) → List (List Int) → Int
  | a :: r, o :: q => if listE a o = 0 then rowsE r q else listE a o
  | _, _ => 0
theorem rowsE_cons (a o : List Int) (r q : List (List Int)) : rowsE (a :: r) (o :: q) = if listE a o = 0 then rowsE r q else listE a o := rfl
def halfs (n : Int) (es : List Edg) : List (List Int) := halvesU n.toNat (endsL es) (2 * (endsL es).length)
/-- The error of a ribbon graph. -/
def chkE (n : Int) (es : List Edg) (f : List Nat) (ar : List (List Int)) : Int :=
  if jErr n es f = 0 then (if (ar.length : Int) = n then rowsE ar (halfs n es) else 8) else jErr n es f
def CheckedPost (w : World) (n : Int) (es : List Edg) (f : List Nat) (ar : List (List Int)) (e : Ending) (w' : World) : Prop :=
  ∃ v, e = .returned (.tuple #[v, .int .i64 (chkE n es f ar)]) ∧ OwnS prR 2 w.heap.size 80 Non w' v (if chkE n es f ar = 0 then endsL es else []) ∧ Below w.heap.size w w'

theorem jErr_zero {n : Int} {es : List Edg} {f : List Nat} (h : jErr n es f = 0) : gErr n es = 0 := by
  unfold jErr at h
  split at h
  · assumption
  · exact h

set_option maxRecDepth 100000 in
set_option maxHeartbeats 4000000 in
theorem checked_any (n : Int) (es : List Edg) (oe : Option Addr) (c : Nat) (ar : List (List Int)) (oa : Option Addr) (ca : Nat) (F G : Foot) (w : World) (hs : SliceR edgR 3 F w oe es) (hc : es.length ≤ c) (hc2 : es.length ≤ 1000)
    (ha : SliceR (slcR intR 1) 1 G w oa ar) (hac : ar.length ≤ ca) (hac2 : ar.length ≤ 9223372036854775807) (f : List Nat) (hU : Hid (gErr n es = 0 → Uf f (eL es))) :
    Calls Tryz.prog 131 #[.agg #[.int .i64 n, .slice oe es.length c, .slice oa ar.length ca]] w (CheckedPost w n es f ar) := by
  go_enter Tryz.func131, Tryz.ntmps131
  go_wp2_with fail
  have hb0 := box_refl w (.cells #[.int .i64 n, .slice oe es.length c, .slice oa ar.length ca] 52)
  refine (joined_any n es oe c F _ (hs.below edgR_ok (below_box hb0)) hc hc2 f hU).mono ?_
  rintro e w2 ⟨v, rfl, ho, hb2⟩
  have hx2 := hb2.mono (B' := w.heap.size + 1) (by simp)
  have d0 := box_cell hx2 0
  have d2 := box_cell hx2 2
  simp at d0 d2
  clear hb2 hb0
  by_cases hJ : jErr n es f = 0
  · have hV := jErr_zero hJ
    have HC : Hid (chkE n es f ar = if (ar.length : Int) = n then rowsE ar (halfs n es) else 8) := if_pos hJ
    have HE : Hid (jEnds n es = endsL es) := if_pos hV
    rw [HE.out] at ho
    rw [hJ]
    by_cases hn : (ar.length : Int) = n
    · have HC2 : Hid (chkE n es f ar = rowsE ar (halfs n es)) := by show _ = _; rw [HC.out, if_pos hn]
      have hn12 := (gErr_zero hV).1
      have hq : ((ar.length : Int) != n) = false := by simp [hn]
      obtain ⟨N, rfl⟩ := Int.eq_ofNat_of_zero_le (show 0 ≤ n by omega)
      have hNar : ar.length = N := by omega
      have HHV := hide (hv_range hV)
      have hend : (endsL es).length ≤ 50000 := by
        have := endsL_len fun x hx => ((gErr_zero hV).2.1 x hx).2.2.2.1
        omega
      obtain ⟨ox, cx, rfl, hcx, hsx⟩ := ho.slice prR_ok
      have HO := hide ho
      have hb2' := hide (below_box hx2)
      clear ho hn hV hJ
      go_wp2_with fail
      refine (halves_any N (endsL es) ox cx _ _ hsx hcx (by omega) (by omega) HHV).mono ?_
      rintro e w3 ⟨g, vs, rfl, hvl, HL, hb3⟩
      have hx3 := hx2.trans (hb3.mono (box_lt hx2))
      have hgl := (HL.row.lt g rfl).2
      have HO3 := hide (HO.out.below prR_ok hb3)
      clear hb3 d0 d2 hx2
      go_wp2_with fail
      have HH : Hid (halfs (N : Int) es = halvesU N (endsL es) (2 * (endsL es).length)) := rfl
      go_loopw [31] (fun iv wr => ∃ k : Nat, k ≤ N ∧ iv = .int .i64 k ∧ Hid (chkE (N : Int) es f ar = rowsE (ar.drop k) ((halfs (N : Int) es).drop k)) ∧ Below w3.heap.size w3 wr) (fun iv _ => N - (intOf iv).toNat)
      case atStart => exact ⟨0, by omega, rfl, HC2, Below.refl _ _⟩
      case round =>
        obtain ⟨k, hk, rfl, HS, hbr⟩ := hrel
        have hxr := hx3.trans (hbr.mono (box_lt hx3))
        have hbw := below_box hxr
        by_cases hlt : k < N
        · obtain ⟨x, hd, hget, b, off, ol, cl, hoa, _, c0, hxl, hxl2, hsl⟩ := (ha.below (slcR_ok intR_ok (by decide)) hbw).slc_at (i := k) (by omega)
          subst hoa
          have hho := halvesU_get (l := endsL es) (H := 2 * (endsL es).length) hlt
          have HLr := HL.below hbr
          obtain ⟨v, hv'⟩ : ∃ v, vs[k]? = some v := ⟨vs[k], List.getElem?_eq_getElem (by omega)⟩
          have hrow := HLr.row
          rw [hvl] at hrow
          have c1 := hrow.cellAt k (by omega)
          rw [hv'] at c1
          obtain ⟨oo, co, rfl, hco, hso⟩ := (HLr.ms.own k v _ hv' hho).slice
          have hol := halfU_len (endsL es) (2 * (endsL es).length) k
          have hup := hide (halfU_up (endsL es) (2 * (endsL es).length) k)
          have d2 := box_cell hxr 2
          simp at d2
          have HS2 : Hid (chkE (N : Int) es f ar = if listE x (halfU (endsL es) (2 * (endsL es).length) k) = 0 then rowsE (ar.drop (k + 1)) ((halfs (N : Int) es).drop (k + 1)) else listE x (halfU (endsL es) (2 * (endsL es).length) k)) := by
            show _ = _
            have hd2 : (halfs (N : Int) es).drop k = halfU (endsL es) (2 * (endsL es).length) k :: (halfs (N : Int) es).drop (k + 1) := by
              rw [HH.out]
              have hkl : k < (halvesU N (endsL es) (2 * (endsL es).length)).length := by simp [halvesU, hlt]
              rw [List.drop_eq_getElem_cons hkl]
              congr 1
              rw [List.getElem?_eq_getElem hkl] at hho
              injection hho
            rw [HS.out, hd, hd2, rowsE_cons]
          have HOV := hide hvl
          generalize halfU (endsL es) (2 * (endsL es).length) k = own at hco hso hol hup HS2 c1
          clear hv' hho HLr hrow hd hget hvl
          by_cases hle : listE x own = 0
          · have HS3 : Hid (chkE (N : Int) es f ar = rowsE (ar.drop (k + 1)) ((halfs (N : Int) es).drop (k + 1))) := by show _ = _; rw [HS2.out, if_pos hle]
            go_wp2_with fail
            refine (list_any x own ol oo cl co _ _ _ hsl hxl hxl2 hso hco (by omega) hup).mono ?_
            rintro e w5 ⟨rfl, hb5⟩
            rw [hle]
            have hbr5 := hide (below_then hbr hb5)
            clear hle hb5
            go_wp2_with fail
            go_roundw
            case rel => exact ⟨k + 1, by omega, by go_num, HS3, hbr5.out⟩
            case measure => simp [intOf]; omega
          · have HS3 : Hid (chkE (N : Int) es f ar = listE x own) := by show _ = _; rw [HS2.out, if_neg hle]
            have hq2 : (listE x own != 0) = true := by simpa using hle
            have HLE := hide hle
            clear hle
            go_wp2_with fail
            refine (list_any x own ol oo cl co _ _ _ hsl hxl hxl2 hso hco (by omega) hup).mono ?_
            rintro e w5 ⟨rfl, hb5⟩
            have hbr5 := hide (below_then hbw hb5)
            clear hb5
            go_wp2_with fail
            go_ret2
            exact ⟨_, by rw [HS3.out]; rfl, by rw [HS3.out, if_neg HLE.out]; exact OwnS.nil prR 2 _ _ _ _, hbr5.out⟩
        · have hkN : k = N := by omega
          have HS3 : Hid (chkE (N : Int) es f ar = 0) := by
            show _ = _
            rw [HS.out, List.drop_of_length_le (by omega)]
            rfl
          have HOr := hide (HO3.out.below prR_ok hbr)
          clear hbr
          go_wp2_with fail
          go_ret2
          exact ⟨_, by rw [HS3.out]; rfl, by rw [HS3.out, if_pos rfl]; exact HOr.out.rebase (by simp), hbw⟩
    · have HC2 : Hid (chkE n es f ar = 8) := by show _ = _; rw [HC.out, if_neg hn]
      have hq : ((ar.length : Int) != n) = true := by simpa using hn
      have HX := hide (below_box hx2)
      clear hn ho
      go_wp2_with fail
      go_ret2
      exact ⟨_, by rw [HC2.out]; rfl, by rw [HC2.out, if_neg (by decide)]; exact OwnS.nil prR 2 _ _ _ _, HX.out⟩
  · have HC : Hid (chkE n es f ar = jErr n es f) := if_neg hJ
    have hq : (jErr n es f != 0) = true := by simpa using hJ
    have HX := hide (below_box hx2)
    have HJ := hide hJ
    clear ho hJ
    go_wp2_with fail
    go_ret2
    exact ⟨_, by rw [HC.out]; rfl, by rw [HC.out, if_neg HJ.out]; exact OwnS.nil prR 2 _ _ _ _, HX.out⟩

end Go.Proofs.YtnigfddanoaonaaGreat

set_option linter.unusedVariables false
set_option linter.unusedSimpArgs false
set_option linter.unnecessarySimpa false
namespace Go.Proofs.YtnigfddanoaonaaGreat
open Go.RowKit

set_option maxRecDepth 100000 in
set_option maxHeartbeats 4000000 in
theorem betw_any (n : Int) (es : List Edg) (oe : Option Addr) (c : Nat) (F : Foot) (w : World) (hs : SliceR edgR 3 F w oe es) (hc : es.length ≤ c) (hc2 : es.length ≤ 9223372036854775807) (a b : Int) :
    Calls Tryz.prog 99 #[.agg #[.int .i64 n, .slice oe es.length c], .int .i64 a, .int .i64 b] w (ErrPost w (betw es a b)) := by
  rcases Int.lt_trichotomy a b with hab | hab | hab
  · have hmin : min a b = a := by omega
    have hmax : max a b = b := by omega
    go_enter Tryz.func99, Tryz.ntmps99
    go_wp2_with fail
    have hb0 := box_refl w (.cells #[.int .i64 n, .slice oe es.length c] 43)
    go_loopw [7] (fun iv wr => ∃ k : Nat, k ≤ es.length ∧ iv = .int .i64 k ∧ Hid (betw es a b = betw (es.drop k) a b) ∧ Below (w.heap.size + 1) (w.alloc (.cells #[.int .i64 n, .slice oe es.length c] 43)) wr) (fun iv _ => es.length - (intOf iv).toNat)
    case atStart => exact ⟨0, by omega, rfl, rfl, hb0⟩
    case round =>
      obtain ⟨k, hk, rfl, HB, hb⟩ := hrel
      have d1 := box_cell hb 1
      simp at d1
      clear hb0
      by_cases hlt : k < es.length
      · obtain ⟨x, y, m, hd, hget, _, _, _, bl, off, hoa, _, c0, c1, c2⟩ := (hs.below edgR_ok (below_box hb)).edg_at hlt
        subst hoa
        have hbl := World.block_lt_of_cell? _ _ c0
        simp only at hbl
        have hsz := box_lt hb
        have HS := HB.out
        rw [hd, betw] at HS
        simp only [hmin, hmax] at HS
        have HS := hide HS
        clear hd hget
        by_cases hx : x = a
        · by_cases hy : y = b
          · have HR : Hid (betw es a b = m) := by show _ = _; rw [HS.out, if_pos ⟨hx, hy⟩]
            have q1 : (x == a) = true := by simp [hx]
            have q2 : (y == b) = true := by simp [hy]
            have HX := hide (And.intro hx hy)
            clear hx hy
            go_wp2_with fail
            go_ret
            exact ⟨ret_int HR.out.symm, below_box (box_new hb (by simp) _)⟩
          · have HR : Hid (betw es a b = betw (es.drop (k + 1)) a b) := by show _ = _; rw [HS.out, if_neg (fun h => hy h.2)]
            have q1 : (x == a) = true := by simp [hx]
            have q2 : (y == b) = false := by simp [hy]
            have HX := hide (And.intro hx hy)
            clear hx hy
            go_wp2_with fail
            go_roundw
            case rel => exact ⟨k + 1, by omega, by go_num, HR, box_new hb (by simp) _⟩
            case measure => simp [intOf]; omega
        · have HR : Hid (betw es a b = betw (es.drop (k + 1)) a b) := by show _ = _; rw [HS.out, if_neg (fun h => hx h.1)]
          have q1 : (x == a) = false := by simp [hx]
          have HX := hide hx
          clear hx
          go_wp2_with fail
          go_roundw
          case rel => exact ⟨k + 1, by omega, by go_num, HR, box_new hb (by simp) _⟩
          case measure => simp [intOf]; omega
      · have HR : Hid (betw es a b = 0) := by
          show _ = _
          rw [HB.out, List.drop_of_length_le (by omega)]
          rfl
        go_wp2_with fail
        go_ret
        exact ⟨ret_int HR.out.symm, below_box hb⟩
  · subst hab
    have hmin : min a a = a := by omega
    have hmax : max a a = a := by omega
    go_enter Tryz.func99, Tryz.ntmps99
    go_wp2_with fail
    have hb0 := box_refl w (.cells #[.int .i64 n, .slice oe es.length c] 43)
    go_loopw [7] (fun iv wr => ∃ k : Nat, k ≤ es.length ∧ iv = .int .i64 k ∧ Hid (betw es a a = betw (es.drop k) a a) ∧ Below (w.heap.size + 1) (w.alloc (.cells #[.int .i64 n, .slice oe es.length c] 43)) wr) (fun iv _ => es.length - (intOf iv).toNat)
    case atStart => exact ⟨0, by omega, rfl, rfl, hb0⟩
    case round =>
      obtain ⟨k, hk, rfl, HB, hb⟩ := hrel
      have d1 := box_cell hb 1
      simp at d1
      clear hb0
      by_cases hlt : k < es.length
      · obtain ⟨x, y, m, hd, hget, _, _, _, bl, off, hoa, _, c0, c1, c2⟩ := (hs.below edgR_ok (below_box hb)).edg_at hlt
        subst hoa
        have hbl := World.block_lt_of_cell? _ _ c0
        simp only at hbl
        have hsz := box_lt hb
        have HS := HB.out
        rw [hd, betw] at HS
        simp only [hmin, hmax] at HS
        have HS := hide HS
        clear hd hget
        by_cases hx : x = a
        · by_cases hy : y = a
          · have HR : Hid (betw es a a = m) := by show _ = _; rw [HS.out, if_pos ⟨hx, hy⟩]
            have q1 : (x == a) = true := by simp [hx]
            have q2 : (y == a) = true := by simp [hy]
            have HX := hide (And.intro hx hy)
            clear hx hy
            go_wp2_with fail
            go_ret
            exact ⟨ret_int HR.out.symm, below_box (box_new hb (by simp) _)⟩
          · have HR : Hid (betw es a a = betw (es.drop (k + 1)) a a) := by show _ = _; rw [HS.out, if_neg (fun h => hy h.2)]
            have q1 : (x == a) = true := by simp [hx]
            have q2 : (y == a) = false := by simp [hy]
            have HX := hide (And.intro hx hy)
            clear hx hy
            go_wp2_with fail
            go_roundw
            case rel => exact ⟨k + 1, by omega, by go_num, HR, box_new hb (by simp) _⟩
            case measure => simp [intOf]; omega
        · have HR : Hid (betw es a a = betw (es.drop (k + 1)) a a) := by show _ = _; rw [HS.out, if_neg (fun h => hx h.1)]
          have q1 : (x == a) = false := by simp [hx]
          have HX := hide hx
          clear hx
          go_wp2_with fail
          go_roundw
          case rel => exact ⟨k + 1, by omega, by go_num, HR, box_new hb (by simp) _⟩
          case measure => simp [intOf]; omega
      · have HR : Hid (betw es a a = 0) := by
          show _ = _
          rw [HB.out, List.drop_of_length_le (by omega)]
          rfl
        go_wp2_with fail
        go_ret
        exact ⟨ret_int HR.out.symm, below_box hb⟩
  · have hmin : min a b = b := by omega
    have hmax : max a b = a := by omega
    go_enter Tryz.func99, Tryz.ntmps99
    go_wp2_with fail
    have hb0 := box_refl w (.cells #[.int .i64 n, .slice oe es.length c] 43)
    go_loopw [7] (fun iv wr => ∃ k : Nat, k ≤ es.length ∧ iv = .int .i64 k ∧ Hid (betw es a b = betw (es.drop k) a b) ∧ Below (w.heap.size + 1) (w.alloc (.cells #[.int .i64 n, .slice oe es.length c] 43)) wr) (fun iv _ => es.length - (intOf iv).toNat)
    case atStart => exact ⟨0, by omega, rfl, rfl, hb0⟩
    case round =>
      obtain ⟨k, hk, rfl, HB, hb⟩ := hrel
      have d1 := box_cell hb 1
      simp at d1
      clear hb0
      by_cases hlt : k < es.length
      · obtain ⟨x, y, m, hd, hget, _, _, _, bl, off, hoa, _, c0, c1, c2⟩ := (hs.below edgR_ok (below_box hb)).edg_at hlt
        subst hoa
        have hbl := World.block_lt_of_cell? _ _ c0
        simp only at hbl
        have hsz := box_lt hb
        have HS := HB.out
        rw [hd, betw] at HS
        simp only [hmin, hmax] at HS
        have HS := hide HS
        clear hd hget
        by_cases hx : x = b
        · by_cases hy : y = a
          · have HR : Hid (betw es a b = m) := by show _ = _; rw [HS.out, if_pos ⟨hx, hy⟩]
            have q1 : (x == b) = true := by simp [hx]
            have q2 : (y == a) = true := by simp [hy]
            have HX := hide (And.intro hx hy)
            clear hx hy
            go_wp2_with fail
            go_ret
            exact ⟨ret_int HR.out.symm, below_box (box_new hb (by simp) _)⟩
          · have HR : Hid (betw es a b = betw (es.drop (k + 1)) a b) := by show _ = _; rw [HS.out, if_neg (fun h => hy h.2)]
            have q1 : (x == b) = true := by simp [hx]
            have q2 : (y == a) = false := by simp [hy]
            have HX := hide (And.intro hx hy)
            clear hx hy
            go_wp2_with fail
            go_roundw
            case rel => exact ⟨k + 1, by omega, by go_num, HR, box_new hb (by simp) _⟩
            case measure => simp [intOf]; omega
        · have HR : Hid (betw es a b = betw (es.drop (k + 1)) a b) := by show _ = _; rw [HS.out, if_neg (fun h => hx h.1)]
          have q1 : (x == b) = false := by simp [hx]
          have HX := hide hx
          clear hx
          go_wp2_with fail
          go_roundw
          case rel => exact ⟨k + 1, by omega, by go_num, HR, box_new hb (by simp) _⟩
          case measure => simp [intOf]; omega
      · have HR : Hid (betw es a b = 0) := by
          show _ = _
          rw [HB.out, List.drop_of_length_le (by omega)]
          rfl
        go_wp2_with fail
        go_ret
        exact ⟨ret_int HR.out.symm, below_box hb⟩

end Go.Proofs.YtnigfddanoaonaaGreat

set_option linter.unusedVariables false
set_option linter.unusedSimpArgs false
set_option linter.unnecessarySimpa false
namespace Go.Proofs.YtnigfddanoaonaaGreat
open Go.RowKit

set_option maxRecDepth 100000 in
theorem rsize_any (n : Int) (es : List Edg) (oe : Option Addr) (c : Nat) (F : Foot) (w : World) (hs : SliceR edgR 3 F w oe es) (hc : es.length ≤ c) (hc2 : es.length ≤ 1000) (hm : Hid (∀ x ∈ es, x.m ≤ 50)) :
    Calls Tryz.prog 130 #[.agg #[.int .i64 n, .slice oe es.length c]] w (ErrPost w ((endsL es).length : Nat)) := by
  go_enter Tryz.func130, Tryz.ntmps130
  go_wp2_with fail
  have hb0 := box_refl w (.cells #[.int .i64 n, .slice oe es.length c] 43)
  refine (rgends_any n es oe c F _ (hs.below edgR_ok (below_box hb0)) hc hc2 hm).mono ?_
  rintro e w2 ⟨v, rfl, ho, hb2⟩
  obtain ⟨ov, cv, rfl, _, _⟩ := ho.slice prR_ok
  have hx := below_box (hb2.mono (B' := w.heap.size + 1) (by simp))
  clear ho hb2
  go_wp2_with fail
  go_ret
  exact ⟨rfl, hx⟩

/-- The edges from the vertices below u to v. -/
def valU (es : List Edg) (v : Int) : Nat → Int
  | 0 => 0
  | u + 1 => valU es v u + (if (u : Int) = v then 0 else betw es u v)
def degU (n : Nat) (es : List Edg) (v : Int) : Int := valU es v n + 2 * betw es v v
end Go.Proofs.YtnigfddanoaonaaGreat

set_option linter.unusedVariables false
set_option linter.unusedSimpArgs false
set_option linter.unnecessarySimpa false
namespace Go.Proofs.YtnigfddanoaonaaGreat
open Go.RowKit

theorem halfU_mem {l : List (Int × Int)} {H v : Nat} {x : Int} : x ∈ halfU l H v ↔ ∃ h : Nat, x = h ∧ h < H ∧ hv l h = (v : Int) := by
  simp only [halfU, List.mem_map, List.mem_filter, List.mem_range, beq_iff_eq]
  constructor
  · rintro ⟨h, ⟨h1, h2⟩, rfl⟩; exact ⟨h, rfl, h1, h2⟩
  · rintro ⟨h, rfl, h1, h2⟩; exact ⟨h, ⟨h1, h2⟩, rfl⟩

theorem scanE_zero {own : List Int} : ∀ {l pre : List Int}, scanE own pre l = 0 → pre.Nodup → (∀ x ∈ pre, x ∈ own) → (pre ++ l).Nodup ∧ ∀ x ∈ l, x ∈ own
  | [], pre, _, hn, _ => by simpa using hn
  | x :: r, pre, h, hn, hp => by
    rw [scanE_cons] at h
    by_cases h1 : x ∈ own
    · rw [if_pos h1] at h
      by_cases h2 : x ∈ pre
      · rw [if_pos h2] at h; cases h
      · rw [if_neg h2] at h
        have hn2 : (pre ++ [x]).Nodup := by
          rw [List.nodup_append]
          exact ⟨hn, by simp, fun a ha b hb => by simp at hb; subst hb; exact fun e => h2 (e ▸ ha)⟩
        have := scanE_zero h hn2 (fun y hy => by
          rcases List.mem_append.1 hy with h3 | h3
          · exact hp y h3
          · simp at h3; subst h3; exact h1)
        refine ⟨by simpa using this.1, fun y hy => ?_⟩
        rcases List.mem_cons.1 hy with h3 | h3
        · subst h3; exact h1
        · exact this.2 y h3
    · rw [if_neg h1] at h; cases h

end Go.Proofs.YtnigfddanoaonaaGreat

set_option linter.unusedVariables false
set_option linter.unusedSimpArgs false
namespace Go.Proofs.YtnigfddanoaonaaGreat
open Go.RowKit

def ends2 (v : Int) (p : Int × Int) : Int := (if p.1 = v then 1 else 0) + (if p.2 = v then 1 else 0)
def sumE (v : Int) : List (Int × Int) → Int
  | [] => 0
  | p :: r => ends2 v p + sumE v r
def hit (x : Edg) (a b : Int) : Int := if x.a = min a b ∧ x.b = max a b then x.m else 0
def valH (x : Edg) (v : Int) : Nat → Int
  | 0 => 0
  | u + 1 => valH x v u + (if (u : Int) = v then 0 else hit x u v)
end Go.Proofs.YtnigfddanoaonaaGreat

set_option linter.unusedVariables false
set_option linter.unusedSimpArgs false
namespace Go.Proofs.YtnigfddanoaonaaGreat
open Go.RowKit

theorem boolInfoG : (Tryz.prog.info? 4).map (fun i => (i.zero, i.size, i.bytes)) = some (some (.bool false), 1, 1) := by kernel_rfl

def adjG (es : List Edg) (a b : Nat) : Bool := decide (0 < betw es a b)
def ReachedPost (w : World) (es : List Edg) (n s : Nat) (e : Ending) (w' : World) : Prop :=
  ∃ g bs, e = .returned (.slice (some ⟨g, 0, none⟩) n n) ∧ Leads (nxA (adjG es)) n n s bs ∧ Row1 Value.bool w' g 4 bs [] ∧ w.heap.size ≤ g ∧ Below w.heap.size w w'
theorem nxA_lt {adj : Nat → Nat → Bool} {n : Nat} : ∀ u a, u < n → a < n → nxA adj u a < n := by
  intro u a h1 h2
  unfold nxA
  split <;> omega
def InrG (nx : Nat → Nat → Nat) (L S s k t j : Nat) (bs : List Bool) : Prop := Led nx L S s k t bs ∧ (bs[t]? = some true → ∀ a, a < j → bs[nx t a]? = some true)

set_option maxRecDepth 100000 in
set_option maxHeartbeats 4000000 in
theorem reached_any (n : Nat) (hn : n ≤ 12) (es : List Edg) (oe : Option Addr) (c : Nat) (F : Foot) (w : World) (hs : SliceR edgR 3 F w oe es) (hc : es.length ≤ c) (hc2 : es.length ≤ 9223372036854775807) (s0 : Nat) (hS : s0 < n) :
    Calls Tryz.prog 160 #[.agg #[.int .i64 n, .slice oe es.length c], .int .i64 s0] w (ReachedPost w es n s0) := by
  have HNX := hide (nxA_lt (adj := adjG es) (n := n))
  go_enter Tryz.func160, Tryz.ntmps160
  go_wp2_with (at_make; refine wpList_make_row _ rfl _ _ 215 rfl 4 false 1 Tryz.underlying215 boolInfoG rfl .i64 .i64 _ _ n rfl rfl rfl rfl (by omega) (by unfold maxLen; omega) (fun w1 hrow hb1 hg1 => ?_); have c0 := hrow.cell (i := s0) (x := false) (by simp [hS]); have f0 := hrow.free s0; simp at c0 f0; have hp := hrow.put (i := s0) (by simp [hS]) true; simp only [World.size_alloc] at hp; have HG := hide hg1; clear hrow hg1)
  have hb0 : Below (w.heap.size + 1) (w.alloc (.cells #[.int .i64 n, .slice oe es.length c] 43)) (w1.setCell ⟨w.heap.size + 1, s0, none⟩ (.bool true)) := by
    have h := hb1
    simp only [World.size_alloc] at h
    exact h.setCell (by simp) _
  clear hb1 c0 f0
  go_loopw [6] (fun iv wr => ∃ (k : Nat) (bs : List Bool), k ≤ n ∧ iv = .int .i64 k ∧ Hid (Led (nxA (adjG es)) n n s0 k 0 bs) ∧ Row1 Value.bool wr (w.heap.size + 1) 4 bs [] ∧
      Below (w.heap.size + 1) (w.alloc (.cells #[.int .i64 n, .slice oe es.length c] 43)) wr) (fun iv _ => n - (intOf iv).toNat)
  case atStart => exact ⟨0, _, by omega, rfl, Led.begin hS, hp, hb0⟩
  case round =>
    obtain ⟨k, bs, hk, rfl, HL, hr, hb⟩ := hrel
    clear hb0 hp HG
    have d0 := box_cell hb 0
    simp at d0
    by_cases hlt : k < n
    · go_wp2_with fail
      obtain ⟨wo, rfl⟩ : ∃ wo : World, wo = wr := ⟨_, rfl⟩
      go_loopw [7] (fun iv wr => ∃ (t : Nat) (bs : List Bool), t ≤ n ∧ iv = .int .i64 t ∧ Hid (Led (nxA (adjG es)) n n s0 k t bs) ∧ Row1 Value.bool wr (w.heap.size + 1) 4 bs [] ∧
        Below (w.heap.size + 1) (w.alloc (.cells #[.int .i64 n, .slice oe es.length c] 43)) wr) (fun iv _ => n - (intOf iv).toNat)
      case atStart => exact ⟨0, _, by omega, rfl, HL, hr, hb⟩
      case round =>
        clear hb hr d0 HL
        obtain ⟨t, bs, ht, rfl, HL, hr, hb⟩ := hrel
        have d0 := box_cell hb 0
        simp at d0
        by_cases htl : t < n
        · go_wp2_with fail
          obtain ⟨wo, rfl⟩ : ∃ wo : World, wo = wr := ⟨_, rfl⟩
          go_loopw [8] (fun iv wr => ∃ (j : Nat) (bs : List Bool), j ≤ n ∧ iv = .int .i64 j ∧ Hid (InrG (nxA (adjG es)) n n s0 k t j bs) ∧ Row1 Value.bool wr (w.heap.size + 1) 4 bs [] ∧
            Below (w.heap.size + 1) (w.alloc (.cells #[.int .i64 n, .slice oe es.length c] 43)) wr) (fun iv _ => n - (intOf iv).toNat)
          case atStart => exact ⟨0, _, by omega, rfl, ⟨HL, fun _ a ha => by omega⟩, hr, hb⟩
          case round =>
            clear hb hr d0 HL
            obtain ⟨j, bs, hj, rfl, HI, hr, hb⟩ := hrel
            have d0 := box_cell hb 0
            have d1 := box_cell hb 1
            simp at d0 d1
            have hbl : bs.length = n := HI.out.1.len
            by_cases hjl : j < n
            · obtain ⟨bt, hbt⟩ : ∃ bt, bs[t]? = some bt := ⟨_, List.getElem?_eq_getElem (by omega)⟩
              have ct := hr.cell hbt
              have HBT := hide hbt
              clear hbt
              cases bt with
              | false =>
                have HI2 : Hid (InrG (nxA (adjG es)) n n s0 k t (j + 1) bs) := ⟨HI.out.1, fun h => by rw [HBT.out] at h; cases h⟩
                clear hbl
                go_wp2_with fail
                go_roundw
                case rel => exact ⟨j + 1, bs, by omega, by go_num, HI2, hr, hb⟩
                case measure => simp [intOf]; omega
              | true =>
                have hcall := betw_any n es oe c F wr (hs.below edgR_ok (below_box hb)) hc hc2 t j
                have HJL := hide hjl
                by_cases had : 0 < betw es t j
                · have hnx : nxA (adjG es) t j = j := by unfold nxA adjG; rw [if_pos (by simpa using had)]
                  have hset := HI.out.1.set HBT.out hjl (by rw [hnx]; exact hjl) (HI.out.2 HBT.out)
                  rw [hnx] at hset
                  have HI2 : Hid (InrG (nxA (adjG es)) n n s0 k t (j + 1) (bs.set j true)) := ⟨hset.1, fun _ => hset.2.2⟩
                  obtain ⟨bn, hbn⟩ : ∃ bn, bs[j]? = some bn := ⟨_, List.getElem?_eq_getElem (by omega)⟩
                  have hjb : j < bs.length := by omega
                  have HR := hide hr
                  clear hset hnx hbl
                  generalize betw es t j = x at had hcall
                  go_wp2_with fail
                  refine hcall.mono ?_
                  rintro e w4 ⟨rfl, hb4⟩
                  have hr4 := HR.out.below hb4
                  have cn := hr4.cell hbn
                  have fn := hr4.free j
                  have hp := hide (hr4.put hjb true)
                  have HB := hide ((hb.trans (hb4.mono (box_lt hb))).setCell (p := ⟨w.heap.size + 1, j, none⟩) (by simp) (.bool true))
                  clear hbn hr4 hr hb4 ct d0 d1
                  go_wp2_with fail
                  go_roundw
                  case rel => exact ⟨j + 1, _, by omega, by go_num, HI2, hp.out, HB.out⟩
                  case measure => simp [intOf]; omega
                · have hnx : nxA (adjG es) t j = t := by unfold nxA adjG; rw [if_neg (by simpa using had)]
                  have HI2 : Hid (InrG (nxA (adjG es)) n n s0 k t (j + 1) bs) := ⟨HI.out.1, fun h a ha => by
                    rcases Nat.lt_or_ge a j with h1 | h1
                    · exact HI.out.2 h a h1
                    · have : a = j := by omega
                      subst this
                      rw [hnx]
                      exact h⟩
                  have HR := hide hr
                  clear hnx hbl
                  generalize betw es t j = x at had hcall
                  go_wp2_with fail
                  refine hcall.mono ?_
                  rintro e w4 ⟨rfl, hb4⟩
                  have hr4 := hide (HR.out.below hb4)
                  have HB := hide (hb.trans (hb4.mono (box_lt hb)))
                  clear hr hb4 ct d0 d1
                  go_wp2_with fail
                  go_roundw
                  case rel => exact ⟨j + 1, bs, by omega, by go_num, HI2, hr4.out, HB.out⟩
                  case measure => simp [intOf]; omega
            · have hj2 : j = n := by omega
              subst hj2
              have HN := hide (HI.out.1.next fun h => HI.out.2 h)
              clear hbl
              go_wp2_with fail
              go_roundw
              case rel => exact ⟨t + 1, bs, by omega, by go_num, HN, hr, hb⟩
              case measure => simp [intOf]; omega
        · have h2 : t = n := by omega
          subst h2
          have HN := hide (HL.out.round hS HNX.out)
          go_wp2_with fail
          go_roundw
          case rel => exact ⟨k + 1, bs, by omega, by go_num, HN, hr, hb⟩
          case measure => simp [intOf]; omega
    · have h2 : k = n := by omega
      subst h2
      have HN := hide (HL.out.all hS HNX.out)
      go_wp2_with fail
      go_ret
      exact ⟨w.heap.size + 1, bs, rfl, HN.out, hr, by omega, below_box hb⟩

end Go.Proofs.YtnigfddanoaonaaGreat

set_option linter.unusedVariables false
set_option linter.unusedSimpArgs false
namespace Go.Proofs.YtnigfddanoaonaaGreat
open Go.RowKit

/-- a with b laid over its first j places. -/
def mixB (a b : List Bool) (j : Nat) : List Bool := (List.range a.length).map fun i => if i < j then a.getD i false || b.getD i false else a.getD i false
theorem mixB_len (a b : List Bool) (j : Nat) : (mixB a b j).length = a.length := by simp [mixB]
theorem mixB_get {a b : List Bool} {j i : Nat} (hi : i < a.length) : (mixB a b j)[i]? = some (if i < j then a.getD i false || b.getD i false else a.getD i false) := by
  simp [mixB, hi]
theorem mixB_zero (a b : List Bool) : mixB a b 0 = a := by
  apply List.ext_getElem?
  intro i
  rcases Nat.lt_or_ge i a.length with hi | hi
  · rw [mixB_get hi]; simp [hi]
  · rw [List.getElem?_eq_none (by rw [mixB_len]; exact hi), List.getElem?_eq_none hi]
theorem mixB_step {a b : List Bool} {j : Nat} (hj : j < a.length) : (mixB a b j).set j (a.getD j false || b.getD j false) = mixB a b (j + 1) := by
  apply List.ext_getElem?
  intro i
  rcases Nat.lt_or_ge i a.length with hi | hi
  · rw [mixB_get hi]
    by_cases e : j = i
    · subst e
      rw [List.getElem?_set_self (by rw [mixB_len]; exact hj), if_pos (by omega)]
    · rw [List.getElem?_set_ne e, mixB_get hi]
      by_cases h : i < j
      · rw [if_pos h, if_pos (by omega)]
      · rw [if_neg h, if_neg (by omega)]
  · rw [List.getElem?_eq_none (by simp [mixB_len]; exact hi), List.getElem?_eq_none (by rw [mixB_len]; exact hi)]

theorem betw_pos {es : List Edg} (h : ∀ x ∈ es, 1 ≤ x.m ∧ x.a ≤ x.b ∧ 0 ≤ x.a ∧ 0 ≤ x.b) (a b : Nat) : 0 < betw es a b ↔ (a, b) ∈ eL es ∨ (b, a) ∈ eL es := by
  induction es with
  | nil => simp [betw, eL]
  | cons x r ih =>
    have ih := ih fun y hy => h y (by simp [hy])
    have hx := h x (by simp)
    have hmem : ∀ p : Nat × Nat, p ∈ eL (x :: r) ↔ p = (x.a.toNat, x.b.toNat) ∨ p ∈ eL r := fun p => by simp [eL]
    rw [hmem, hmem, betw]
    split
    · rename_i he
      constructor
      · intro _
        rcases Nat.le_total a b with hab | hab
        · left; left
          rw [Prod.mk.injEq]
          omega
        · right; left
          rw [Prod.mk.injEq]
          omega
      · intro _; omega
    · rename_i he
      rw [ih]
      constructor
      · rintro (h1 | h1)
        · exact .inl (.inr h1)
        · exact .inr (.inr h1)
      · rintro ((h1 | h1) | (h1 | h1))
        · exfalso
          rw [Prod.mk.injEq] at h1
          apply he
          omega
        · exact .inl h1
        · exfalso
          rw [Prod.mk.injEq] at h1
          apply he
          omega
        · exact .inr h1
theorem adj_eL {n : Int} {es : List Edg} (hV : gErr n es = 0) (a b : Nat) : adjG es a b = true ↔ (a, b) ∈ eL es ∨ (b, a) ∈ eL es := by
  unfold adjG
  rw [decide_eq_true_iff]
  exact betw_pos (fun x hx => by have := (gErr_zero hV).2.1 x hx; omega) a b
theorem eL_ltN {n : Nat} {es : List Edg} (hV : gErr n es = 0) : ∀ x ∈ eL es, x.1 < n ∧ x.2 < n := by
  intro x hx
  simp only [eL, List.mem_map] at hx
  obtain ⟨y, hy, rfl⟩ := hx
  have h := (gErr_zero hV).2.1 y hy
  constructor
  · simp only; omega
  · simp only; omega
theorem leads_tied {n : Nat} {es : List Edg} (hV : gErr n es = 0) {s : Nat} {bs : List Bool} (h : Leads (nxA (adjG es)) n n s bs) (x : Nat) : bs[x]? = some true ↔ Tied (eL es) s x :=
  (h.2 x).trans (rch_tied (adj_eL hV) (eL_ltN hV))

/-- What was seen so far. -/
structure Seen (E : List (Nat × Nat)) (n k : Nat) (bs : List Bool) : Prop where
  len : bs.length = n
  iff : ∀ x, x < n → (bs[x]? = some true ↔ ∃ u, u < k ∧ Tied E u x)
theorem Seen.begin (E : List (Nat × Nat)) (n : Nat) : Seen E n 0 (List.replicate n false) :=
  ⟨by simp, fun x hx => by simp [hx]⟩
theorem Seen.old {E : List (Nat × Nat)} {n k : Nat} {bs : List Bool} (h : Seen E n k bs) (hk : k < n) (hb : bs[k]? = some true) : Seen E n (k + 1) bs := by
  refine ⟨h.len, fun x hx => ?_⟩
  rw [h.iff x hx]
  obtain ⟨u0, hu0, ht0⟩ := (h.iff k hk).1 hb
  constructor
  · rintro ⟨u, hu, ht⟩; exact ⟨u, by omega, ht⟩
  · rintro ⟨u, hu, ht⟩
    rcases Nat.lt_or_ge u k with h1 | h1
    · exact ⟨u, h1, ht⟩
    · have : u = k := by omega
      subst this
      exact ⟨u0, hu0, ht0.trans ht⟩
theorem Seen.more {E : List (Nat × Nat)} {n k : Nat} {bs cs : List Bool} (h : Seen E n k bs) (hc : cs.length = n) (hr : ∀ x, cs[x]? = some true ↔ Tied E k x) : Seen E n (k + 1) (mixB bs cs n) := by
  refine ⟨by rw [mixB_len, h.len], fun x hx => ?_⟩
  rw [mixB_get (by rw [h.len]; exact hx), if_pos hx]
  have h1 := h.iff x hx
  have h2 := hr x
  have e1 : bs.getD x false = true ↔ bs[x]? = some true := true_of_getD (by rw [h.len]; exact hx)
  have e2 : cs.getD x false = true ↔ cs[x]? = some true := true_of_getD (by rw [hc]; exact hx)
  rw [Option.some.injEq, Bool.or_eq_true, e1, e2, h1, h2]
  constructor
  · rintro (⟨u, hu, ht⟩ | ht)
    · exact ⟨u, by omega, ht⟩
    · exact ⟨k, by omega, ht⟩
  · rintro ⟨u, hu, ht⟩
    rcases Nat.lt_or_ge u k with h1 | h1
    · exact .inl ⟨u, h1, ht⟩
    · have : u = k := by omega
      subst this
      exact .inr ht
theorem Seen.root {E : List (Nat × Nat)} {f : List Nat} (hf : Uf f E) {n k : Nat} {bs : List Bool} (h : Seen E n k bs) (hk : k < n) (hn : n ≤ 12) : bs[k]? = some true ↔ ¬ rootF f k = k := by
  rw [h.iff k hk, hf.least (by omega)]
  constructor
  · rintro ⟨u, hu, ht⟩ h2; exact h2 u hu ht
  · intro h2
    exact Classical.byContradiction fun h3 => h2 fun u hu ht => h3 ⟨u, hu, ht⟩

set_option maxRecDepth 100000 in
set_option maxHeartbeats 4000000 in
theorem rparts_any (n : Nat) (es : List Edg) (oe : Option Addr) (c : Nat) (F : Foot) (w : World) (hs : SliceR edgR 3 F w oe es) (hc : es.length ≤ c) (hc2 : es.length ≤ 9223372036854775807)
    (hV : Hid (gErr n es = 0)) (f : List Nat) (hU : Hid (Uf f (eL es))) : Calls Tryz.prog 139 #[.agg #[.int .i64 n, .slice oe es.length c]] w (ErrPost w (cnt f n : Nat)) := by
  have hn : n ≤ 12 := by have := (gErr_zero hV.out).1; omega
  go_enter Tryz.func139, Tryz.ntmps139
  go_wp2_with (at_make; refine wpList_make_row _ rfl _ _ 215 rfl 4 false 1 Tryz.underlying215 boolInfoG rfl .i64 .i64 _ _ n rfl rfl rfl rfl (by omega) (by unfold maxLen; omega) (fun w1 hrow hb1 hg1 => ?_); simp only [World.size_alloc] at hrow hb1)
  clear hg1
  go_loopw [3, 5] (fun pv iv wr => ∃ (k : Nat) (bs : List Bool), k ≤ n ∧ iv = .int .i64 k ∧ pv = .int .i64 (cnt f k : Nat) ∧ Hid (Seen (eL es) n k bs) ∧ Row1 Value.bool wr (w.heap.size + 1) 4 bs [] ∧
      Below (w.heap.size + 1) (w.alloc (.cells #[.int .i64 n, .slice oe es.length c] 43)) wr) (fun _ iv _ => n - (intOf iv).toNat)
  case atStart => exact ⟨0, _, by omega, rfl, rfl, Seen.begin _ _, hrow, hb1⟩
  case round =>
    clear hrow hb1
    obtain ⟨k, bs, hk, rfl, rfl, HS, hr, hb⟩ := hrel
    have d0 := box_cell hb 0
    have d1 := box_cell hb 1
    simp at d0 d1
    have hck : cnt f k ≤ k := by
      have := List.length_filter_le (fun v => rootF f v == v) (List.range k)
      simpa [cnt] using this
    by_cases hlt : k < n
    · have HROOT := hide (HS.out.root hU.out hlt hn)
      obtain ⟨bt, hbt⟩ : ∃ bt, bs[k]? = some bt := ⟨_, List.getElem?_eq_getElem (by rw [HS.out.len]; exact hlt)⟩
      have ct := hr.cell hbt
      have HBT := hide hbt
      clear hbt
      cases bt with
      | true =>
        have HC : Hid (cnt f (k + 1) = cnt f k) := cnt_no (HROOT.out.1 HBT.out)
        have HN := hide (HS.out.old hlt HBT.out)
        generalize cnt f k = p at hck HC
        go_wp2_with fail
        go_roundw
        case rel => exact ⟨k + 1, bs, by omega, by go_num, by rw [HC.out], HN, hr, hb⟩
        case measure => simp [intOf]; omega
      | false =>
        have hroot : rootF f k = k := Classical.byContradiction fun h => by
          have := HROOT.out.2 h
          rw [HBT.out] at this
          cases this
        have HC : Hid (cnt f (k + 1) = cnt f k + 1) := cnt_yes hroot
        have hcall := reached_any n hn es oe c F wr (hs.below edgR_ok (below_box hb)) hc hc2 k hlt
        clear hroot
        generalize cnt f k = p at hck HC
        go_wp2_with fail
        refine hcall.mono ?_
        rintro e w4 ⟨g, cs, rfl, hle, hrc, hg, hb4⟩
        have HLT := hide (leads_tied hV.out hle)
        have hcl : cs.length = n := hle.1
        have hr4 := hr.below hb4
        have hx4 := hb.trans (hb4.mono (box_lt hb))
        have hgne : w.heap.size + 1 < g := by have := hr.lt; omega
        have HM : Hid (Seen (eL es) n (k + 1) (mixB bs cs n)) := HS.out.more hcl HLT.out
        have hbl : bs.length = n := HS.out.len
        clear hb4 hr hb ct d0 d1 hle
        have d0 := box_cell hx4 0
        simp at d0
        have hz := mixB_zero bs cs
        go_wp2_with fail
        obtain ⟨wo, rfl⟩ : ∃ wo : World, wo = w4 := ⟨_, rfl⟩
        go_loopw [7] (fun iv wr => ∃ (j : Nat), j ≤ n ∧ iv = .int .i64 j ∧ Row1 Value.bool wr (w.heap.size + 1) 4 (mixB bs cs j) [] ∧ Row1 Value.bool wr g 4 cs [] ∧
          Below (w.heap.size + 1) (w.alloc (.cells #[.int .i64 n, .slice oe es.length c] 43)) wr) (fun iv _ => n - (intOf iv).toNat)
        case atStart => exact ⟨0, by omega, rfl, by rw [hz]; exact hr4, hrc, hx4⟩
        case round =>
          clear hr4 hrc hx4 d0 hz
          obtain ⟨j, hj, rfl, hr, hrc, hb⟩ := hrel
          have d0 := box_cell hb 0
          simp at d0
          by_cases hjl : j < n
          · have h1 : (mixB bs cs j)[j]? = some (bs.getD j false) := by rw [mixB_get (by omega), if_neg (by omega)]
            have h2 : cs[j]? = some (cs.getD j false) := by rw [List.getD_eq_getElem?_getD, List.getElem?_eq_getElem (by omega)]; rfl
            have c1 := hr.cell h1
            have c2 := hrc.cell h2
            have f1 := hr.free j
            have hp := hide (hr.put (i := j) (by rw [mixB_len]; omega) (bs.getD j false || cs.getD j false))
            have HMS := hide (mixB_step (a := bs) (b := cs) (j := j) (by omega))
            have HRC := hide (hrc.other (p := ⟨w.heap.size + 1, j, none⟩) (by simp; omega) (.bool (bs.getD j false || cs.getD j false)))
            have HB := hide (hb.setCell (p := ⟨w.heap.size + 1, j, none⟩) (by simp) (.bool (bs.getD j false || cs.getD j false)))
            clear h1 h2
            generalize bs.getD j false = b1 at *
            generalize cs.getD j false = b2 at *
            cases b1 with
            | true =>
              go_wp2_with fail
              go_roundw
              case rel => exact ⟨j + 1, by omega, by go_num, by rw [← HMS.out]; exact hp.out, HRC.out, HB.out⟩
              case measure => simp [intOf]; omega
            | false =>
              go_wp2_with fail
              go_roundw
              case rel => exact ⟨j + 1, by omega, by go_num, by rw [← HMS.out]; exact hp.out, HRC.out, HB.out⟩
              case measure => simp [intOf]; omega
          · have : j = n := by omega
            subst this
            go_wp2_with fail
            go_roundw
            case rel => exact ⟨k + 1, _, by omega, by go_num, by rw [HC.out]; go_num, HM, hr, hb⟩
            case measure => simp [intOf]; omega
    · have : k = n := by omega
      subst this
      go_wp2_with fail
      go_ret
      exact ⟨rfl, below_box hb⟩

end Go.Proofs.YtnigfddanoaonaaGreat

set_option linter.unusedVariables false
set_option linter.unusedSimpArgs false
namespace Go.Proofs.YtnigfddanoaonaaGreat
open Go.RowKit

set_option maxRecDepth 100000 in
theorem rconn_any (n : Nat) (es : List Edg) (oe : Option Addr) (c : Nat) (F : Foot) (w : World) (hs : SliceR edgR 3 F w oe es) (hc : es.length ≤ c) (hc2 : es.length ≤ 9223372036854775807)
    (hV : Hid (gErr n es = 0)) (f : List Nat) (hU : Hid (Uf f (eL es))) : Calls Tryz.prog 115 #[.agg #[.int .i64 n, .slice oe es.length c]] w fun e w' => e = .returned (.bool (cnt f n == 1)) ∧ Below w.heap.size w w' := by
  go_enter Tryz.func115, Tryz.ntmps115
  go_wp2_with fail
  have hb0 := box_refl w (.cells #[.int .i64 n, .slice oe es.length c] 43)
  refine (rparts_any n es oe c F _ (hs.below edgR_ok (below_box hb0)) hc hc2 hV f hU).mono ?_
  rintro e w2 ⟨rfl, hb2⟩
  have hx := hide (below_box (hb2.mono (B' := w.heap.size + 1) (by simp)))
  clear hb2 hb0
  go_wp2_with fail
  go_ret
  refine ⟨ret_bool ?_, hx.out⟩
  rw [Bool.eq_iff_iff]
  simp
  omega

end Go.Proofs.YtnigfddanoaonaaGreat

set_option linter.unusedVariables false
set_option linter.unusedSimpArgs false
set_option linter.unnecessarySimpa false
namespace Go.Proofs.YtnigfddanoaonaaGreat
open Go.RowKit

set_option maxRecDepth 100000 in
set_option maxHeartbeats 1000000 in
theorem rbcheck_any (n : Int) (es : List Edg) (oe : Option Addr) (c : Nat) (ar : List (List Int)) (oa : Option Addr) (ca : Nat) (F G : Foot) (w : World) (hs : SliceR edgR 3 F w oe es) (hc : es.length ≤ c) (hc2 : es.length ≤ 1000)
    (ha : SliceR (slcR intR 1) 1 G w oa ar) (hac : ar.length ≤ ca) (hac2 : ar.length ≤ 9223372036854775807) (f : List Nat) (hU : Hid (gErr n es = 0 → Uf f (eL es))) :
    Calls Tryz.prog 101 #[.agg #[.int .i64 n, .slice oe es.length c, .slice oa ar.length ca]] w (ErrPost w (chkE n es f ar)) := by
  go_enter Tryz.func101, Tryz.ntmps101
  go_wp2_with fail
  have hb0 := box_refl w (.cells #[.int .i64 n, .slice oe es.length c, .slice oa ar.length ca] 52)
  refine (checked_any n es oe c ar oa ca F G _ (hs.below edgR_ok (below_box hb0)) hc hc2 (ha.below (slcR_ok intR_ok (by decide)) (below_box hb0)) hac hac2 f hU).mono ?_
  rintro e w2 ⟨v, rfl, ho, hb2⟩
  have hx := hide (below_box (hb2.mono (B' := w.heap.size + 1) (by simp)))
  clear ho hb2 hb0
  go_wp2_with fail
  go_ret
  exact ⟨rfl, hx.out⟩

end Go.Proofs.YtnigfddanoaonaaGreat

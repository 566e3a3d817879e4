/-
  Reduced divisors: the end and the beginning of a reduction.
  Reduced divisors and winnable ones, on small graphs.
  The dollar game: Solve, as a function; the layers are small.
  The dollar game: Solve.
  DERIVED: THE SHELF's CONTRACTS AT THIS DUMP, IN PLAIN WORDS (tools/lay-plain.mjs out of 'TryzShelf.lean', which tools/lay-shelf.mjs wrote): THE SAME DECLARATIONS UNDER THE SAME NAMES: 'import', 'namespace', 'open', 'def', 'theorem' AND NOTHING ELSE: no command of the shelf's: FOR A HAND-IN. Each lay
  slices.Sort at a list of integers that the call made.
  slices.Sorted(slices.Values(l)) at integers.
  slices.Sorted(slices.Values(l)), slices.Clone and slices.Reverse at integers.
  slices.Sorted(slices.Values(s)) at scripts.
  The dollar game: Cheapest.
  slices.Equal of ints, ref17.Order, Same, ref18.SameScripts; the sizes that the statements take in (Few).
  The triangle of the examples: the graph. (Cut out of XTri.)
  The dollar game at the triangle: the values of the examples.
  awake: the examples of chapter 43 hold.
  slices.Repeat of a list of one move.
  The dollar game: Moves, and the reference's.
  The reference's Listed and Moves.
  The dollar game: Verify.
  firing.Apply.
  append of one element that holds no data of its own in other rows. (Cut out of XNwRun.)
  The reference's tables: ref08.Table, ref19.Valences.
  The reference's table of joinings: ref19.Rows.
  Borrowing by the reference's table is borrowing along the edges.
  A region that draws its order, whose last operation (a store) waits for all others: the others first, by a condition on the world that the last need not keep. No program is named here.
  ref18.Moved.
  The dollar game's reference: totals, debts paid, the first debtor.
  The reference's Wins and Verify.
  Solve against the reference's search, in plain Lean.
  Borrowing decides who wins, in plain Lean: the greedy game, and the reference's Wins.
  The reference's Wins: borrowing, one vertex in debt after the other.
-/
import Derived.Test.YtpgopmmobbemcaaGreatDm4
import Derived.BigQuiet
import Derived.Shelf.Sort.Plain
import Derived.Ground.NamesProg
import Derived.Shelf.Slices.SearchI
import Derived.Shelf.Slices.In.SortNone
import Derived.Test.YtpgopmmobbemcaaGreatProg
import Derived.Sort.OwnSortedInts
import Derived.RangeFuncBox
import Derived.RangeFuncLeaves
import Derived.Shelf.Abstract
import Derived.OwnWalkIn
import Derived.TacticsInMore
import Derived.LoopNIn
import Derived.LoopIn
import Derived.Maps.AppendAt
import Derived.Deep.LoopGhost
import Derived.Laws.Rows
import Derived.Deep.RegionHeld3

set_option linter.unusedVariables false
set_option linter.unusedSimpArgs false
set_option linter.unnecessarySimpa false
namespace Go.Proofs.YtpgopmmobbemcaaGreat
open Go.RowKit

def ResPost (B N q : Nat) (es : List Edg) (L : RLay) (x : RSt) (w : World) (e : Ending) (w' : World) : Prop :=
  e = .returned (.tuple #[.slice (some ⟨L.gd, 0, none⟩) N L.cd, .slice (some ⟨L.gs, 0, none⟩) N N, .int .i64 0]) ∧ RMem B N q es L ⟨x.d, fun v => x.s v - x.s q⟩ w' ∧ Fk B L w w'
theorem dErr_lst {N : Nat} {f : Nat → Int} (h12 : 1 ≤ N ∧ N ≤ 12) (h : ∀ v, v < N → -1048576 ≤ f v ∧ f v ≤ 1048576) : dErr N (lst N f) = 0 := by
  unfold dErr
  rw [if_pos (by omega), if_pos (by rw [lst_len])]
  have key : ∀ l : List Int, (∀ x ∈ l, -1048576 ≤ x ∧ x ≤ 1048576) → dScan l = 0 := by
    intro l
    induction l with
    | nil => intro _; rfl
    | cons y r ih =>
      intro hl
      have h1 := hl y (by simp)
      have h2 := ih fun x hx => hl x (by simp [hx])
      unfold dScan
      rw [if_pos (by unfold inChips; simp; omega)]
      exact h2
  refine key _ fun x hx => ?_
  obtain ⟨v, hv, rfl⟩ := List.mem_map.1 hx
  exact h v (List.mem_range.1 hv)
set_option maxRecDepth 100000 in
set_option maxHeartbeats 8000000 in
theorem result_any {B N q : Nat} {es : List Edg} {L : RLay} {x : RSt} {w : World} (hM : RMem B N q es L x w) (hd : Hid (∀ v, v < N → -1048576 ≤ x.d v ∧ x.d v ≤ 1048576)) (hs : Hid (∀ v, v < N → -1048576 ≤ x.s v - x.s q ∧ x.s v - x.s q ≤ 1048576)) (hs2 : Hid (∀ v, v < N → -2000000 ≤ x.s v ∧ x.s v ≤ 2000000)) :
    Calls Tryz.prog 106 #[.pointer (some ⟨L.p, 0, none⟩)] w (ResPost B N q es L x w) := by
  have h12 := hM.num.1
  have hqN := hM.num.2.1
  have hcd := hM.num.2.2
  have hsz := hM.size
  have hlow := hM.low
  obtain ⟨_, _, d2, d3, d4, d5⟩ := hM.cells
  have s0 := hM.sAt hqN
  have hq0 : (0 : Int) ≤ q := by omega
  have hq1 : (q : Int) < N := by omega
  have HM := hide hM
  have hsq := hs2.out q hqN
  obtain ⟨own, hown⟩ : ∃ own, own = x.s q := ⟨_, rfl⟩
  rw [← hown] at s0 hsq
  have HOW := hide hown
  clear hM hown
  go_enter Tryz.func106, Tryz.ntmps106
  go_wp2_with fail
  go_quiet (fail)
  go_wp2_with fail
  clear d2 d3 d4 d5 s0
  go_loopg [6, 31] N (fun gm _ iv wx => ∃ i : Nat, i ≤ N ∧ gm = N - i ∧ iv = .int .i64 i ∧ Hid (RMem B N q es L ⟨x.d, fun v => if v < i then x.s v - own else x.s v⟩ wx) ∧ Hid (Fk B L w wx))
  case atStart => exact ⟨0, by omega, by omega, rfl, HM.out.drewN _, (Fk.refl B L w).below hsz (below_drewN (Below.refl _ _) _)⟩
  case round =>
    obtain ⟨i, hi, hgm, rfl, HMi, HFi⟩ := hrel
    have HGM := hide hgm
    clear hgm
    by_cases hlt : i < N
    · obtain ⟨_, _, d2, d3, d4, d5⟩ := HMi.out.cells
      have s1 : wr.cell? ⟨L.gs, i, none⟩ = some (.int .i64 (x.s i)) := by
        have h5 := HMi.out.sAt hlt
        simp only [Nat.lt_irrefl, if_false] at h5
        exact h5
      have fz := HMi.out.rs.free i
      have hi0 : (0 : Int) ≤ i := by omega
      have hi1 : (i : Int) < N := by omega
      have hsi := hs2.out i hlt
      have HM2 : Hid (RMem B N q es L ⟨x.d, fun v => if v < i + 1 then x.s v - own else x.s v⟩ (wr.setCell ⟨L.gs, i, none⟩ (.int .i64 (x.s i - own)))) := by
        refine (HMi.out.putS hlt (x.s i - own)).congr (fun _ _ => rfl) fun v hv => ?_
        show putF (fun v => if v < i then x.s v - own else x.s v) i (x.s i - own) v = if v < i + 1 then x.s v - own else x.s v
        by_cases e : v = i
        · subst e; rw [putF_at, if_pos (by omega)]
        · rw [putF_ne _ _ e]
          by_cases h : v < i
          · rw [if_pos h, if_pos (by omega)]
          · rw [if_neg h, if_neg (by omega)]
      have HF2 : Hid (Fk B L w (wr.setCell ⟨L.gs, i, none⟩ (.int .i64 (x.s i - own)))) := HFi.out.put (.inr rfl) hlow.2.2 i _
      generalize x.s i = si at *
      go_wp2_with fail
      go_roundg (N - (i + 1))
      case rel => exact ⟨i + 1, by omega, rfl, by go_num, HM2, HF2⟩
      case measure => rw [HGM.out]; omega
    · have hie : i = N := by omega
      have HMN : Hid (RMem B N q es L ⟨x.d, fun v => x.s v - x.s q⟩ wr) := by
        rw [hie] at HMi
        refine HMi.out.congr (fun _ _ => rfl) fun v hv => ?_
        show (if v < N then x.s v - own else x.s v) = x.s v - x.s q
        rw [if_pos hv, HOW.out]
      obtain ⟨d0, _, _, d3, d4, d5⟩ := HMN.out.cells
      have HC1 : Hid (∀ W, Below wr.heap.size wr W → Calls Tryz.prog 89 #[.slice (some ⟨L.gd, 0, none⟩) N L.cd, .int .i64 N] W fun e w' => e = .returned (.int .i64 0) ∧ Below W.heap.size W w') := fun W hW => by
        have h5 := dcheck_any N (lst N x.d) (some ⟨L.gd, 0, none⟩) L.cd All W ((HMN.out.below hW).rd.ints (fun y hy => by obtain ⟨v, hv, rfl⟩ := List.mem_map.1 hy; have := hd.out v (List.mem_range.1 hv); change I64 (x.d v); unfold I64; omega) trivial) (by rw [lst_len]; exact hcd) (by rw [lst_len]; omega)
        rw [lst_len, dErr_lst h12 hd.out] at h5
        exact h5
      have HC2 : Hid (∀ W, Below wr.heap.size wr W → Calls Tryz.prog 89 #[.slice (some ⟨L.gs, 0, none⟩) N N, .int .i64 N] W fun e w' => e = .returned (.int .i64 0) ∧ Below W.heap.size W w') := fun W hW => by
        have h5 := dcheck_any N (lst N fun v => x.s v - x.s q) (some ⟨L.gs, 0, none⟩) N All W ((HMN.out.below hW).rs.ints (fun y hy => by obtain ⟨v, hv, rfl⟩ := List.mem_map.1 hy; have := hs.out v (List.mem_range.1 hv); change I64 (x.s v - x.s q); unfold I64; omega) trivial) (by rw [lst_len]; omega) (by rw [lst_len]; omega)
        rw [lst_len, dErr_lst h12 hs.out] at h5
        exact h5
      have HCG : Hid (∀ (g k : Nat) (W : World), (g = L.gd ∧ k = L.cd ∨ g = L.gs ∧ k = N) → Below wr.heap.size wr W → Calls Tryz.prog 89 #[.slice (some ⟨g, 0, none⟩) N k, .int .i64 N] W fun e w' => e = .returned (.int .i64 0) ∧ Below W.heap.size W w') := fun g k W hgk hW => by
        rcases hgk with ⟨rfl, rfl⟩ | ⟨rfl, rfl⟩
        · exact HC1.out W hW
        · exact HC2.out W hW
      have HBW := hide (Below.refl wr.heap.size wr)
      clear hie HMi HC1 HC2
      go_wp2_with fail
      go_region_held3 (fun w' => w'.cell? ⟨L.p, 0, none⟩ = some (.int .i64 N) ∧ w'.cell? ⟨L.p, 3, none⟩ = some (.slice (some ⟨L.gd, 0, none⟩) N L.cd) ∧ w'.cell? ⟨L.p, 4, none⟩ = some (.slice (some ⟨L.gs, 0, none⟩) N N)) (first | exact ⟨d0, d3, d4⟩) (first | (go_at_call 89; refine (HCG.out _ _ _ (by first | exact .inl ⟨rfl, rfl⟩ | exact .inr ⟨rfl, rfl⟩) (by first | with_reducible exact HBW.out | with_reducible exact HBW.out.drew)).mono ?_; rintro e w5 ⟨rfl, h5⟩; have d0 := (h5.cell (World.block_lt_of_cell? _ _ d0)).trans d0; have d3 := (h5.cell (World.block_lt_of_cell? _ _ d3)).trans d3; have d4 := (h5.cell (World.block_lt_of_cell? _ _ d4)).trans d4; have HBW := hide (show Below wr.heap.size wr w5 from below_then (by first | with_reducible exact HBW.out | with_reducible exact HBW.out.drew) h5); clear h5))
      all_goals
        go_wp2_with fail
        clear d3 d4
        have HM5 := hide (HMN.out.below HBW.out)
        obtain ⟨_, _, _, d3, d4, _⟩ := HM5.out.cells
        go_quiet (fail)
        go_wp2_with fail
        go_ret3
        exact ⟨rfl, HM5.out.drewN _, (HFi.out.below HMN.out.size HBW.out).below HM5.out.size (below_drewN (Below.refl _ _) _)⟩
/-- A state at the beginning. -/
def BegPost (w : World) (B N q : Nat) (es : List Edg) (D : Nat → Int) (e : Ending) (w' : World) : Prop :=
  ∃ L, e = .returned (.pointer (some ⟨L.p, 0, none⟩)) ∧ RMem B N q es L ⟨D, fun _ => 0⟩ w' ∧ Below w.heap.size w w' ∧ w.heap.size ≤ L.p ∧ w.heap.size ≤ L.gd ∧ w.heap.size ≤ L.gs
theorem beg_mk {W1 U : World} {B N q gd cd gs c p : Nat} {oe : Option Addr} {rest : List Value} {es : List Edg} {D : Nat → Int} (hgd : Row1 (Value.int .i64) U gd 3 (lst N D) rest) (hgs : Row1 (Value.int .i64) U gs 3 (List.replicate N 0) [])
    (hE : EdgesBelow B U oe es) (hok : EOk N es) (h12 : 1 ≤ N ∧ N ≤ 12) (hq : q < N) (hcd : N ≤ cd) (hne : gd ≠ gs) (hB : B ≤ W1.heap.size) (hlo : W1.heap.size ≤ gd ∧ W1.heap.size ≤ gs) (hb : Below W1.heap.size W1 U) (he : p = U.heap.size) :
    RMem B N q es ⟨p, gd, cd, gs, oe, c, rest⟩ ⟨D, fun _ => 0⟩ (U.alloc (.cells (rCells N q es.length ⟨p, gd, cd, gs, oe, c, rest⟩).toArray 162)) := by
  subst he
  have e0 : lst N (fun _ => 0) = List.replicate N 0 := by
    apply List.ext_getElem?
    intro i
    by_cases hi : i < N
    · rw [lst_get _ hi, List.getElem?_replicate, if_pos hi]
    · rw [List.getElem?_eq_none (by rw [lst_len]; omega), List.getElem?_eq_none (by simp; omega)]
  have hsz := hb.size
  exact ⟨Box.new U _ _, hgd.new _, by show Row1 _ _ _ _ (lst N fun _ => 0) _; rw [e0]; exact hgs.new _, hE.below (bnew (Below.refl _ _) _ |>.mono (by omega)), hne, ⟨by show B ≤ U.heap.size; omega, by show B ≤ gd; omega, by show B ≤ gs; omega⟩, ⟨h12, hq, hcd⟩, hok⟩
set_option maxRecDepth 100000 in
set_option maxHeartbeats 8000000 in
theorem begin_any {B N q : Nat} {es : List Edg} {oe : Option Addr} {c : Nat} {w : World} (hE : EdgesBelow B w oe es) (hB : B ≤ w.heap.size) (hok : EOk N es) (h12 : 1 ≤ N ∧ N ≤ 12) (hq : q < N) (d : List Int) (od : Option Addr) (cd : Nat) (F : Foot) (hd : SliceR intR 1 F w od d) (hdc : d.length ≤ cd) (hdN : d.length = N) :
    Calls Tryz.prog 103 #[.agg #[.int .i64 N, .slice oe es.length c], .int .i64 q, .slice od d.length cd] w (BegPost w B N q es fun v => d.getD v 0) := by
  obtain ⟨Zs, hZs, hmk⟩ := mk_ints 26 3 Tryz.underlying26 (by kernel_rfl) N (by omega)
  obtain ⟨W1, e1⟩ : ∃ W1, w.alloc (.cells #[.int .i64 N, .slice oe es.length c] 24) = W1 := ⟨_, rfl⟩
  have bx1 : Box W1 w.heap.size [.int .i64 N, .slice oe es.length c] 24 := by rw [← e1]; exact Box.new w [.int .i64 N, .slice oe es.length c] 24
  have bb1 := bnew (Below.refl w.heap.size w) (.cells #[.int .i64 N, .slice oe es.length c] 24)
  rw [e1] at bb1
  have hl3 : w.heap.size < W1.heap.size := bx1.lt
  have HDL : Hid (d = lst N fun v => d.getD v 0) := by
    show _ = _
    apply List.ext_getElem?
    intro i
    by_cases hi : i < N
    · rw [lst_get _ hi, List.getD_eq_getElem?_getD, List.getElem?_eq_getElem (by omega)]
      rfl
    · rw [List.getElem?_eq_none (by omega), List.getElem?_eq_none (by rw [lst_len]; omega)]
  have HCL : Hid (∀ u, Below W1.heap.size W1 u → Calls Tryz.prog 53 #[.slice od N cd] u fun e w' => ∃ gd c2 rest, e = .returned (.slice (some ⟨gd, 0, none⟩) N c2) ∧ Row1 (Value.int .i64) w' gd 3 (lst N fun v => d.getD v 0) rest ∧ N ≤ c2 ∧ u.heap.size ≤ gd ∧ Below u.heap.size u w') := fun u hu => by
    have h := cloneD_any d od cd F u ((hd.below intR_ok bb1).below intR_ok hu) hdc (by omega)
    rw [hdN] at h
    refine h.mono ?_
    rintro e w' ⟨v, rfl, ho, hb⟩
    obtain ⟨g, cap, rest, rfl, h1, h2, _, h4, _⟩ := ho.row (by intro e; rw [e] at hdN; simp at hdN; omega)
    rw [hdN] at h2 ⊢
    rw [HDL.out] at h4
    exact ⟨g, cap, rest, rfl, h4, by omega, h1, hb⟩
  have HE1 := hide (hE.below (bb1.mono hB))
  have HZS := hide hZs
  have HB1 := hide bb1
  have HOK := hide hok
  have y0 := bx1.cell 0
  have y1 := bx1.cell 1
  simp only [List.getElem?_cons_zero, List.getElem?_cons_succ] at y0 y1
  rw [hdN]
  clear hdN hd hdc HDL hE bx1 bb1 hok
  go_enter Tryz.func103, Tryz.ntmps103
  go_wp2_with fail
  go_region_held3 (fun w' => w'.cell? ⟨w.heap.size, 0, none⟩ = some (.int .i64 N) ∧ w'.cell? ⟨w.heap.size, 1, none⟩ = some (.slice oe es.length c)) (first | with_reducible exact ⟨y0, y1⟩ | with_reducible exact ⟨cell_next (cell_next y0 _) _, cell_next (cell_next y1 _) _⟩ | with_reducible exact ⟨cell_drew (cell_next y0 _), cell_drew (cell_next y1 _)⟩ | with_reducible exact ⟨cell_drew y0, cell_drew y1⟩ | with_reducible exact ⟨cell_next y0 _, cell_next y1 _⟩) (first
    | (go_at_call 53; refine (HCL.out _ (by first | with_reducible exact (bnew (Below.refl _ _) _).drew | with_reducible exact (Below.refl _ _).drew)).mono ?_; rintro e w4 ⟨gd, c2, rest, rfl, hgd, hc2', hgl, hb4⟩; replace y0 := (hb4.cell (by first | with_reducible exact World.block_lt_of_cell? _ _ (cell_drew (cell_next y0 _)) | with_reducible exact World.block_lt_of_cell? _ _ (cell_drew y0))).trans (by first | with_reducible exact cell_drew (cell_next y0 _) | with_reducible exact cell_drew y0); replace y1 := (hb4.cell (by first | with_reducible exact World.block_lt_of_cell? _ _ (cell_drew (cell_next y1 _)) | with_reducible exact World.block_lt_of_cell? _ _ (cell_drew y1))).trans (by first | with_reducible exact cell_drew (cell_next y1 _) | with_reducible exact cell_drew y1)))
  · go_wp2_with fail
    go_ret
    have hb40 := hb4
    simp only [drew_size, World.size_alloc] at hb4 hgl
    have hlt := hgd.lt
    have hsz := hb4.size
    have hbU : Below W1.heap.size W1 (w4.alloc (.cells Zs 3)) := ((Below.refl W1.heap.size W1).drew.trans hb4).alloc (by omega) (.cells Zs 3)
    refine ⟨⟨w4.heap.size + 1, gd, c2, w4.heap.size, oe, c, rest⟩, rfl, beg_mk (W1 := W1) (hgd.new _) (row_new HZS.out w4) (HE1.out.below (hbU.mono (by omega))) HOK.out h12 hq hc2' (by omega) (by omega) ⟨by omega, by omega⟩ hbU (by simp), ?_, by show _ ≤ w4.heap.size + 1; omega, by show _ ≤ gd; omega, by show _ ≤ w4.heap.size; omega⟩
    exact (HB1.out.trans (hbU.mono (by omega))).alloc (by simp; omega) _
  · go_wp2_with fail
    go_ret
    have hb40 := hb4
    simp only [drew_size, World.size_alloc] at hb4 hgl
    have hlt := hgd.lt
    have hsz := hb4.size
    simp only [drew_size, World.size_alloc] at hsz
    have hbU : Below W1.heap.size W1 w4 := (bnew (Below.refl W1.heap.size W1) (.cells Zs 3)).drew.trans (hb4.mono (by omega))
    refine ⟨⟨w4.heap.size, gd, c2, W1.heap.size, oe, c, rest⟩, rfl, beg_mk (W1 := W1) hgd ((row_new HZS.out W1).draw.below hb40) (HE1.out.below (hbU.mono (by omega))) HOK.out h12 hq hc2' (by omega) (by omega) ⟨by omega, by omega⟩ hbU rfl, ?_, by show _ ≤ w4.heap.size; omega, by show _ ≤ gd; omega, by show _ ≤ W1.heap.size; omega⟩
    exact (HB1.out.trans (hbU.mono (by omega))).alloc (by omega) _
end Go.Proofs.YtpgopmmobbemcaaGreat

set_option linter.unusedVariables false
set_option linter.unusedSimpArgs false
set_option linter.unnecessarySimpa false
namespace Go.Proofs.YtpgopmmobbemcaaGreat
open Go.RowKit

theorem sum_one_le {n : Nat} {a m : Int} (hm : 0 ≤ m) : sumI (fun v => if a = (v : Int) then m else 0) n ≤ m := by
  by_cases h : ∃ k : Nat, a = (k : Int) ∧ k < n
  · obtain ⟨k, rfl, hk⟩ := h
    have h1 := sumI_one (f := fun v : Nat => if ((k : Nat) : Int) = (v : Int) then m else 0) (g := fun _ => 0) hk (fun p hp hne => if_neg (by omega))
    rw [sumI_zero, if_pos rfl] at h1
    omega
  · rw [sumI_eq (g := fun _ => 0) fun v hv => if_neg fun e => h ⟨v, e, hv⟩, sumI_zero]
    exact hm
theorem val_sum {n : Nat} : ∀ {es : List Edg}, (∀ x ∈ es, 0 ≤ x.m) → sumI (fun v => valE es v) n ≤ 2 * ((endsL es).length : Int)
  | [], _ => by
    have h : sumI (fun v : Nat => valE [] v) n = 0 := sumI_zero n
    rw [h]
    simp [endsL]
  | x :: r, h => by
    have ih := val_sum (n := n) (es := r) fun y hy => h y (by simp [hy])
    have hx := h x (by simp)
    have e : sumI (fun v : Nat => valE (x :: r) v) n = sumI (fun v : Nat => valX x v) n + sumI (fun v : Nat => valE r v) n := by rw [← sumI_add]; rfl
    have h1 : sumI (fun v : Nat => valX x v) n ≤ sumI (fun v : Nat => (if x.a = (v : Int) then x.m else 0) + (if x.b = (v : Int) then x.m else 0)) n := sumI_le fun v hv => by
      unfold valX
      split
      · rename_i hc
        rcases hc.2 with h2 | h2
        · rw [if_pos h2]; split <;> omega
        · rw [if_pos h2]; split <;> omega
      · split <;> split <;> omega
    rw [sumI_add] at h1
    have h2 := sum_one_le (n := n) (a := x.a) hx
    have h3 := sum_one_le (n := n) (a := x.b) hx
    rw [e, endsL_cons, List.length_append, List.length_replicate]
    push_cast
    omega
/-- A small graph and a small divisor. -/
structure SmG (N : Nat) (es : List Edg) (d : List Int) : Prop where
  n6 : N ≤ 6
  sz : (endsL es).length ≤ 9
  dB : ∀ x ∈ d, -60 ≤ x ∧ x ≤ 60
theorem SmG.lok {N q : Nat} {es : List Edg} {d : List Int} (h : SmG N es d) (hok : EOk N es) (hc : Conn N (linkE es)) : LOk N q es (fun v => d.getD v 0) 60 30720 where
  c0 := by omega
  dB := fun v hv => by
    rw [List.getD_eq_getElem?_getD]
    rcases hx : d[v]? with _ | x
    · simp
    · have := h.dB x (List.mem_of_getElem? hx)
      simpa using this
  conn := hc
  big := fun far hF => by
    have hG : Gr N (linkE es) := linkE_gr fun y hy => by have := (hok.at_ y hy).2; omega
    have h1 := downX_half (far := far) hG
    have h2 : sumI (fun v => vlR N (linkE es) v) N = sumI (fun v : Nat => valE es v) N := sumI_eq fun v hv => (val_link v fun x hx => (hok.at_ x hx).1).symm
    have h3 := val_sum (n := N) (es := es) fun x hx => by have := (hok.at_ x hx).2; omega
    have h4 := h.sz
    have h5 := P2_mono (downX_nn (far := far) hG 0) (show downX N (linkE es) far 0 ≤ 9 by omega)
    have h6 : P2 9 = 512 := rfl
    omega
  M1 := by omega
theorem LInv.sok {N q : Nat} {es : List Edg} {D s : Nat → Int} (hO : LOk N q es D 60 30720) (h6 : N ≤ 6) (hq : q < N) (hG : Gr N (linkE es)) {far : Nat → Nat} (hF : Far N q (linkE es) far) {K : Nat} (hK : K ≤ N) (h : LInv N q (linkE es) far D 60 K 0 s) : SOk N q es D s 30720 where
  n6 := h6
  M1 := by omega
  eB := fun v hv hne => by
    have h1 := h.hi v hv (hF.pos v hv hne)
    have h2 := hO.big far hF
    omega
  eQ := by
    have h1 := h.mid q hq hF.q0
    have h2 := hO.big far hF
    omega
  sB := fun v hv => by
    have h1 := h.sb v hv
    have h2 := hO.big far hF
    have h3 : ((K - 0 : Nat) : Int) * (60 * P2 (downX N (linkE es) far 0)) ≤ ((K - 0 : Nat) : Int) * 30720 := Int.mul_le_mul_of_nonneg_left h2 (by omega)
    have h4 : ((K - 0 : Nat) : Int) * 30720 ≤ 6 * 30720 := Int.mul_le_mul_of_nonneg_right (by omega) (by omega)
    omega
  conn := hO.conn

set_option maxRecDepth 100000 in
set_option maxHeartbeats 2000000 in
theorem redgiven_any (n : Int) (es : List Edg) (oe : Option Addr) (c : Nat) (F : Foot) (w : World) (hs : SliceR edgR 3 F w oe es) (hc : es.length ≤ c) (hc2 : es.length ≤ 9223372036854775807)
    (f : List Nat) (hU : Hid (gErr n es = 0 → Uf f (eL es))) (d : List Int) (od : Option Addr) (cd : Nat) (G : Foot) (hd : SliceR intR 1 G w od d) (hdc : d.length ≤ cd) (hdl : d.length ≤ 9223372036854775807) :
    Calls Tryz.prog 102 #[.agg #[.int .i64 n, .slice oe es.length c], .int .i64 0, .slice od d.length cd] w (ErrPost w (tErr n es f d)) := by
  have hb0 := bnew (Below.refl w.heap.size w) (.cells #[.int .i64 n, .slice oe es.length c] 24)
  have bxx := Box.new w [.int .i64 n, .slice oe es.length c] 24
  have HK := hide (conn_any n es oe c F _ (hs.below edgR_ok hb0) hc hc2 f hU)
  have HD := hide (hd.below intR_ok hb0)
  have HB := hide hb0
  have HX := hide bxx
  clear hs hd hb0 bxx
  go_enter Tryz.func102, Tryz.ntmps102
  go_wp2_with fail
  refine HK.out.mono ?_
  rintro e w2 ⟨rfl, hb2⟩
  have HB2 := hide (below_then HB.out hb2)
  have bx2 := HX.out.below hb2
  have d0 := bx2.cell 0
  have d1 := bx2.cell 1
  simp only [List.getElem?_cons_zero, List.getElem?_cons_succ] at d0 d1
  have HC := hide (dcheck_any n d od cd G w2 (HD.out.below intR_ok hb2) hdc hdl)
  clear hb2 bx2
  by_cases hV : gErr n es = 0
  · have hn := (gErr_zero hV).1
    rw [hV]
    by_cases hp : partsN n es f = 1
    · have HJ : Hid (tErr n es f d = dErr n d) := by show _ = _; unfold tErr jErr; rw [if_pos hV, if_pos hp]; exact if_pos rfl
      have hq : (partsN n es f == 1) = true := by simpa using hp
      have q0 : decide (n ≤ (0 : Int)) = false := by simp; omega
      have q1 : ¬ n ≤ 0 := by omega
      rw [hq]
      clear hV hp hq
      go_wp2_with fail
      refine HC.out.mono ?_
      rintro e w3 ⟨rfl, h3⟩
      go_wp2_with fail
      go_ret
      exact ⟨ret_int HJ.out.symm, below_then HB2.out h3⟩
    · have HJ : Hid (tErr n es f d = 13) := by show _ = _; unfold tErr jErr; rw [if_pos hV, if_neg hp]; rfl
      have hq : (partsN n es f == 1) = false := by simpa using hp
      rw [hq]
      clear hV hp hq
      go_wp2_with fail
      go_ret
      exact ⟨ret_int HJ.out.symm, HB2.out⟩
  · have HJ : Hid (tErr n es f d = gErr n es) := by show _ = _; unfold tErr jErr; rw [if_neg hV]; exact if_neg hV
    have hq : (gErr n es != 0) = true := by simpa using hV
    go_wp2_with fail
    go_ret
    exact ⟨ret_int HJ.out.symm, HB2.out⟩
/-- What Reduce hands back. -/
def RedPost (w : World) (N : Nat) (es : List Edg) (d : List Int) (err : Int) (e : Ending) (w' : World) : Prop :=
  (err ≠ 0 → e = .returned (.tuple #[.slice none 0 0, .slice none 0 0, .int .i64 err])) ∧
  (err = 0 → ∃ gd cd gs rest r, e = .returned (.tuple #[.slice (some ⟨gd, 0, none⟩) N cd, .slice (some ⟨gs, 0, none⟩) N N, .int .i64 0]) ∧ Row1 (Value.int .i64) w' gd 3 (lst N r) rest ∧ (Winn N (linkE es) (fun v => d.getD v 0) ↔ 0 ≤ r 0) ∧ ∀ v, v < N → -1048576 ≤ r v ∧ r v ≤ 1048576) ∧
  Below w.heap.size w w'
set_option maxRecDepth 100000 in
set_option maxHeartbeats 2000000 in
theorem reduce_any (n : Int) (es : List Edg) (oe : Option Addr) (c : Nat) (F : Foot) (w : World) (hs : SliceR edgR 3 F w oe es) (hc : es.length ≤ c) (hc2 : es.length ≤ 1000)
    (f : List Nat) (hU : Hid (gErr n es = 0 → Uf f (eL es))) (d : List Int) (od : Option Addr) (cd : Nat) (G : Foot) (hd : SliceR intR 1 G w od d) (hdc : d.length ≤ cd) (hdl : d.length ≤ 1000) (hS : Hid (tErr n es f d = 0 → SmG n.toNat es d)) :
    Calls Tryz.prog 70 #[.agg #[.int .i64 n, .slice oe es.length c], .int .i64 0, .slice od d.length cd] w (RedPost w n.toNat es d (tErr n es f d)) := by
  have hb0 := bnew (Below.refl w.heap.size w) (.cells #[.int .i64 n, .slice oe es.length c] 24)
  have bxx := Box.new w [.int .i64 n, .slice oe es.length c] 24
  have HK := hide (redgiven_any n es oe c F _ (hs.below edgR_ok hb0) hc (by omega) f hU d od cd G (hd.below intR_ok hb0) hdc (by omega))
  have HD := hide (hd.below intR_ok hb0)
  have HE := hide (hs.below edgR_ok hb0)
  have HB := hide hb0
  have HX := hide bxx
  clear hs hd hb0 bxx
  go_enter Tryz.func70, Tryz.ntmps70
  go_wp2_with fail
  refine HK.out.mono ?_
  rintro e w2 ⟨rfl, hb2⟩
  have HB2 := hide (below_then HB.out hb2)
  have bx2 := HX.out.below hb2
  have d0 := bx2.cell 0
  have d1 := bx2.cell 1
  simp only [List.getElem?_cons_zero, List.getElem?_cons_succ] at d0 d1
  have HE2 := hide (HE.out.below edgR_ok hb2)
  have HD2 := hide (HD.out.below intR_ok hb2)
  clear hb2 bx2
  by_cases hV : tErr n es f d = 0
  · have hj : jErr n es f = 0 := by
      unfold tErr at hV
      split at hV
      · rename_i h; exact h
      · rename_i h; exact absurd hV h
    have hg := jErr_g hj
    have hn := (gErr_zero hg).1
    obtain ⟨N, rfl⟩ := Int.eq_ofNat_of_zero_le (show 0 ≤ n by omega)
    rw [Int.toNat_natCast] at hS ⊢
    have hSm := hS.out hV
    have hdN : d.length = N := by
      unfold tErr at hV
      rw [if_pos hj] at hV
      unfold dErr at hV
      split at hV
      · split at hV
        · rename_i h; omega
        · exact absurd hV (by omega)
      · exact absurd hV (by omega)
    have hok := EOk.of hg hc2
    have hconn := conn_link hU.out hj
    have h12 : 1 ≤ N ∧ N ≤ 12 := by omega
    have hG : Hid (Gr N (linkE es)) := linkE_gr fun y hy => by have := (hok.at_ y hy).2; omega
    have hLO := hSm.lok (q := 0) hok hconn
    have HBG := hide (begin_any (B := w2.heap.size) (EdgesBelow.of HE2.out) (Nat.le_refl _) hok h12 (show 0 < N by omega) d od cd G HD2.out hdc hdN (c := c))
    have HLO := hide hLO
    have HSM := hide hSm
    rw [hdN] at HBG ⊢
    have HV := hide hV
    rw [hV]
    clear hV hj hg hSm hok hconn hLO hdN
    go_wp2_with fail
    refine HBG.out.mono ?_
    rintro e w3 ⟨L, rfl, hM3, hb3, hl1, hl2, hl3⟩
    have HB3 := hide hb3
    have HLD := hide (lend_any hM3 HLO.out)
    have hq3 := hM3.num.2.1
    clear hb3 hM3
    go_wp2_with fail
    refine HLD.out.mono ?_
    rintro e w4 ⟨rfl, far, K, s, hF, hKN, hI, hM4, hFk4⟩
    have hSO := hI.sok HLO.out HSM.out.n6 hq3 hG.out hF hKN
    have HST := hide (settle_any hM4 hSO)
    have HSO := hide hSO
    have HF4 := hide hFk4
    clear hF hI hM4 hFk4 hSO
    go_wp2_with fail
    refine HST.out.mono ?_
    rintro e w5 ⟨rfl, t, hIt, hRe, hM5, hFk5⟩
    obtain ⟨k1, k2, k3⟩ := HSO.out.bnd hG.out hq3 hIt
    have HRS := hide (result_any hM5 (fun v hv => ⟨Int.le_trans (by omega) (k1 v hv).1, Int.le_trans (k1 v hv).2 (by omega)⟩) (fun v hv => by
      have h1 := k3 v hv
      have h2 := HSO.out.sB 0 hq3
      have h3 := hIt.q0
      have h4 := HSO.out.M1
      show _ ≤ (s v + t v) - (s 0 + t 0) ∧ (s v + t v) - (s 0 + t 0) ≤ _
      omega) (fun v hv => by have := k3 v hv; show _ ≤ s v + t v ∧ s v + t v ≤ _; omega))
    have HW : Hid (Winn N (linkE es) (fun v => d.getD v 0) ↔ 0 ≤ app N (linkE es) (fun v => d.getD v 0) (fun w => s w + t w) 0) := by
      have h1 := redu_win hG.out hq3 (fun v hv hne => hIt.pay v hv hne) hRe
      show _ ↔ _
      rw [← app_app, ← h1, Winn.moved, Winn.moved]
    have HF5 := hide (HF4.out.trans hFk5)
    have HK1 := hide k1
    clear hIt hRe hM5 hFk5 k1 k2 k3
    go_wp2_with fail
    refine HRS.out.mono ?_
    rintro e w6 ⟨rfl, hM6, hFk6⟩
    have HM6 := hide hM6
    have HF6 := hide (HF5.out.trans hFk6)
    clear hM6 hFk6
    go_wp2_with fail
    go_ret3
    refine ⟨fun h => absurd HV.out h, fun _ => ⟨L.gd, L.cd, L.gs, L.rest, _, rfl, HM6.out.rd, HW.out, fun v hv => ⟨Int.le_trans (by omega) (HK1.out v hv).1, Int.le_trans (HK1.out v hv).2 (by omega)⟩⟩, ?_⟩
    have h5 := HB2.out.size
    exact (HB2.out.trans (HB3.out.mono h5)).trans (HF6.out.1.mono h5)
  · have hq : (tErr n es f d != 0) = true := by simpa using hV
    have HV := hide hV
    clear hV
    go_wp2_with fail
    go_ret3
    exact ⟨fun _ => rfl, fun h => absurd h HV.out, HB2.out⟩
theorem results_tmp4 {fn : Func} {t u v z : Tmp} (h : fn.results = #[.tmp t, .tmp u, .tmp v, .tmp z]) (tmps : Array Value) (P : Program) (w : World) :
    (results fn tmps).run P w = .ok (.tuple #[tmps.getD t undef, tmps.getD u undef, tmps.getD v undef, tmps.getD z undef]) w := by
  simp [results, h]
/-- What Winnable hands back. -/
def WinPost (w : World) (N : Nat) (es : List Edg) (d : List Int) (err : Int) (e : Ending) (w' : World) : Prop :=
  ∃ b rv sv, e = .returned (.tuple #[.bool b, rv, sv, .int .i64 err]) ∧ (err = 0 → (b = true ↔ Winn N (linkE es) (fun v => d.getD v 0))) ∧ Below w.heap.size w w'
set_option maxRecDepth 100000 in
set_option maxHeartbeats 2000000 in
theorem winnable_any (n : Int) (es : List Edg) (oe : Option Addr) (c : Nat) (F : Foot) (w : World) (hs : SliceR edgR 3 F w oe es) (hc : es.length ≤ c) (hc2 : es.length ≤ 1000)
    (f : List Nat) (hU : Hid (gErr n es = 0 → Uf f (eL es))) (d : List Int) (od : Option Addr) (cd : Nat) (G : Foot) (hd : SliceR intR 1 G w od d) (hdc : d.length ≤ cd) (hdl : d.length ≤ 1000) (hS : Hid (tErr n es f d = 0 → SmG n.toNat es d)) :
    Calls Tryz.prog 29 #[.agg #[.int .i64 n, .slice oe es.length c], .slice od d.length cd] w (WinPost w n.toNat es d (tErr n es f d)) := by
  have hb0 := bnew (Below.refl w.heap.size w) (.cells #[.int .i64 n, .slice oe es.length c] 24)
  have HK := hide (reduce_any n es oe c F _ (hs.below edgR_ok hb0) hc hc2 f hU d od cd G (hd.below intR_ok hb0) hdc hdl hS)
  have HB := hide hb0
  clear hs hd hb0
  go_enter Tryz.func29, Tryz.ntmps29
  go_wp2_with fail
  refine HK.out.mono ?_
  rintro e w2 ⟨h1, h2, hb2⟩
  have HB2 := hide (below_then HB.out hb2)
  clear hb2
  by_cases hV : tErr n es f d = 0
  · obtain ⟨gd, c2, gs, rest, r, rfl, hrow, hw, hrb⟩ := h2 hV
    have hN : 0 < n.toNat := by
      have hj : jErr n es f = 0 := by
        unfold tErr at hV
        split at hV
        · rename_i h; exact h
        · rename_i h; exact absurd hV h
      have := (gErr_zero (jErr_g hj)).1
      omega
    have c0 : w2.cell? ⟨gd, 0, none⟩ = some (.int .i64 (r 0)) := hrow.cell (lst_get r hN)
    have hr0 := hrb 0 hN
    have hN1 : (0 : Int) < (n.toNat : Int) := by omega
    generalize n.toNat = N at *
    have HW := hide hw
    have HV := hide hV
    clear h1 h2 hrow hw hrb hV
    obtain ⟨b, hb⟩ : ∃ b, b = decide (0 ≤ r 0) := ⟨_, rfl⟩
    go_wp2_with fail
    refine bodyPost_ret (results_tmp4 rfl _ _ _) rfl ?_
    exact ⟨_, _, _, by rw [HV.out]; rfl, fun _ => by rw [HW.out]; simp, HB2.out⟩
  · have h3 := h1 hV
    subst h3
    have hq : (tErr n es f d != 0) = true := by simpa using hV
    have HV := hide hV
    clear hV h1 h2
    go_wp2_with fail
    refine bodyPost_ret (results_tmp4 rfl _ _ _) rfl ?_
    exact ⟨_, _, _, rfl, fun h => absurd h HV.out, HB2.out⟩
end Go.Proofs.YtpgopmmobbemcaaGreat

set_option linter.unusedVariables false
set_option linter.unusedSimpArgs false
set_option linter.unnecessarySimpa false
namespace Go.Proofs.YtpgopmmobbemcaaGreat
open Go.RowKit

theorem stepsJ_len (s : List Int) (v : Nat) : (stepsJ s v 2).length ≤ 2 := by
  unfold stepsJ
  exact Nat.le_trans (List.length_filterMap_le _ _) (by simp)
theorem stepsUp_len (s : List Int) : ∀ v, (stepsUp s v).length ≤ 2 * v
  | 0 => by simp [stepsUp]
  | v + 1 => by
    have h1 := stepsUp_len s v
    have h2 := stepsJ_len s v
    rw [stepsUp_succ, List.length_append]
    omega
theorem candL_len : ∀ {l : List (List Int)}, (∀ s ∈ l, s.length ≤ 12) → (candL l).length ≤ 24 * l.length
  | [], _ => by simp [candL]
  | s :: r, h => by
    have ih := candL_len (l := r) fun x hx => h x (by simp [hx])
    have h1 := stepsUp_len s s.length
    have h2 := h s (by simp)
    have e : candL (s :: r) = stepsUp s s.length ++ candL r := by simp [candL, stepsS, stepsUp]
    rw [e, List.length_append, List.length_cons]
    omega
theorem foldC_len (good : List Int → Bool) : ∀ (cs : List (List Int)) (st : List (List Int) × List (List Int)), (cs.foldl (addC good) st).2.length ≤ st.2.length + cs.length
  | [], st => by simp
  | c :: r, st => by
    have ih := foldC_len good r (addC good st c)
    have h1 : (addC good st c).2.length ≤ st.2.length + 1 := by
      unfold addC
      split
      · omega
      · simp only; split <;> simp
    rw [List.foldl_cons, List.length_cons]
    omega
theorem lay_ok {N : Nat} {owe : List Int → Int} {most limit : Int} : ∀ (n : Nat), ∀ s ∈ layS N owe most limit n, s.length = N ∧ ∀ y ∈ s, -(n : Int) ≤ y ∧ y ≤ n
  | 0, s, hs => by
    have e : s = List.replicate N 0 := by simpa [layS] using hs
    subst e
    exact ⟨by simp, fun y hy => by have := (List.mem_replicate.1 hy).2; omega⟩
  | n + 1, s, hs => by
    obtain ⟨⟨t, ht, hst⟩, _⟩ := more_mem.1 (show s ∈ (moreS (goodS owe most limit ((n : Int) + 1)) (layS N owe most limit n)).2 from hs)
    obtain ⟨h1, h2⟩ := lay_ok n t ht
    obtain ⟨v, k, hv, hk, _, rfl⟩ := steps_mem.1 hst
    refine ⟨by rw [nudS_len]; exact h1, fun y hy => ?_⟩
    unfold nudS at hy
    have hg : -(n : Int) ≤ t.getD v 0 ∧ t.getD v 0 ≤ n := by
      rw [List.getD_eq_getElem?_getD, List.getElem?_eq_getElem hv]
      exact h2 _ (List.getElem_mem hv)
    rcases List.mem_or_eq_of_mem_set hy with h | h
    · have := h2 y h; push_cast; omega
    · push_cast; omega
theorem lay_len {N : Nat} (h12 : N ≤ 12) {owe : List Int → Int} {most limit : Int} : ∀ n, (layS N owe most limit n).length ≤ 24 ^ n
  | 0 => by simp [layS]
  | n + 1 => by
    have ih := lay_len h12 (owe := owe) (most := most) (limit := limit) n
    have h1 := foldC_len (goodS owe most limit ((n : Int) + 1)) (candL (layS N owe most limit n)) ([], [])
    have h2 := candL_len (l := layS N owe most limit n) fun s hs => by have := (lay_ok n s hs).1; omega
    show (moreS (goodS owe most limit ((n : Int) + 1)) (layS N owe most limit n)).2.length ≤ _
    unfold moreS
    rw [Nat.pow_succ]
    simp at h1
    omega
theorem lay_small {N : Nat} (h12 : N ≤ 12) {owe : List Int → Int} {most limit : Int} {n : Nat} (h8 : n ≤ 8) : (layS N owe most limit n).length ≤ 110075314176 := by
  have h1 := lay_len h12 (owe := owe) (most := most) (limit := limit) n
  have h2 : 24 ^ n ≤ 24 ^ 8 := Nat.pow_le_pow_right (by omega) h8
  omega
/-- The search, layer by layer. -/
def solF (N : Nat) (owe : List Int → Int) (most limit : Int) : Nat → Nat → List Int × Int × Int
  | 0, _ => ([], 0, 12)
  | fuel + 1, n => match (layS N owe most limit n).foldl (winStep (winsO owe) cmpL) none with
    | some s => (s, n, 0)
    | none => solF N owe most limit fuel (n + 1)
def solveR (n : Int) (es : List Edg) (f : List Nat) (d : List Int) (limit : Int) (b : Bool) : List Int × Int × Int :=
  if tErr n es f d ≠ 0 then ([], 0, tErr n es f d) else if limit < 0 ∨ 8 < limit then ([], 0, 2) else if b = false then ([], 0, 6) else solF n.toNat (oweS es d) (grtE es n.toNat) limit (limit.toNat + 1) 0
end Go.Proofs.YtpgopmmobbemcaaGreat

set_option linter.unusedVariables false
set_option linter.unusedSimpArgs false
set_option linter.unnecessarySimpa false
namespace Go.Proofs.YtpgopmmobbemcaaGreat
open Go.RowKit

def SolPost (w : World) (r : List Int × Int × Int) (e : Ending) (w' : World) : Prop :=
  ∃ oa c, e = .returned (.tuple #[.slice oa r.1.length c, .int .i64 r.2.1, .int .i64 r.2.2]) ∧ r.1.length ≤ c ∧ SliceR intR 1 All w' oa r.1 ∧ Below w.heap.size w w'
theorem SolPost.none {w w' : World} {x y : Int} (h : Below w.heap.size w w') : SolPost w ([], x, y) (.returned (.tuple #[.slice none 0 0, .int .i64 x, .int .i64 y])) w' :=
  ⟨Option.none, 0, rfl, by simp, fun i x hx => by simp at hx, h⟩
def SolvePost (w : World) (n : Int) (es : List Edg) (f : List Nat) (d : List Int) (limit : Int) (e : Ending) (w' : World) : Prop :=
  ∃ b : Bool, (tErr n es f d = 0 → (b = true ↔ Winn n.toNat (linkE es) (fun v => d.getD v 0))) ∧ SolPost w (solveR n es f d limit b) e w'
theorem lay0 {N : Nat} (hN : N ≤ 12) {Zs : Array Value} (hZ : Zs.toList = List.replicate N (.int .i64 0)) (w : World) : SliceR (slcR intR 1) 1 All ((w.alloc (.cells Zs 3)).alloc (.cells #[.slice (some ⟨w.heap.size, 0, none⟩) N N] 26)) (some ⟨w.heap.size + 1, 0, none⟩) [List.replicate N 0] := by
  have hr := (row_new hZ w).new (.cells #[.slice (some ⟨w.heap.size, 0, none⟩) N N] 26)
  have hs : SliceR intR 1 All ((w.alloc (.cells Zs 3)).alloc (.cells #[.slice (some ⟨w.heap.size, 0, none⟩) N N] 26)) (some ⟨w.heap.size, 0, none⟩) (List.replicate N 0) := hr.ints (fun y hy => by have := (List.mem_replicate.1 hy).2; subst this; unfold I64; omega) trivial
  have bx := Box.new (w.alloc (.cells Zs 3)) [.slice (some ⟨w.heap.size, 0, none⟩) N N] 26
  intro i x hx
  match i, hx with
  | 0, hx =>
    simp at hx
    subst hx
    refine ⟨w.heap.size + 1, 0, [.slice (some ⟨w.heap.size, 0, none⟩) N N], rfl, trivial, ⟨_, N, by simp, by simp, by simp; omega, hs⟩, fun j v hj => ?_⟩
    match j, hj with
    | 0, hj =>
      simp at hj
      subst hj
      have := bx.cell 0
      rw [alloc_size'] at this
      simpa using this
    | j + 1, hj => simp at hj
  | i + 1, hx => simp at hx
set_option maxRecDepth 100000 in
set_option maxHeartbeats 8000000 in
theorem solve_any (n : Int) (es : List Edg) (oe : Option Addr) (c : Nat) (F : Foot) (w : World) (hs : SliceR edgR 3 F w oe es) (hc : es.length ≤ c) (hc2 : es.length ≤ 1000)
    (f : List Nat) (hU : Hid (gErr n es = 0 → Uf f (eL es))) (d : List Int) (od : Option Addr) (cd : Nat) (G : Foot) (hd : SliceR intR 1 G w od d) (hdc : d.length ≤ cd) (hdl : d.length ≤ 1000) (hS : Hid (tErr n es f d = 0 → SmG n.toNat es d)) (limit : Int) (hlim : I64 limit) :
    Calls Tryz.prog 20 #[.agg #[.int .i64 n, .slice oe es.length c], .slice od d.length cd, .int .i64 limit] w (SolvePost w n es f d limit) := by
  have hb0 := bnew (Below.refl w.heap.size w) (.cells #[.int .i64 n, .slice oe es.length c] 24)
  have bxx := Box.new w [.int .i64 n, .slice oe es.length c] 24
  have HK := hide (dgiven_any n es oe c F _ (hs.below edgR_ok hb0) hc (by omega) f hU d od cd G (hd.below intR_ok hb0) hdc (by omega))
  have HWI : Hid (∀ u, Below w.heap.size w u → Calls Tryz.prog 29 #[.agg #[.int .i64 n, .slice oe es.length c], .slice od d.length cd] u (WinPost u n.toNat es d (tErr n es f d))) := fun u hu => winnable_any n es oe c F u (hs.below edgR_ok hu) hc hc2 f hU d od cd G (hd.below intR_ok hu) hdc hdl hS
  have HD := hide hd
  have HS := hide hs
  have HB := hide hb0
  have HX := hide bxx
  clear hs hd hb0 bxx
  go_enter Tryz.func20, Tryz.ntmps20
  go_wp2_with fail
  refine HK.out.mono ?_
  rintro e w2 ⟨rfl, hb2⟩
  have HB2 := hide (below_then HB.out hb2)
  have HX2 := hide (HX.out.below hb2)
  clear hb2
  by_cases hV : tErr n es f d = 0
  case neg =>
    have hR : Hid (solveR n es f d limit false = ([], 0, tErr n es f d)) := if_pos hV
    have hq : (tErr n es f d != 0) = true := by simpa using hV
    have HV := hide hV
    go_wp2_with fail
    go_ret3
    exact ⟨false, fun h => absurd h HV.out, by rw [hR.out]; exact SolPost.none HB2.out⟩
  obtain ⟨N, rfl, hT⟩ := tErr_ok hV
  have HT := hide hT
  have h12 := hT.n12
  have hdN := hT.len
  have HOK := hide (EOk.of hT.g hc2)
  by_cases hl0 : limit < 0 ∨ 8 < limit
  case pos =>
    have hR : Hid (∀ b, solveR N es f d limit b = ([], 0, 2)) := fun b => by unfold solveR; rw [if_neg (fun h => h hV), if_pos hl0]
    have HWN : Hid (∃ b : Bool, (b = true ↔ Winn N (linkE es) (fun v => d.getD v 0))) := by
      by_cases h : Winn N (linkE es) (fun v => d.getD v 0)
      · exact ⟨true, ⟨fun _ => h, fun _ => rfl⟩⟩
      · exact ⟨false, ⟨(fun h2 => by cases h2), fun h2 => absurd h2 h⟩⟩
    rw [hV]
    clear hV
    rcases Int.lt_or_le limit 0 with h1 | h1
    · clear hl0
      go_wp2_with fail
      go_ret3
      obtain ⟨b, hb⟩ := HWN.out
      exact ⟨b, fun _ => by rw [Int.toNat_natCast]; exact hb, by rw [hR.out]; exact SolPost.none HB2.out⟩
    · have h2 : 8 < limit := by omega
      clear hl0
      go_wp2_with fail
      go_ret3
      obtain ⟨b, hb⟩ := HWN.out
      exact ⟨b, fun _ => by rw [Int.toNat_natCast]; exact hb, by rw [hR.out]; exact SolPost.none HB2.out⟩
  have hl1 : 0 ≤ limit := by omega
  have hl2 : limit ≤ 8 := by omega
  have y0 := HX2.out.cell 0
  have y1 := HX2.out.cell 1
  simp only [List.getElem?_cons_zero, List.getElem?_cons_succ] at y0 y1
  have HWI2 := hide (HWI.out w2 HB2.out)
  rw [hdN] at HWI2 ⊢
  rw [hV] at HWI2 ⊢
  have HSV : Hid (∀ b, solveR N es f d limit b = if b = false then ([], 0, 6) else solF N (oweS es d) (grtE es N) limit (limit.toNat + 1) 0) := fun b => by unfold solveR; rw [if_neg (fun h => h hV), if_neg hl0, Int.toNat_natCast]
  have HDN := hide hdN
  rw [hdN] at hdc
  clear hV hT hl0 hdN
  go_wp2_with fail
  refine HWI2.out.mono ?_
  rintro e w3 ⟨b, rv, sv, rfl, hbw, hb3⟩
  have HBW := hide (hbw rfl)
  have HB3 := hide (below_then HB2.out hb3)
  have HX3 := hide (HX2.out.below hb3)
  replace y0 := (hb3.cell (World.block_lt_of_cell? _ _ y0)).trans y0
  replace y1 := (hb3.cell (World.block_lt_of_cell? _ _ y1)).trans y1
  clear hbw hb3
  rcases b with _ | _
  · have HWF : Hid (tErr N es f d = 0 → (false = true ↔ Winn (N : Int).toNat (linkE es) (fun v => d.getD v 0))) := fun _ => HBW.out
    clear HBW
    go_wp2_with fail
    go_ret3
    exact ⟨false, HWF.out, by rw [HSV.out, if_pos rfl]; exact SolPost.none HB3.out⟩
  have HWT : Hid (tErr N es f d = 0 → (true = true ↔ Winn (N : Int).toNat (linkE es) (fun v => d.getD v 0))) := fun _ => ⟨fun _ => HBW.out.1 rfl, fun _ => rfl⟩
  clear HBW
  have hR : Hid (solveR N es f d limit true = solF N (oweS es d) (grtE es N) limit (limit.toNat + 1) 0) := by show _ = _; rw [HSV.out, if_neg (by simp)]
  have HGR : Hid (∀ W, Below w.heap.size w W → Calls Tryz.prog 59 #[.agg #[.int .i64 N, .slice oe es.length c]] W fun e w' => e = .returned (.int .i64 (grtE es N)) ∧ Below W.heap.size W w') := fun W hW => greatest_any N es oe c F W (HS.out.below edgR_ok hW) hc hc2 HT.out.g
  have hgb := grtE_le (valE_bound HT.out.g hc2) N
  obtain ⟨gr, hgr⟩ : ∃ gr, gr = grtE es N := ⟨_, rfl⟩
  rw [← hgr] at HGR hgb hR
  clear hgr HSV HWI HWI2
  go_upto_region 11 with fail
  go_cut [14] (fun s14 wx => ∃ p, s14 = .pointer (some ⟨p, 0, none⟩) ∧ Hid (SCtx N es oe c d od cd p gr limit wx) ∧ Hid (Below w.heap.size w wx) ∧ Hid (wx.cell? ⟨w.heap.size, 0, none⟩ = some (.int .i64 N)))
  case first =>
    have HBZ := HB3
    go_region_held3 (fun w' => w'.cell? ⟨w.heap.size, 0, none⟩ = some (.int .i64 N) ∧ w'.cell? ⟨w.heap.size, 1, none⟩ = some (.slice oe es.length c)) (first | with_reducible exact ⟨y0, y1⟩ | with_reducible exact ⟨cell_next y0 _, cell_next y1 _⟩ | exact ⟨y0, y1⟩) (first
      | (go_at_call 59; refine (HGR.out _ (by first | with_reducible exact HBZ.out | with_reducible exact HBZ.out.drew)).mono ?_; rintro e w5 ⟨rfl, h5⟩; have y0 := (h5.cell (World.block_lt_of_cell? _ _ y0)).trans y0; have y1 := (h5.cell (World.block_lt_of_cell? _ _ y1)).trans y1; have HBZ := hide (show Below w.heap.size w w5 from below_then (by first | with_reducible exact HBZ.out | with_reducible exact HBZ.out.drew) h5); clear h5))
    all_goals
      go_wp2_with fail
      go_meet
      have hbz := HBZ.out.alloc HBZ.out.size (.cells #[.int .i64 N, .slice oe es.length c, .slice od N cd, .int .i64 gr, .int .i64 limit] 102)
      exact ⟨_, rfl, ⟨HOK.out, h12, (HS.out.below edgR_ok hbz).all edgR_ok (by decide), hc, (HD.out.below intR_ok hbz).all intR_ok (by decide), hdc, HDN.out, HT.out.dB, Box.new _ _ _⟩, hbz, cell_next y0 _⟩
  case rest =>
    obtain ⟨p, rfl, HC, HBc, HY0⟩ := hcut
    obtain ⟨Zs, hZs, hmk⟩ := mk_ints 26 3 Tryz.underlying26 (by kernel_rfl) N (by omega)
    have HZS := hide hZs
    have hy0 := HY0.out
    clear y0 y1 hZs
    go_wp2_with fail
    have HL0 : Hid (SliceR (slcR intR 1) 1 All ((wc.alloc (.cells Zs 3)).alloc (.cells #[.slice (some ⟨wc.heap.size, 0, none⟩) N N] 26)) (some ⟨wc.heap.size + 1, 0, none⟩) [List.replicate N 0]) := lay0 h12.2 HZS.out wc
    have HC0 : Hid (SCtx N es oe c d od cd p gr limit ((wc.alloc (.cells Zs 3)).alloc (.cells #[.slice (some ⟨wc.heap.size, 0, none⟩) N N] 26))) := (HC.out.below (bnew (Below.refl _ _) _)).below (bnew (Below.refl _ _) _)
    have HB0 : Hid (Below w.heap.size w ((wc.alloc (.cells Zs 3)).alloc (.cells #[.slice (some ⟨wc.heap.size, 0, none⟩) N N] 26))) := (HBc.out.alloc HBc.out.size _).alloc (by have := HBc.out.size; rw [alloc_size']; omega) _
    clear hmk hy0
    generalize (wc.alloc (.cells Zs 3)).alloc (.cells #[.slice (some ⟨wc.heap.size, 0, none⟩) N N] 26) = W0 at *
    obtain ⟨M, hM⟩ : ∃ M : Nat, M = limit.toNat + 1 := ⟨_, rfl⟩
    have hML : (M : Int) = limit + 1 := by omega
    have hM9 : M ≤ 9 := by omega
    rw [← hM] at hR
    clear hM
    obtain ⟨owe, howe⟩ : ∃ owe, owe = oweS es d := ⟨_, rfl⟩
    rw [← howe] at hR
    have HOWE := hide howe
    clear howe
    go_loopg [15, 16] M (fun gm lv nv wx => ∃ (k : Nat) (ol : Option Addr) (cl : Nat) (L : List (List Int)), k ≤ M ∧ gm = M - k ∧ nv = .int .i64 k ∧ lv = .slice ol L.length cl ∧ L.length ≤ cl ∧ Hid (L = layS N owe gr limit k) ∧ Hid (SliceR (slcR intR 1) 1 All wx ol L) ∧ Hid (SCtx N es oe c d od cd p gr limit wx) ∧ Hid (Below w.heap.size w wx) ∧ Hid (solF N owe gr limit M 0 = solF N owe gr limit (M - k) k))
    case atStart => exact ⟨0, _, 1, [List.replicate N 0], by omega, by omega, rfl, rfl, by simp, rfl, HL0, HC0, HB0, rfl⟩
    case round =>
      obtain ⟨k, ol, cl, L, hk, hgm, rfl, rfl, hLc, HLE, HLS, HCk, HBk, HSF⟩ := hrel
      have HGM := hide hgm
      clear hgm
      by_cases hlt : (k : Int) ≤ limit
      · have hk8 : k ≤ 8 := by omega
        have hkM : k < M := by omega
        have hLl : L.length ≤ 110075314176 := by rw [HLE.out]; exact lay_small h12.2 hk8
        have HLO : Hid (∀ s ∈ L, s.length = N ∧ ∀ y ∈ s, -50 ≤ y ∧ y ≤ 50) := fun s hs => by
          rw [HLE.out] at hs
          obtain ⟨h1, h2⟩ := lay_ok k s hs
          exact ⟨h1, fun y hy => by have := h2 y hy; omega⟩
        have HWN := hide (winner_any HCk.out L ol cl All HLS.out hLc (by omega) (fun s hs => ⟨(HLO.out s hs).1, fun y hy => by have := (HLO.out s hs).2 y hy; omega⟩))
        rw [← HOWE.out] at HWN
        have HST : Hid (solF N owe gr limit (M - k) k = match L.foldl (winStep (winsO owe) cmpL) Option.none with | some s => (s, (k : Int), 0) | Option.none => solF N owe gr limit (M - (k + 1)) (k + 1)) := by
          show _ = _
          rw [show M - k = (M - (k + 1)) + 1 by omega, HLE.out]
          rfl
        go_wp2_with fail
        refine HWN.out.mono ?_
        rintro e w5 ⟨v, rfl, hbest, hb5⟩
        have HB5 := hide (below_then HBk.out hb5)
        have HC5 := hide (HCk.out.below hb5)
        have HL5 := hide (HLS.out.below (slcR_ok intR_ok (by decide)) hb5)
        have HBEST := hide hbest
        clear hbest hb5
        cases hfo : L.foldl (winStep (winsO owe) cmpL) Option.none with
        | none =>
          rw [hfo] at HBEST HST
          have h5 : v = .slice none 0 0 := HBEST.out
          subst h5
          clear hfo
          have hq : (binOp .neq 26 (.slice none 0 0) (.slice none 0 0)).run Tryz.prog w5 = .ok (.bool false) w5 := run_neq_slice_nil_any w5 _ 3 none 0 0 0 0 Tryz.underlying26
          have HMO := hide (more_any HC5.out (by omega) (by omega) L ol cl All HL5.out hLc hLl HLO (k : Int) (by omega))
          rw [← HOWE.out] at HMO
          go_wp2_with fail
          refine HMO.out.mono ?_
          rintro e w6 ⟨oa, ca, rfl, hca, hsl, hb6⟩
          have HB6 := hide (below_then HB5.out hb6)
          have HC6 := hide (HC5.out.below hb6)
          have HL6 := hide hsl
          have HLN : Hid ((moreS (goodS owe gr limit ((k : Int) + 1)) L).2 = layS N owe gr limit (k + 1)) := by show _ = _; rw [HLE.out]; rfl
          have HSN : Hid (solF N owe gr limit M 0 = solF N owe gr limit (M - (k + 1)) (k + 1)) := by show _ = _; rw [HSF.out, HST.out]
          generalize (moreS (goodS owe gr limit ((k : Int) + 1)) L).2 = L2 at *
          clear hsl hb6
          go_wp2_with fail
          go_roundg (M - (k + 1))
          case rel => exact ⟨k + 1, oa, ca, L2, by omega, rfl, by go_num, rfl, hca, HLN, HL6, HC6, HB6, HSN⟩
          case measure => rw [HGM.out]; omega
        | some t =>
          rw [hfo] at HBEST HST
          obtain ⟨b5, o5, c5, h5, hc5, ht5, hs5⟩ := HBEST.out
          subst h5
          have HT5 := hide ht5
          have HS5 := hide hs5
          clear hfo ht5 hs5
          have hq : (binOp .neq 26 (.slice (some ⟨b5, o5, none⟩) N c5) (.slice none 0 0)).run Tryz.prog w5 = .ok (.bool true) w5 := run_neq_slice_nil_any w5 _ 3 (some ⟨b5, o5, none⟩) N c5 0 0 Tryz.underlying26
          go_wp2_with fail
          go_ret3
          refine ⟨true, fun h => ⟨fun _ => (HWT.out h).1 (by trivial), fun _ => rfl⟩, ?_⟩
          rw [hR.out, HSF.out, HST.out]
          exact ⟨_, c5, by rw [HT5.out]; rfl, by rw [HT5.out]; exact hc5, HS5.out, HB5.out⟩
      · have hkM : k = M := by omega
        have HSE : Hid (solF N owe gr limit M 0 = ([], 0, 12)) := by
          show _ = _
          rw [HSF.out, hkM, Nat.sub_self]
          rfl
        clear hkM
        go_wp2_with fail
        go_ret3
        exact ⟨true, fun h => ⟨fun _ => (HWT.out h).1 (by trivial), fun _ => rfl⟩, by rw [hR.out, HSE.out]; exact SolPost.none HBk.out⟩
end Go.Proofs.YtpgopmmobbemcaaGreat

namespace Go.Proofs
open Go.Shelf
def Tryz.lays189_ren : Go.Shelf.Ren := ⟨fun | 189 => 85 | 125 => 118 | 257 => 117 | 128 => 150 | 129 => 151 | 294 => 141 | 295 => 142 | 296 => 143 | 297 => 144 | 298 => 145 | 299 => 146 | 216 => 147 | 300 => 148 | 301 => 149 | 328 => 160 | 329 => 161 | 330 => 162 | 331 => 163 | 332 => 164 | 215 => 152 | 343 => 169 | n => n, fun | 28 => 25 | 3 => 3 | 46 => 146 | 0 => 0 | 51 => 168 | 53 => 171 | 4 => 4 | 183 => 185 | 182 => 184 | 131 => 189 | 5 => 5 | 9 => 9 | 218 => 201 | 222 => 205 | 228 => 211 | 229 => 53 | n => n, fun | n => n⟩
theorem Tryz.lays189 : Go.Proofs.Lays.n189 Tryz.prog Tryz.lays189_ren := {
  mixed := by kernel_rfl
  f125 := Tryz.func118.trans (congrArg some (by kernel_rfl))
  f128 := Tryz.func150.trans (congrArg some (by kernel_rfl))
  f129 := Tryz.func151.trans (congrArg some (by kernel_rfl))
  f189 := Tryz.func85.trans (congrArg some (by kernel_rfl))
  f215 := Tryz.func152.trans (congrArg some (by kernel_rfl))
  f216 := Tryz.func147.trans (congrArg some (by kernel_rfl))
  f257 := Tryz.func117.trans (congrArg some (by kernel_rfl))
  f294 := Tryz.func141.trans (congrArg some (by kernel_rfl))
  f295 := Tryz.func142.trans (congrArg some (by kernel_rfl))
  f296 := Tryz.func143.trans (congrArg some (by kernel_rfl))
  f297 := Tryz.func144.trans (congrArg some (by kernel_rfl))
  f298 := Tryz.func145.trans (congrArg some (by kernel_rfl))
  f299 := Tryz.func146.trans (congrArg some (by kernel_rfl))
  f300 := Tryz.func148.trans (congrArg some (by kernel_rfl))
  f301 := Tryz.func149.trans (congrArg some (by kernel_rfl))
  f328 := Tryz.func160.trans (congrArg some (by kernel_rfl))
  f329 := Tryz.func161.trans (congrArg some (by kernel_rfl))
  f330 := Tryz.func162.trans (congrArg some (by kernel_rfl))
  f331 := Tryz.func163.trans (congrArg some (by kernel_rfl))
  f332 := Tryz.func164.trans (congrArg some (by kernel_rfl))
  f343 := Tryz.func169.trans (congrArg some (by kernel_rfl))
  t0 := Tryz.underlying0
  a0 := Tryz.isAgg0
  z0 := Tryz.sizeOf0
  v0 := Tryz.zeroValue0
  t3 := Tryz.underlying3
  a3 := Tryz.isAgg3
  z3 := Tryz.sizeOf3
  v3 := Tryz.zeroValue3
  t4 := Tryz.underlying4
  a4 := Tryz.isAgg4
  z4 := Tryz.sizeOf4
  v4 := Tryz.zeroValue4
  t5 := Tryz.underlying5
  a5 := Tryz.isAgg5
  z5 := Tryz.sizeOf5
  v5 := Tryz.zeroValue5
  t9 := Tryz.underlying9
  a9 := Tryz.isAgg9
  z9 := Tryz.sizeOf9
  v9 := Tryz.zeroValue9
  t28 := Tryz.underlying25
  a28 := Tryz.isAgg25
  z28 := Tryz.sizeOf25
  v28 := Tryz.zeroValue25
  t46 := Tryz.underlying146
  a46 := Tryz.isAgg146
  z46 := Tryz.sizeOf146
  v46 := Tryz.zeroValue146
  t51 := Tryz.underlying168
  a51 := Tryz.isAgg168
  z51 := Tryz.sizeOf168
  v51 := Tryz.zeroValue168
  t53 := Tryz.underlying171
  a53 := Tryz.isAgg171
  z53 := Tryz.sizeOf171
  v53 := Tryz.zeroValue171
  t131 := Tryz.underlying189
  a131 := Tryz.isAgg189
  z131 := Tryz.sizeOf189
  v131 := Tryz.zeroValue189
  t182 := Tryz.underlying184
  a182 := Tryz.isAgg184
  z182 := Tryz.sizeOf184
  v182 := Tryz.zeroValue184
  t183 := Tryz.underlying185
  a183 := Tryz.isAgg185
  z183 := Tryz.sizeOf185
  v183 := Tryz.zeroValue185
  t218 := Tryz.underlying201
  a218 := Tryz.isAgg201
  z218 := Tryz.sizeOf201
  v218 := Tryz.zeroValue201
  t222 := Tryz.underlying205
  a222 := Tryz.isAgg205
  z222 := Tryz.sizeOf205
  v222 := Tryz.zeroValue205
  t228 := Tryz.underlying211
  a228 := Tryz.isAgg211
  z228 := Tryz.sizeOf211
  v228 := Tryz.zeroValue211
  t229 := Tryz.underlying53
  a229 := Tryz.isAgg53
  z229 := Tryz.sizeOf53
  v229 := Tryz.zeroValue53 }
open Go.Sort Go.RowKit in
theorem Tryz.slices_Sort_int (blk off cap : Nat) (zs : List Int) (w : World) (hH : Holds (Value.int .i64) w blk off zs.toArray) (hblk : blk < w.heap.size) (hsz : zs.length < 4611686018427387904) :
    Calls Tryz.prog 85 #[.slice (some ⟨blk, off, none⟩) zs.length cap] w fun e w' =>
      e = .returned (.tuple #[]) ∧ ∃ n os, w' = grow (putRow (Value.int .i64) (Sort.ahead w n) blk off (zs.mergeSort fun x y => decide (x ≤ y)).toArray) os := Any.slices_Sort_int Tryz.lays189 blk off cap zs w hH hblk hsz
open Go.RowKit Go.Sort in
/-- .. and plain. (LAID: no walk: one application.) -/
theorem Tryz.slices_Sort_int_none (p : Option Addr) (cap : Nat) (w : World) :
    Calls Tryz.prog 85 #[.slice p 0 cap] w fun e w' => e = .returned (.tuple #[]) ∧ w' = w := Any.slices_Sort_int_none Tryz.lays189 p cap w
end Go.Proofs

set_option linter.unusedVariables false
namespace Go.Proofs.YtpgopmmobbemcaaGreat
open Go.RowKit Go.Sort

theorem sortI_any (base : Nat) (e : TypeId) (v : Value) (xs : List Int) (w : World) (hown : OwnQ base e w v xs) (hlen : xs.length ≤ 1000000000) :
    Calls Tryz.prog 85 #[v] w fun e' w' => e' = .returned (.tuple #[]) ∧ OwnQ base e w' v (xs.mergeSort fun x y => decide (x ≤ y)) ∧ w.grownBy w' v.ownBlock := by
  have h0 := hown
  obtain ⟨g, o, cap, cur, rfl, h1, h2, h3, h4, h5, h6, h7⟩ := hown
  have hg : g < w.heap.size := (Array.getElem?_eq_some_iff.1 h2).1
  have hH : Holds (Value.int .i64) w g o xs.toArray := by
    intro j hj
    have hj' : j < xs.length := by simpa using hj
    refine ⟨?_, by simp [World.frozen?, h2]⟩
    rw [h0.get rfl j _ (List.getElem?_eq_getElem hj')]
    simp [hj']
  refine (Tryz.slices_Sort_int g o cap xs w hH hg (by omega)).mono ?_
  rintro e' w' ⟨rfl, n, os, rfl⟩
  generalize hts : (xs.mergeSort fun x y => decide (x ≤ y)) = ts
  have hl : ts.length = xs.length := by rw [← hts]; exact List.length_mergeSort _
  have hm : ∀ x ∈ ts, I64 x := fun x hx => h7 x (by rw [← hts] at hx; exact (List.mergeSort_perm xs _).mem_iff.1 hx)
  refine ⟨rfl, ⟨g, o, cap, putCells (Value.int .i64) o ts.toArray cur, by rw [hl], h1, ?_, by omega, h4, by simp [putCells]; exact h5, ?_, hm⟩, ?_⟩
  · rw [heap_grow_old _ _ (by simpa [putRow, mapBlock, Sort.ahead] using hg)]
    simp [putRow, mapBlock, Sort.ahead, Array.getElem?_modify, h2, onCells]
  · apply List.ext_getElem?
    intro j
    by_cases hj : j < ts.length
    · rw [List.getElem?_take_of_lt hj, List.getElem?_drop, Array.getElem?_toList]
      simp [putCells, hj, show o + j < cur.size by omega]
    · rw [List.getElem?_take_eq_none (by omega), List.getElem?_eq_none (by simp; omega)]
  · refine ⟨rfl, rfl, rfl, by simp [grow, putRow, mapBlock, Sort.ahead], fun k hk hne => ?_⟩
    rw [heap_grow_old _ _ (by simpa [putRow, mapBlock, Sort.ahead] using hk)]
    have : g ≠ k := fun e => hne (by simp [Value.ownBlock, e])
    simp [putRow, mapBlock, Sort.ahead, Array.getElem?_modify, this]

end Go.Proofs.YtpgopmmobbemcaaGreat

set_option linter.unusedVariables false
namespace Go.Proofs.YtpgopmmobbemcaaGreat
open Go.RowKit Go.Shelf

attribute [local go_sem] Oper.semAt_some

def upto {α : Type} (f : Nat → α) (k : Nat) : List α := (List.range k).map f
theorem upto_succ {α : Type} (f : Nat → α) (k : Nat) : upto f (k + 1) = upto f k ++ [f k] := by simp [upto, List.range_succ]
theorem upto_length {α : Type} (f : Nat → α) (k : Nat) : (upto f k).length = k := by simp [upto]
theorem upto_all (zs : List Int) : upto (fun j => zs[j]?.getD 0) zs.length = zs := by
  apply List.ext_getElem
  · simp [upto]
  · intro i h1 h2
    simp [upto, h2]
theorem upto_take (zs : List Int) {k : Nat} (hk : k ≤ zs.length) : upto (fun j => zs[j]?.getD 0) k = zs.take k := by
  apply List.ext_getElem
  · simp [upto, hk]
  · intro i h1 h2
    have : i < zs.length := by simp [upto] at h1; omega
    simp [upto, this]

/-- The slice value sv holds the ints zs, in a block below n₀; or there are none. -/
def IntsBelow (n₀ : Nat) (W : World) (sv : Value) (zs : List Int) : Prop :=
  (∃ a c, sv = .slice a 0 c ∧ zs = []) ∨ ∃ b off cap, sv = .slice (some ⟨b, off, none⟩) zs.length cap ∧ b < n₀ ∧ ∀ j, j < zs.length → W.cell? ⟨b, off + j, none⟩ = some (.int .i64 (zs[j]?.getD 0))
theorem IntsBelow.below {n₀ : Nat} {A B : World} (h : Below n₀ A B) {sv : Value} {zs : List Int} : IntsBelow n₀ A sv zs → IntsBelow n₀ B sv zs
  | .inl e => .inl e
  | .inr ⟨b, off, cap, e, hb, hc⟩ => .inr ⟨b, off, cap, e, hb, fun j hj => (h.cell (p := ⟨b, off + j, none⟩) hb).trans (hc j hj)⟩
theorem IntsBelow.mono {n₀ n₁ : Nat} {A : World} {sv : Value} {zs : List Int} (h : IntsBelow n₀ A sv zs) (hn : n₀ ≤ n₁) : IntsBelow n₁ A sv zs :=
  h.imp id fun ⟨b, off, cap, e, hb, hc⟩ => ⟨b, off, cap, e, by omega, hc⟩
theorem IntsBelow.of {F : Foot} {w : World} {oa : Option Addr} {c : Nat} {zs : List Int} (h : SliceR intR 1 F w oa zs) : IntsBelow w.heap.size w (.slice oa zs.length c) zs := by
  rcases Nat.eq_zero_or_pos zs.length with h0 | h0
  · have : zs = [] := List.eq_nil_of_length_eq_zero h0
    subst this
    exact .inl ⟨oa, c, rfl, rfl⟩
  · obtain ⟨x, _, _, _, b, off, rfl, _, hc0⟩ := h.int_at h0
    refine .inr ⟨b, off, c, rfl, World.block_lt_of_cell? _ _ hc0, fun j hj => ?_⟩
    obtain ⟨y, _, hy, _, b', off', he, _, hc⟩ := h.int_at hj
    injection he with he
    injection he with e1 e2
    subst e1 e2
    rw [hc, hy]
    rfl

def ApPost (w : World) (zs : List Int) (e : Ending) (W' : World) : Prop := ∃ v, e = .returned v ∧ W'.ownsRow w.heap.size 3 1 v zs.length (zs.map (Value.int .i64)) ∧ Below w.heap.size w W'

end Go.Proofs.YtpgopmmobbemcaaGreat

set_option linter.unusedVariables false
set_option linter.unusedSimpArgs false
namespace Go.Proofs.YtpgopmmobbemcaaGreat
open Go.RowKit

theorem OwnQ.of_row {base : Nat} {e : TypeId} {w : World} {v : Value} {zs : List Int} (h : w.ownsRow base e 1 v zs.length (zs.map (Value.int .i64))) (hz : ∀ x ∈ zs, I64 x) : (v = .slice none 0 0 ∧ zs = []) ∨ OwnQ base e w v zs := by
  rcases h.2 with ⟨rfl, hn⟩ | ⟨g, cap, cur, rfl, hg, hh, hle, hcm, hcs, htake⟩
  · exact .inl ⟨rfl, List.eq_nil_of_length_eq_zero hn⟩
  · exact .inr ⟨g, 0, cap, cur, rfl, hg, hh, hle, hcm, by omega, by simpa using htake, hz⟩

def SortedPost (w : World) (zs : List Int) (e : Ending) (w' : World) : Prop :=
  ∃ oa c, e = .returned (.slice oa zs.length c) ∧ zs.length ≤ c ∧ SliceR intR 1 All w' oa (zs.mergeSort fun x y => decide (x ≤ y)) ∧ Below w.heap.size w w'

def RevPost (base : Nat) (up : List Int) (v : Value) (w : World) (e' : Ending) (w' : World) : Prop :=
  e' = .returned (.tuple #[]) ∧ ∃ oa c ys, v = .slice oa ys.length c ∧ ys.length ≤ c ∧ ys.Perm up ∧ SliceR intR 1 All w' oa ys ∧ Below base w w'

end Go.Proofs.YtpgopmmobbemcaaGreat

set_option linter.unusedVariables false
set_option linter.unusedSimpArgs false
namespace Go.Proofs.YtpgopmmobbemcaaGreat
open Go.RowKit Go.Shelf

attribute [local go_sem] Oper.semAt_some

set_option maxRecDepth 100000 in
set_option maxHeartbeats 2000000 in
theorem values1S_in (F : Fence) (n : Nat) (h7 : F.fn 86) (hro : F.round = none) (hn : 1 ≤ n) (l Bs n₀ b off len cap : Nat) (zs : List Int) (hreach : len * 8 ≤ 140737488351232) (hb : b < n₀) (J Jx : List Int → World → Prop)
    (hY : ∀ pre x W, J pre W → pre.length < len → YieldAt F (n - 1) Tryz.prog l #[.int .i64 x] W fun e W' =>
      (e = .returned (.bool true) ∧ J (pre ++ [x]) W' ∧ Below n₀ W W') ∨ (e = .returned (.bool false) ∧ Jx (pre ++ [x]) W'))
    (W : World) (hBs : W.cell? ⟨Bs, 0, none⟩ = some (.slice (some ⟨b, off, none⟩) len cap)) (hc : ∀ j, j < len → W.cell? ⟨b, off + j, none⟩ = some (.int .i64 (zs[j]?.getD 0))) (h0 : J [] W) :
    CallsIn F n Tryz.prog 86 #[.func (.yield l) #[] #[], .pointer (some ⟨Bs, 0, none⟩)] W fun e W' => (∃ v, e = .returned v) ∧
      ((∃ ys, ys = upto (fun j => zs[j]?.getD 0) len ∧ J ys W') ∨ (∃ pre, (∃ k, k ≤ len ∧ pre = upto (fun j => zs[j]?.getD 0) k) ∧ Jx pre W')) := by
  refine callsIn_of_wp Tryz.func86 rfl h7 ?_ hro
  simp only [Tryz.ntmps86, List.size_toArray, List.length_cons, List.length_nil, Nat.reduceAdd, Nat.reduceSub, Array.replicate_succ, Array.replicate_zero, List.push_toArray, List.append_toArray, List.nil_append, List.cons_append]
  gi_wp2
  gi_loopw [7] (fun i wr => ∃ k : Nat, k ≤ len ∧ i = .int .i64 k ∧ J (upto (fun j => zs[j]?.getD 0) k) wr ∧ Below n₀ W wr)
    (fun i _ => len - (intOf i).toNat)
  case atStart => exact ⟨0, Nat.zero_le _, rfl, h0, Below.refl _ _⟩
  case round =>
    obtain ⟨k, hk, rfl, hJs, hnx⟩ := hrel
    have hcx : k < len → wr.cell? ⟨b, off + k, none⟩ = some (.int .i64 (zs[k]?.getD 0)) := fun h => (hnx.cell (p := ⟨b, off + k, none⟩) hb).trans (hc k h)
    by_cases hlt : k < len
    · obtain ⟨fn, tmps, assign, body, hy, hR⟩ := hY _ (zs[k]?.getD 0) wr hJs (by rw [upto_length]; exact hlt)
      have hcx' := hcx hlt
      gi_wp2
      refine hR.mono ?_
      rintro e W3 (⟨rfl, hJ3, hk3⟩ | ⟨rfl, hJx3⟩)
      · gi_wp2
        go_roundw
        case rel => exact ⟨k + 1, by omega, by simp, by rw [upto_succ]; exact hJ3, hnx.trans hk3⟩
        case measure => simp [intOf]; omega
      · gi_wp2
        refine bodyPost_ret (results_none rfl _ _ _) rfl ?_
        exact ⟨⟨_, rfl⟩, .inr ⟨_, ⟨k + 1, by omega, (upto_succ _ _).symm⟩, hJx3⟩⟩
    · obtain rfl : k = len := by omega
      gi_wp2
      go_end0
      exact ⟨⟨_, rfl⟩, .inl ⟨_, rfl, hJs⟩⟩


set_option maxRecDepth 100000 in
set_option maxHeartbeats 2000000 in
theorem values1S_nil_in (F : Fence) (n : Nat) (h7 : F.fn 86) (hro : F.round = none) (l Bs : Nat) (a : Option Addr) (c : Nat) (J : List Int → World → Prop) (W : World) (hBs : W.cell? ⟨Bs, 0, none⟩ = some (.slice a 0 c)) (h0 : J [] W) :
    CallsIn F n Tryz.prog 86 #[.func (.yield l) #[] #[], .pointer (some ⟨Bs, 0, none⟩)] W fun e W' => (∃ v, e = .returned v) ∧ J [] W' := by
  refine callsIn_of_wp Tryz.func86 rfl h7 ?_ hro
  simp only [Tryz.ntmps86, List.size_toArray, List.length_cons, List.length_nil, Nat.reduceAdd, Nat.reduceSub, Array.replicate_succ, Array.replicate_zero, List.push_toArray, List.append_toArray, List.nil_append, List.cons_append]
  gi_wp2
  gi_loopw [7] (fun i wr => i = .int .i64 0 ∧ J [] wr) (fun _ _ => 0)
  case atStart => exact ⟨rfl, h0⟩
  case round =>
    obtain ⟨rfl, hJs⟩ := hrel
    gi_wp2
    go_end0
    exact ⟨⟨_, rfl⟩, hJs⟩


theorem valuesS_stops (F : Fence) (n : Nat) (h7 : F.fn 86) (hro : F.round = none) (hn : 1 ≤ n) (Bs n₀ : Nat) (sv : Value) (zs : List Int) (hreach : zs.length * 8 ≤ 140737488351232) (w : World) (hBs : Bs < w.heap.size) (hn₀ : n₀ ≤ w.heap.size)
    (hc : w.cell? ⟨Bs, 0, none⟩ = some sv) (hI : IntsBelow n₀ w sv zs) :
    SeqStopsK F n Tryz.prog 86 #[.pointer (some ⟨Bs, 0, none⟩)] (fun x : Int => #[Value.int .i64 x]) (Below n₀) (fun ys => ys = zs) (fun pre => pre <+: zs) zs.length w := fun l J Jx W hW _ _ hY h0 => by
  have hc' := (hW.cell (p := ⟨Bs, 0, none⟩) hBs).trans hc
  rcases hI.below (hW.mono hn₀) with ⟨a, c, rfl, rfl⟩ | ⟨b, off, cap, rfl, hb, hcs⟩
  · exact (values1S_nil_in F n h7 hro l Bs a c J W hc' h0).mono fun e W' ⟨he, hj⟩ => ⟨he, .inl ⟨_, rfl, hj⟩⟩
  · refine (values1S_in F n h7 hro hn l Bs n₀ b off zs.length cap zs hreach hb J Jx hY W hc' hcs h0).mono ?_
    rintro e W' ⟨he, ⟨ys, rfl, hj⟩ | ⟨pre, ⟨k, hk, rfl⟩, hj⟩⟩
    · exact ⟨he, .inl ⟨_, upto_all zs, hj⟩⟩
    · exact ⟨he, .inr ⟨_, by rw [upto_take zs hk]; exact List.take_prefix _ _, hj⟩⟩


set_option maxRecDepth 100000 in
set_option maxHeartbeats 2000000 in
theorem appendSeqS_in (F : Fence) (n : Nat) (h3 : F.fn 116) (h7 : F.fn 86) (hro : F.round = none) (hn : 3 ≤ n) (Bs : Nat) (sv : Value) (zs : List Int) (hlen : zs.length ≤ 1000000) (w : World) (hBs : Bs < w.heap.size)
    (hc : w.cell? ⟨Bs, 0, none⟩ = some sv) (hI : IntsBelow w.heap.size w sv zs) :
    CallsIn F n Tryz.prog 116 #[.slice none 0 0, .func (.func 86) #[] #[.pointer (some ⟨Bs, 0, none⟩)]] w (ApPost w zs) := by
  have h1 : 1 ≤ n := by omega
  obtain ⟨i0, hi, hz0, hz1, hz2⟩ := info_parts intInfo
  refine callsIn_of_wp_marks Tryz.func116 rfl h3 ?_ hro
  simp only [Tryz.ntmps116, List.size_toArray, List.length_cons, List.length_nil, Nat.reduceAdd, Nat.reduceSub, Array.replicate_succ, Array.replicate_zero, List.push_toArray, List.append_toArray, List.nil_append, List.cons_append]
  gi_wp2
  have bO := Boxed.new w 25 (.slice none 0 0)
  have hB0 : Below w.heap.size w (w.alloc (.cells #[.slice none 0 0] 25)) := (Below.refl _ w).alloc (Nat.le_refl _) _
  refine wpIn_rangeFunc_ownG hro h1 (gf := 86) (lb := #[.pointer (some ⟨Bs, 0, none⟩)]) rfl h7 (enters_of Tryz.func86 (by kernel_rfl) rfl)
    (valuesS_stops F (n - 1) h7 hro (by omega) Bs w.heap.size sv zs (by omega) (w.alloc (.cells #[.slice none 0 0] 25)) (by simp; omega) (by simp) ((hB0.cell (p := ⟨Bs, 0, none⟩) hBs).trans hc) (hI.below hB0)) belowK_t (belowK_b (by simp)) (Below.refl _ _) (fun _ => rfl)
    (fun pre W => (∃ v, Boxed W w.heap.size 25 v ∧ W.ownsRow w.heap.size 3 1 v pre.length (pre.map (Value.int .i64)) ∧ True) ∧ Below w.heap.size w W)
    (fun _ _ _ => False)
    (OwnFrom.and (Own.from (holdsRow_own w.heap.size w.heap.size 25 3 1 (fun pre : List Int => pre.length) (fun pre => pre.map (Value.int .i64)) (fun pre v => True)) _) (ownFrom_below (Nat.le_refl _) (by simp)))
    (fun _ _ _ _ _ hs _ _ => hs)
    ⟨⟨_, bO, World.ownsRow_nil _ _ _ _, trivial⟩, hB0⟩
    (fun x => { tmps := #[.slice none 0 0, .func (.func 86) #[] #[.pointer (some ⟨Bs, 0, none⟩)], .pointer (some ⟨w.heap.size, 0, none⟩), undef, .slice none 0 0, .int .i64 x, .func (.func 86) #[] #[.pointer (some ⟨Bs, 0, none⟩)], .int .i64 x, undef, undef, undef, undef, undef], defers := [] }) ?assign ?body ?done ?stop
  case assign =>
    intro l x W K hK
    gi_wp2
    exact hK
  case body =>
    rintro l pre x W ⟨⟨v, hv, hrow, _⟩, hB⟩ hlt
    have hc := hv.cell
    gi_wp2_with (gi_at_builtin; refine wpListIn_append_own _ rfl _ _ 25 rfl w.heap.size 3 i0 (.int .i64 0) 1 8 Tryz.underlying25 hi hz0 hz1 hz2 rfl (by decide) _ _ _ rfl (hrow.alloc _) ⟨W.heap.size, 0, none⟩ 1 1 [.int .i64 x] rfl rfl (cell_one_new _ _ _) (by simp [Value.oneCell']) (by unfold maxLen; omega) (by omega) (by have := hB.size; simp; omega) ?_; intro v' w1 hown' hgrow _; obtain ⟨g', cap', rfl⟩ := ownsRow_succ hown'; obtain ⟨hv1, hv2, hr2, hk2, hb2⟩ := hv.appended (by decide) hrow hB.size (Nat.le_refl _) hown' hgrow; have hc1 := hv1.cell; have hf1 := hv1.frozen)
    exact ⟨hk2.from _, hb2, ⟨_, hv2, by simpa using hr2, trivial⟩, hB.trans hb2⟩
  case done =>
    rintro D ys W hD rfl ⟨⟨v, hv, hrow, _⟩, hB⟩ hK
    have hc := hv.cell
    gi_wp2
    refine ⟨by simp, .inl ⟨_, _, rfl, run_takeDeferred hK, ?_⟩⟩
    exact ⟨_, results_tmp rfl _ _ _, v, rfl, ownsRow_putObj hrow _ hK rfl, hB.trans (belowK_b (w := w) (Nat.le_refl _) W D _ _ (by simp at hD; omega) hK rfl rfl)⟩
  case stop =>
    rintro D c pre W _ _ h _
    exact h.elim


theorem valuesS_any (oa : Option Addr) (n c : Nat) (w : World) :
    Calls Tryz.prog 45 #[.slice oa n c] w fun e w' => e = .returned (.func (.func 86) #[] #[.pointer (some ⟨w.heap.size, 0, none⟩)]) ∧ w' = w.alloc (.cells #[.slice oa n c] 26) := by
  go_enter Tryz.func45, Tryz.ntmps45
  go_wp2_with fail
  go_ret
  exact ⟨rfl, rfl⟩


theorem appendSeqS_any (Bs : Nat) (sv : Value) (zs : List Int) (hlen : zs.length ≤ 1000000) (w : World) (hBs : Bs < w.heap.size) (hc : w.cell? ⟨Bs, 0, none⟩ = some sv) (hI : IntsBelow w.heap.size w sv zs) :
    Calls Tryz.prog 116 #[.slice none 0 0, .func (.func 86) #[] #[.pointer (some ⟨Bs, 0, none⟩)]] w (ApPost w zs) :=
  (callsIn_wide (n := 3)).1 (appendSeqS_in Go.Fence.wide 3 trivial trivial rfl (by omega) Bs sv zs hlen w hBs hc hI)

theorem collectS_any (Bs : Nat) (sv : Value) (zs : List Int) (hlen : zs.length ≤ 1000000) (w : World) (hBs : Bs < w.heap.size) (hc : w.cell? ⟨Bs, 0, none⟩ = some sv) (hI : IntsBelow w.heap.size w sv zs) :
    Calls Tryz.prog 84 #[.func (.func 86) #[] #[.pointer (some ⟨Bs, 0, none⟩)]] w (ApPost w zs) := by
  go_enter Tryz.func84, Tryz.ntmps84
  go_wp2_with fail
  refine (appendSeqS_any Bs sv zs hlen _ hBs hc hI).mono ?_
  rintro e w' ⟨v, rfl, ho, hb⟩
  go_wp2_with fail
  go_ret
  exact ⟨v, rfl, ho, hb⟩


theorem sortedVS_any (Bs : Nat) (sv : Value) (zs : List Int) (hz : ∀ x ∈ zs, I64 x) (hlen : zs.length ≤ 1000000) (w : World) (hBs : Bs < w.heap.size) (hc : w.cell? ⟨Bs, 0, none⟩ = some sv) (hI : IntsBelow w.heap.size w sv zs) :
    Calls Tryz.prog 44 #[.func (.func 86) #[] #[.pointer (some ⟨Bs, 0, none⟩)]] w (SortedPost w zs) := by
  go_enter Tryz.func44, Tryz.ntmps44
  go_wp2_with fail
  refine (collectS_any Bs sv zs hlen _ hBs hc hI).mono ?_
  rintro e w2 ⟨v, rfl, ho, hb⟩
  rcases OwnQ.of_row ho hz with ⟨rfl, rfl⟩ | hq
  · go_wp2_with fail
    refine (Tryz.slices_Sort_int_none none 0 w2).mono ?_
    rintro e w3 ⟨rfl, rfl⟩
    go_wp2_with fail
    go_ret
    exact ⟨none, 0, rfl, by simp, by simpa using SliceR.nil _ _ _ _ _, hb⟩
  · go_wp2_with fail
    refine (sortI_any _ _ _ _ _ hq (by omega)).mono ?_
    rintro e w3 ⟨rfl, hq2, hg⟩
    obtain ⟨oa, c, rfl, hc2, hs⟩ := hq2.slice
    go_wp2_with fail
    go_ret
    rw [List.length_mergeSort] at hc2
    exact ⟨oa, c, by simp, hc2, hs.all intR_ok (by omega), hb.grown hg hb.size fun k hk => (hq.block k hk).1⟩


end Go.Proofs.YtpgopmmobbemcaaGreat

set_option linter.unusedVariables false
set_option linter.unusedSimpArgs false
set_option linter.unnecessarySimpa false
namespace Go.Proofs.YtpgopmmobbemcaaGreat
open Go.RowKit

def cheapR (n : Int) (es : List Edg) (f : List Nat) (s : List Int) : List Int × Int × Int :=
  if tErr n es f s = 0 then (if dErr n (cheapS s) = 0 then (cheapS s, costS (cheapS s), 0) else ([], 0, 11)) else ([], 0, tErr n es f s)
def ScrPost (w : World) (r : List Int × Int × Int) (e : Ending) (w' : World) : Prop :=
  ∃ v, e = .returned (.tuple #[v, .int .i64 r.2.1, .int .i64 r.2.2]) ∧ OwnS intR 1 w.heap.size 3 Non w' v r.1 ∧ Below w.heap.size w w'
theorem raised_lst {N : Nat} {s : List Int} (hN : s.length = N) (m : Int) : lst N (fun v => s.getD v 0 - m) = raisedS s (-m) := by
  apply List.ext_getElem?
  intro i
  unfold raisedS
  rw [List.getElem?_map]
  by_cases hi : i < N
  · rw [lst_get _ hi, List.getD_eq_getElem?_getD, List.getElem?_eq_getElem (by omega)]
    rfl
  · rw [List.getElem?_eq_none (by rw [lst_len]; omega), List.getElem?_eq_none (by omega)]
    rfl
set_option maxRecDepth 100000 in
set_option maxHeartbeats 4000000 in
theorem cheapest_any (n : Int) (es : List Edg) (oe : Option Addr) (c : Nat) (F : Foot) (w : World) (hs : SliceR edgR 3 F w oe es) (hc : es.length ≤ c) (hc2 : es.length ≤ 1000)
    (f : List Nat) (hU : Hid (gErr n es = 0 → Uf f (eL es))) (d : List Int) (od : Option Addr) (cd : Nat) (G : Foot) (hd : SliceR intR 1 G w od d) (hdc : d.length ≤ cd) (hdl : d.length ≤ 9223372036854775807) :
    Calls Tryz.prog 13 #[.agg #[.int .i64 n, .slice oe es.length c], .slice od d.length cd] w (ScrPost w (cheapR n es f d)) := by
  have hb0 := bnew (Below.refl w.heap.size w) (.cells #[.int .i64 n, .slice oe es.length c] 24)
  have bxx := Box.new w [.int .i64 n, .slice oe es.length c] 24
  have HK := hide (dscripted_any n es oe c F _ (hs.below edgR_ok hb0) hc (by omega) f hU d od cd G (hd.below intR_ok hb0) hdc hdl)
  have HD := hide hd
  have HS := hide hs
  have HB := hide hb0
  have HX := hide bxx
  clear hs hd hb0 bxx
  go_enter Tryz.func13, Tryz.ntmps13
  go_wp2_with fail
  refine HK.out.mono ?_
  rintro e w2 ⟨rfl, hb2⟩
  have HB2 := hide (below_then HB.out hb2)
  have HX2 := hide (HX.out.below hb2)
  clear hb2
  by_cases hV : tErr n es f d = 0
  · obtain ⟨N, rfl, hT⟩ := tErr_ok hV
    have hR : Hid (cheapR N es f d = if dErr N (cheapS d) = 0 then (cheapS d, costS (cheapS d), 0) else ([], 0, 11)) := if_pos hV
    have HT := hide hT
    have h12 := hT.n12
    have hdN := hT.len
    have HVL := hide (valuesS_any od d.length cd w2)
    have HSO : Hid (∀ w3, w3 = w2.alloc (.cells #[.slice od d.length cd] 26) → Calls Tryz.prog 44 #[.func (.func 86) #[] #[.pointer (some ⟨w2.heap.size, 0, none⟩)]] w3 (SortedPost w3 d)) := fun w3 e => by
      subst e
      have hdw := HD.out.below intR_ok HB2.out
      refine sortedVS_any w2.heap.size (.slice od d.length cd) d (fun x hx => by have := HT.out.dB x hx; unfold I64; omega) (by omega) _ (by simp) ?_ ((IntsBelow.of hdw).below (bnew (Below.refl _ _) _) |>.mono (by simp))
      simpa using (Box.new w2 [.slice od d.length cd] 26).cell 0
    have HV := hide hV
    rw [hV]
    rw [hdN] at HVL HSO hdc ⊢
    clear hV hT hdl
    go_wp2_with fail
    refine HVL.out.mono ?_
    rintro e w3 ⟨rfl, hw3⟩
    have HB3 : Hid (Below w.heap.size w w3) := by rw [hw3]; exact HB2.out.alloc HB2.out.size _
    have HSO3 := hide (HSO.out w3 hw3)
    have HX3 : Hid (Box w3 w.heap.size [.int .i64 N, .slice oe es.length c] 24) := by rw [hw3]; exact HX2.out.next _
    clear hw3
    go_wp2_with fail
    refine HSO3.out.mono ?_
    rintro e w4 ⟨oa, c4, rfl, hc4, hs4, hb4⟩
    rw [hdN] at hc4 ⊢
    have HB4 := hide (below_then HB3.out hb4)
    have HX4 := hide (HX3.out.below hb4)
    have hml : (d.mergeSort fun x y => decide (x ≤ y)).length = N := by rw [List.length_mergeSort]; exact hdN
    obtain ⟨m, _, hm, _, bm, om, hoa, _, cm⟩ := hs4.int_at (i := N / 2) (by rw [hml]; omega)
    have hperm := List.mergeSort_perm d fun x y => decide (x ≤ y)
    have hmid : MidN d m := mid_sorted hperm ((List.pairwise_mergeSort (le := fun x y : Int => decide (x ≤ y)) (by intro a b c; simp; omega) (by intro a b; simp; omega) d).imp (by simp)) (by rw [hdN]; exact hm)
    have HCH : Hid (cheapS d = raisedS d (-m)) := cheap_mid hmid
    have hmb := HT.out.dB m (hperm.mem_iff.1 (List.mem_of_getElem? hm))
    subst hoa
    have hdw := HD.out.below intR_ok HB4.out
    have HDW := hide hdw
    have HDN := hide hdN
    clear hb4 hs4 hml hm hperm hmid hdw hdN
    obtain ⟨h2, hh2⟩ : ∃ h2 : Nat, h2 = N / 2 := ⟨_, rfl⟩
    have hh3 : 2 * h2 ≤ N ∧ N < 2 * h2 + 2 := by omega
    rw [← hh2] at cm
    clear hh2
    have hdiv : (N : Int).tdiv 2 = (h2 : Int) := by
      rw [Int.tdiv_eq_ediv_of_nonneg (by omega)]
      omega
    have hlt2 : (h2 : Int) < (N : Int) := by omega
    have hge2 : (0 : Int) ≤ (h2 : Int) := by omega
    have hwr : wrap64 (h2 : Int) = (h2 : Int) := by unfold wrap64; omega
    go_wp2_with (at_make; refine wpList_make_row (f := Value.int .i64) _ rfl _ _ 26 rfl 3 (0 : Int) 8 Tryz.underlying26 intInfo rfl .i64 .i64 _ _ N rfl rfl rfl rfl (by omega) (by unfold maxLen; omega) (fun w5 hrow5 hb5 hg5 => ?_))
    clear hdiv hwr cm
    have HR5 := hide hrow5
    have HB5 := hide (below_then HB4.out hb5)
    have HX5 := hide (HX4.out.below hb5)
    have HDW5 := hide (HDW.out.below intR_ok hb5)
    have hw4 := HB4.out.size
    have Hb5 := hide hb5
    have HML := hide hmb
    obtain ⟨g, hg⟩ : ∃ g, g = w4.heap.size := ⟨_, rfl⟩
    have HG := hide hg
    rw [← hg] at HR5 hw4 ⊢
    clear hrow5 hb5 hg5 hg hlt2 hge2
    go_loopg [11, 12, 33] N (fun gm _ _ iv wx => ∃ i : Nat, i ≤ N ∧ gm = N - i ∧ iv = .int .i64 i ∧ Hid (Row1 (Value.int .i64) wx g 3 (lst N fun v => if v < i then d.getD v 0 - m else 0) []) ∧ Hid (Below g w5 wx))
    case atStart =>
      refine ⟨0, by omega, by omega, rfl, ?_, Below.refl _ _⟩
      show Row1 _ _ _ _ _ _
      rw [show (lst N fun v => if v < 0 then d.getD v 0 - m else 0) = List.replicate N 0 from ?_]
      · exact HR5.out
      · apply List.ext_getElem?
        intro i
        by_cases hi : i < N
        · rw [lst_get _ hi, List.getElem?_replicate, if_pos hi, if_neg (Nat.not_lt_zero i)]
        · rw [List.getElem?_eq_none (by rw [lst_len]; omega), List.getElem?_eq_none (by simp; omega)]
    case round =>
      obtain ⟨i, hi, hgm, rfl, HRi, HBi⟩ := hrel
      have HGM := hide hgm
      clear hgm
      by_cases hlt : i < N
      · have HBW : Hid (Below w4.heap.size w4 wr) := by
          have h5 := HBi.out
          rw [HG.out] at h5
          exact Hb5.out.trans h5
        have l0 : wr.cell? ⟨g, i, none⟩ = some (.int .i64 0) := by
          have h5 := HRi.out.cell (lst_get (fun v => if v < i then d.getD v 0 - m else 0) hlt)
          simp only [Nat.lt_irrefl, if_false] at h5
          exact h5
        have fz := HRi.out.free i
        obtain ⟨x, _, hx, _, bd, od2, hod, _, cx⟩ := (HDW.out.below intR_ok HBW.out).int_at (i := i) (by rw [HDN.out]; exact hlt)
        have hxb := HT.out.dB x (List.mem_of_getElem? hx)
        have hml := HML.out
        have HP : Hid (Row1 (Value.int .i64) (wr.setCell ⟨g, i, none⟩ (.int .i64 (x - m))) g 3 (lst N fun v => if v < i + 1 then d.getD v 0 - m else 0) []) := by
          have h5 := HRi.out.put (i := i) (by rw [lst_len]; exact hlt) (x - m)
          rw [lst_set] at h5
          rw [lst_congr (g := updF (fun v => if v < i then d.getD v 0 - m else 0) i (x - m)) fun v hv => ?_]
          · exact h5
          · unfold updF
            by_cases e : v = i
            · subst e
              rw [if_pos (by omega), if_pos rfl, List.getD_eq_getElem?_getD, hx]
              rfl
            · rw [if_neg e]
              show _ = if v < i then d.getD v 0 - m else 0
              by_cases h : v < i
              · rw [if_pos h, if_pos (by omega)]
              · rw [if_neg h, if_neg (by omega)]
        have HQ : Hid (Below g w5 (wr.setCell ⟨g, i, none⟩ (.int .i64 (x - m)))) := HBi.out.setCell (Nat.le_refl _) _
        have hi0 : (0 : Int) ≤ i := by omega
        have hi1 : (i : Int) < N := by omega
        subst hod
        clear hx
        go_wp2_with fail
        go_roundg (N - (i + 1))
        case rel => exact ⟨i + 1, by omega, rfl, by go_num, HP, HQ⟩
        case measure => rw [HGM.out]; omega
      · have hie : i = N := by omega
        have HBW : Hid (Below w4.heap.size w4 wr) := by
          have h5 := HBi.out
          rw [HG.out] at h5
          exact Hb5.out.trans h5
        have HBWw : Hid (Below w.heap.size w wr) := below_then HB4.out HBW.out
        have hRN : Row1 (Value.int .i64) wr g 3 (cheapS d) [] := by
          rw [HCH.out, ← raised_lst HDN.out]
          have h5 := HRi.out
          rw [hie, lst_congr (g := fun v => d.getD v 0 - m) fun v hv => if_pos hv] at h5
          exact h5
        have hcl : (cheapS d).length = N := by rw [HCH.out]; unfold raisedS; rw [List.length_map]; exact HDN.out
        have hcb : ∀ x ∈ cheapS d, -2097152 ≤ x ∧ x ≤ 2097152 := fun x hx => by
          rw [HCH.out] at hx
          unfold raisedS at hx
          obtain ⟨y, hy, rfl⟩ := List.mem_map.1 hx
          have h5 := HT.out.dB y hy
          have h6 := HML.out
          omega
        have hsl : ∀ W, Below wr.heap.size wr W → SliceR intR 1 All W (some ⟨g, 0, none⟩) (cheapS d) := fun W hW => (hRN.below hW).ints (fun y hy => by have := hcb y hy; unfold I64; omega) trivial
        have hck := fcheckG_any N es oe c F wr (HS.out.below edgR_ok HBWw.out) hc (by omega) (cheapS d) (some ⟨g, 0, none⟩) N All (hsl wr (Below.refl _ _)) (by omega) (by omega)
        have hco : ∀ W, Below wr.heap.size wr W → Calls Tryz.prog 47 #[.slice (some ⟨g, 0, none⟩) N N] W fun e w' => e = .returned (.int .i64 (costS (cheapS d))) ∧ W = w' := fun W hW => by
          have h5 := cost_any (cheapS d) (some ⟨g, 0, none⟩) N All W (hsl W hW) (by omega) (by omega) (fun x hx => by have := hcb x hx; omega)
          rw [hcl] at h5
          exact h5
        rw [hcl] at hck
        have hfe : fErr N es (cheapS d) = dErr N (cheapS d) := if_pos HT.out.g
        rw [hfe] at hck
        have HCK := hide hck
        have HCO := hide hco
        have HRN := hide hRN
        have HCL := hide hcl
        have HCB := hide hcb
        have bx := (HX5.out.under HBi.out (by have := HX4.out.lt; have := HG.out; omega))
        have y0 := bx.cell 0
        have y1 := bx.cell 1
        simp only [List.getElem?_cons_zero, List.getElem?_cons_succ] at y0 y1
        clear hie hRN hcl hcb hsl hck hco hfe bx
        go_wp2_with fail
        refine HCK.out.mono ?_
        rintro e w6 ⟨rfl, hb6⟩
        have HB6 := hide (below_then HBWw.out hb6)
        have HRN6 := hide (HRN.out.below hb6)
        have HCO6 := hide (HCO.out w6 hb6)
        clear hb6
        by_cases hz : dErr N (cheapS d) = 0
        · have hR2 : Hid (cheapR N es f d = (cheapS d, costS (cheapS d), 0)) := by show _ = _; rw [hR.out, if_pos hz]
          rw [hz]
          clear hz
          go_wp2_with fail
          refine HCO6.out.mono ?_
          rintro e w7 ⟨rfl, rfl⟩
          go_wp2_with fail
          go_ret3
          refine ⟨_, by rw [hR2.out]; rfl, ?_, HB6.out⟩
          rw [hR2.out, ← HCL.out]
          exact HRN6.out.ownInts (fun x hx => by have := HCB.out x hx; unfold I64; omega) (by have := HB4.out.size; have := HG.out; omega) (by simp) (by unfold maxLen; have := HCL.out; omega)
        · have hR2 : Hid (cheapR N es f d = ([], 0, 11)) := by show _ = _; rw [hR.out, if_neg hz]
          have hq : (dErr N (cheapS d) != 0) = true := by simpa using hz
          clear hz
          go_wp2_with fail
          go_ret3
          exact ⟨_, by rw [hR2.out]; rfl, by rw [hR2.out]; exact OwnS.nil _ _ _ _ _ _, HB6.out⟩
  · have hR : Hid (cheapR n es f d = ([], 0, tErr n es f d)) := if_neg hV
    have hq : (tErr n es f d != 0) = true := by simpa using hV
    go_wp2_with fail
    go_ret3
    exact ⟨_, by rw [hR.out]; rfl, by rw [hR.out]; exact OwnS.nil _ _ _ _ _ _, HB2.out⟩
end Go.Proofs.YtpgopmmobbemcaaGreat

set_option linter.unusedVariables false
set_option linter.unusedSimpArgs false
set_option linter.unnecessarySimpa false
namespace Go.Proofs.YtpgopmmobbemcaaGreat
open Go.RowKit


/-- The order of two lists of the same length. -/
def ordE : List Int → List Int → Int
  | [], _ => 0
  | _, [] => 0
  | x :: l, y :: m => if x < y then -1 else if y < x then 1 else ordE l m
theorem ordE_zero : ∀ {l m : List Int}, l.length = m.length → (ordE l m = 0 ↔ l = m)
  | [], [], _ => by simp [ordE]
  | x :: l, y :: m, h => by
    have ih := ordE_zero (l := l) (m := m) (by simpa using h)
    unfold ordE
    by_cases h1 : x < y
    · rw [if_pos h1]; simp; omega
    · by_cases h2 : y < x
      · rw [if_neg h1, if_pos h2]; simp; omega
      · rw [if_neg h1, if_neg h2, ih]
        have : x = y := by omega
        simp [this]
  | [], _ :: _, h => by simp at h
  | _ :: _, [], h => by simp at h

set_option maxHeartbeats 400000 in
theorem order_any (l m : List Int) (oa ob : Option Addr) (c d : Nat) (F : Foot) (w : World) (hs : SliceR intR 1 F w oa l) (ht : SliceR intR 1 F w ob m) (hc : l.length ≤ c) (hc2 : l.length ≤ 9223372036854775807) (hlen : Hid (l.length = m.length)) :
    Calls Tryz.prog 78 #[.slice oa l.length c, .slice ob m.length d] w fun e w' => e = .returned (.int .i64 (ordE l m)) ∧ Below w.heap.size w w' := by
  go_enter Tryz.func78, Tryz.ntmps78
  go_wp2_with fail
  go_loopw [5] (fun i wr => ∃ k : Nat, k ≤ l.length ∧ i = .int .i64 k ∧ Hid (ordE l m = ordE (l.drop k) (m.drop k)) ∧ Below w.heap.size w wr) (fun i _ => l.length - (intOf i).toNat)
  case atStart => exact ⟨0, by omega, rfl, rfl, Below.refl _ _⟩
  case round =>
    obtain ⟨k, hk, rfl, HE, hb⟩ := hrel
    by_cases hlt : k < l.length
    · obtain ⟨x, hd, _, _, b, off, rfl, _, c0⟩ := (hs.below intR_ok hb).int_at hlt
      have hlt2 : k < m.length := by rw [← hlen.out]; exact hlt
      obtain ⟨x', hd', _, _, b', off', rfl, _, c0'⟩ := (ht.below intR_ok hb).int_at hlt2
      have HE2 : Hid (ordE l m = if x < x' then -1 else if x' < x then 1 else ordE (l.drop (k + 1)) (m.drop (k + 1))) := by show _ = _; rw [HE.out, hd, hd']; rfl
      clear hd hd' hs ht
      by_cases hx : x < x'
      · have q1 : decide (x < x') = true := by simp [hx]
        have HR : Hid (ordE l m = -1) := by show _ = _; rw [HE2.out, if_pos hx]
        clear hx
        go_wp2_with fail
        go_quiet (fail)
        go_wp2_with fail
        go_ret
        exact ⟨ret_int HR.out.symm, below_drewN hb _⟩
      · have q1 : decide (x < x') = false := by simp; omega
        by_cases hx2 : x' < x
        · have q2 : decide (x' < x) = true := by simp [hx2]
          have HR : Hid (ordE l m = 1) := by show _ = _; rw [HE2.out, if_neg hx, if_pos hx2]
          clear hx hx2
          go_wp2_with fail
          go_quiet (fail)
          go_wp2_with fail
          go_quiet (fail)
          go_wp2_with fail
          go_ret
          exact ⟨ret_int HR.out.symm, below_drewN (below_drewN hb _) _⟩
        · have q2 : decide (x' < x) = false := by simp; omega
          have HR : Hid (ordE l m = ordE (l.drop (k + 1)) (m.drop (k + 1))) := by show _ = _; rw [HE2.out, if_neg hx, if_neg hx2]
          clear hx hx2
          go_wp2_with fail
          go_quiet (fail)
          go_wp2_with fail
          go_quiet (fail)
          go_wp2_with fail
          go_roundw
          case rel => exact ⟨k + 1, by omega, by go_num, HR, by first | exact below_drewN hb _ | exact below_drewN (below_drewN hb _) _⟩
          case measure => simp [intOf]; omega
    · have hke : k = l.length := by omega
      have HR : Hid (ordE l m = 0) := by show _ = _; rw [HE.out, hke, List.drop_length]; unfold ordE; rfl
      clear hke
      go_wp2_with fail
      go_ret
      exact ⟨ret_int HR.out.symm, hb⟩

theorem same_any (l m : List Int) (oa ob : Option Addr) (c d : Nat) (F : Foot) (w : World) (hs : SliceR intR 1 F w oa l) (ht : SliceR intR 1 F w ob m) (hc : l.length ≤ c) (hc2 : l.length ≤ 9223372036854775807) :
    Calls Tryz.prog 38 #[.slice oa l.length c, .slice ob m.length d] w fun e w' => e = .returned (.bool (decide (l = m))) ∧ Below w.heap.size w w' := by
  by_cases hlen : l.length = m.length
  · have hl' : ((l.length : Int) != m.length) = false := by simp [hlen]
    have hO := order_any l m oa ob c d F w hs ht hc hc2 hlen
    by_cases hz : ordE l m = 0
    · have HZ : Hid (decide (l = m) = true) := decide_eq_true ((ordE_zero hlen).1 hz)
      rw [hz] at hO
      replace hlen := hide hlen
      clear hz
      go_enter Tryz.func38, Tryz.ntmps38
      go_wp2_with fail
      refine hO.mono ?_
      rintro e w' ⟨rfl, hb⟩
      go_wp2_with fail
      go_ret
      exact ⟨ret_bool HZ.out.symm, hb⟩
    · have HZ : Hid (decide (l = m) = false) := decide_eq_false fun h => hz ((ordE_zero hlen).2 h)
      have q1 : (ordE l m == 0) = false := by simpa using hz
      replace hlen := hide hlen
      clear hz
      go_enter Tryz.func38, Tryz.ntmps38
      go_wp2_with fail
      refine hO.mono ?_
      rintro e w' ⟨rfl, hb⟩
      go_wp2_with fail
      go_ret
      exact ⟨ret_bool HZ.out.symm, hb⟩
  · have hl' : ((l.length : Int) != m.length) = true := by simp; omega
    have HL : Hid (decide (l = m) = false) := decide_eq_false fun h => hlen (by rw [h])
    clear hlen
    go_enter Tryz.func38, Tryz.ntmps38
    go_wp2_with fail
    go_ret
    exact ⟨ret_bool HL.out.symm, Below.refl _ _⟩
theorem sameS_any (l m : List Int) (oa ob : Option Addr) (c d : Nat) (F : Foot) (w : World) (hs : SliceR intR 1 F w oa l) (ht : SliceR intR 1 F w ob m) (hc : l.length ≤ c) (hc2 : l.length ≤ 9223372036854775807) :
    Calls Tryz.prog 15 #[.slice oa l.length c, .slice ob m.length d] w fun e w' => e = .returned (.bool (decide (l = m))) ∧ Below w.heap.size w w' := by
  have hO := same_any l m oa ob c d F w hs ht hc hc2
  go_enter Tryz.func15, Tryz.ntmps15
  go_wp2_with fail
  refine hO.mono ?_
  rintro e w' ⟨rfl, hb⟩
  go_wp2_with fail
  go_ret
  exact ⟨rfl, hb⟩

end Go.Proofs.YtpgopmmobbemcaaGreat

set_option linter.unusedVariables false
set_option linter.unusedSimpArgs false
set_option linter.unnecessarySimpa false
namespace Go.Proofs.YtpgopmmobbemcaaGreat
open Go.RowKit

def triE : List Edg := [⟨0, 1, 1⟩, ⟨0, 2, 1⟩, ⟨1, 2, 1⟩]

theorem i64_s {x : Int} (h : 0 ≤ x ∧ x ≤ 100) : I64 x := by unfold I64; omega
theorem triE_lit (B : Nat) (w : World) (hB : B ≤ w.heap.size) : SliceR edgR 3 (Ge B) (w.alloc (.cells #[.int .i64 0, .int .i64 1, .int .i64 1, .int .i64 0, .int .i64 2, .int .i64 1, .int .i64 1, .int .i64 2, .int .i64 1] 123)) (some ⟨w.heap.size, 0, none⟩) triE :=
  SliceR.lit (F := Ge B) edgR_ok w 123 [[.int .i64 0, .int .i64 1, .int .i64 1], [.int .i64 0, .int .i64 2, .int .i64 1], [.int .i64 1, .int .i64 2, .int .i64 1]] _ (fun i y hy => by
    match i, hy with
    | 0, hy => simp [triE] at hy; subst hy; exact ⟨_, rfl, rfl, i64_s (by decide), i64_s (by decide), i64_s (by decide)⟩
    | 1, hy => simp [triE] at hy; subst hy; exact ⟨_, rfl, rfl, i64_s (by decide), i64_s (by decide), i64_s (by decide)⟩
    | 2, hy => simp [triE] at hy; subst hy; exact ⟨_, rfl, rfl, i64_s (by decide), i64_s (by decide), i64_s (by decide)⟩
    | i + 3, hy => simp [triE] at hy) rfl (fun _ h => h) hB

set_option maxRecDepth 100000 in
theorem tri18_any (w : World) : Calls Tryz.prog 42 #[] w fun e w' => ∃ g, e = .returned (.agg #[.int .i64 3, .slice (some ⟨g, 0, none⟩) 3 3]) ∧ SliceR edgR 3 (Ge w.heap.size) w' (some ⟨g, 0, none⟩) triE ∧ Below w.heap.size w w' := by
  go_enter Tryz.func42, Tryz.ntmps42
  go_wp2_with fail
  have hb := (Box.new w [.int .i64 3, .slice (some ⟨w.heap.size + 1, 0, none⟩) 3 3] 24).next (.cells #[.int .i64 0, .int .i64 1, .int .i64 1, .int .i64 0, .int .i64 2, .int .i64 1, .int .i64 1, .int .i64 2, .int .i64 1] 123)
  have hl := triE_lit w.heap.size (w.alloc (.cells #[.int .i64 3, .slice (some ⟨w.heap.size + 1, 0, none⟩) 3 3] 24)) (by simp)
  rw [World.size_alloc] at hl
  refine bodyPost_ret (results_cell_row rfl _ _ w.heap.size 24 #[.int .i64 3, .slice (some ⟨w.heap.size + 1, 0, none⟩) 3 3] (0, 0) _ rfl hb Tryz.underlying24 rfl (by kernel_rfl)) rfl ?_
  exact ⟨_, rfl, hl, bnew (bnew (Below.refl _ _) _) _⟩

end Go.Proofs.YtpgopmmobbemcaaGreat

set_option linter.unusedVariables false
set_option linter.unusedSimpArgs false
set_option linter.unnecessarySimpa false
namespace Go.Proofs.YtpgopmmobbemcaaGreat
open Go.RowKit

theorem t43_d : tErr 3 triE (forest triE) [-1, 0, 2] = 0 := by decide +kernel
theorem t43_d2 : tErr 3 triE (forest triE) [-1, 0, 1] = 0 := by decide +kernel
theorem t43_debt : debtR 3 triE (forest triE) [-1, 0, 2] = (1, 1, 0) := by decide +kernel
theorem t43_cheap : cheapR 3 triE (forest triE) [-1, -1, 0] = ([0, 0, 1], 1, 0) := by decide +kernel
theorem t43_sol : solveR 3 triE (forest triE) [-1, 0, 2] 3 true = ([0, 0, 1], 1, 0) := by decide +kernel
theorem t43_sol2 : solveR 3 triE (forest triE) [-1, 0, 1] 8 false = ([], 0, 6) := by decide +kernel
theorem gRun_tri (k : Nat) : gRun 3 triE [0] (k + 3) 0 (fun v => [-1, 0, 2].getD v 0) (fun _ => 0) = (true, [-1, -1, 0], 0) := by
  have h : ∀ k, gRun 3 triE [0] (k + 3) 0 (fun v => [-1, 0, 2].getD v 0) (fun _ => 0) = gRun 3 triE [0] (k + 3) 0 (fun v => [-1, 0, 2].getD v 0) (fun _ => 0) := fun _ => rfl
  rfl
theorem gRun_tri2 (k : Nat) : gRun 3 triE [0] (k + 4) 0 (fun v => [-1, 0, 1].getD v 0) (fun _ => 0) = (false, [-1, -1, -1], 0) := by rfl
theorem t43_gre : greedyR 1048576 3 triE (forest triE) [-1, 0, 2] [0] = (true, [-1, -1, 0], 0) := by
  unfold greedyR
  rw [if_neg (by rw [t43_d]; simp), if_neg (by decide)]
  exact gRun_tri 1048573
theorem t43_gre2 : greedyR 1048576 3 triE (forest triE) [-1, 0, 1] [0] = (false, [-1, -1, -1], 0) := by
  unfold greedyR
  rw [if_neg (by rw [t43_d2]; simp), if_neg (by decide)]
  exact gRun_tri2 1048572
theorem t43_win : Winn 3 (linkE triE) (fun v => [-1, 0, 2].getD v 0) := ⟨fun v => if v = 2 then 1 else 0, by decide +kernel⟩
theorem t43_win2 : ¬ Winn 3 (linkE triE) (fun v => [-1, 0, 1].getD v 0) := by
  rintro ⟨s, hs⟩
  have h0 := hs 0 (by omega)
  have h1 := hs 1 (by omega)
  have h2 := hs 2 (by omega)
  have e : ∀ v w, v < 3 → w < 3 → linkE triE v w = if v = w then 0 else 1 := fun v w hv hw => (by decide +kernel : ∀ v, v < 3 → ∀ w, w < 3 → linkE triE v w = if v = w then 0 else 1) v hv w hw
  simp only [app, sumI, e 0 0 (by omega) (by omega), e 0 1 (by omega) (by omega), e 0 2 (by omega) (by omega), e 1 0 (by omega) (by omega), e 1 1 (by omega) (by omega), e 1 2 (by omega) (by omega), e 2 0 (by omega) (by omega), e 2 1 (by omega) (by omega), e 2 2 (by omega) (by omega)] at h0 h1 h2
  simp at h0 h1 h2
  omega
end Go.Proofs.YtpgopmmobbemcaaGreat

set_option linter.unusedVariables false
set_option linter.unusedSimpArgs false
set_option linter.unnecessarySimpa false
namespace Go.Proofs.YtpgopmmobbemcaaGreat
open Go.RowKit

theorem i64_t {x : Int} (h : -100 ≤ x ∧ x ≤ 100) : I64 x := by unfold I64; omega
/-- What awake leans on between its calls. -/
structure T43 (g bx gd : Nat) (W : World) : Prop where
  es : SliceR edgR 3 All W (some ⟨g, 0, none⟩) triE
  ds : SliceR intR 1 All W (some ⟨gd, 0, none⟩) [-1, 0, 2]
  box : Box W bx [.int .i64 3, .slice (some ⟨g, 0, none⟩) 3 3] 24
theorem T43.below {g bx gd : Nat} {W W' : World} (c : T43 g bx gd W) (hb : Below W.heap.size W W') : T43 g bx gd W' :=
  ⟨c.es.below edgR_ok hb, c.ds.below intR_ok hb, c.box.below hb⟩
/-- A list that a call gave. -/
def GivenL (W : World) (v : Value) (l : List Int) : Prop := ∃ oa c, v = .slice oa l.length c ∧ l.length ≤ c ∧ SliceR intR 1 All W oa l
theorem OwnS.givenL {B : Nat} {W : World} {rv : Value} {l : List Int} (h : OwnS intR 1 B 3 Non W rv l) : GivenL W rv l := by
  obtain ⟨oa, c, e, hc, hs⟩ := h.slice intR_ok
  exact ⟨oa, c, e, hc, hs.all intR_ok (by decide)⟩
theorem GivenL.below {W W' : World} {v : Value} {l : List Int} (h : GivenL W v l) (hb : Below W.heap.size W W') : GivenL W' v l := by
  obtain ⟨oa, c, e, hc, hs⟩ := h
  exact ⟨oa, c, e, hc, hs.below intR_ok hb⟩
theorem hU43 : Hid (gErr 3 triE = 0 → Uf (forest triE) (eL triE)) := forest_ok 3 triE
section
variable {g bx gd : Nat} {W : World} (C : T43 g bx gd W)
include C
theorem tri43_debt : Calls Tryz.prog 23 #[.agg #[.int .i64 3, .slice (some ⟨g, 0, none⟩) 3 3], .slice (some ⟨gd, 0, none⟩) 3 3] W (Int3Post W (1, 1, 0)) := by
  have h5 := debt_any 3 triE (some ⟨g, 0, none⟩) 3 All W C.es (by decide) (by decide) (forest triE) hU43 [-1, 0, 2] (some ⟨gd, 0, none⟩) 3 All C.ds (by decide) (by decide)
  rw [t43_debt] at h5
  exact h5
theorem tri43_solve : Calls Tryz.prog 20 #[.agg #[.int .i64 3, .slice (some ⟨g, 0, none⟩) 3 3], .slice (some ⟨gd, 0, none⟩) 3 3, .int .i64 3] W fun e w' => ∃ v, e = .returned (.tuple #[v, .int .i64 1, .int .i64 0]) ∧ GivenL w' v [0, 0, 1] ∧ Below W.heap.size W w' := by
  refine (solve_any 3 triE (some ⟨g, 0, none⟩) 3 All W C.es (by decide) (by decide) (forest triE) hU43 [-1, 0, 2] (some ⟨gd, 0, none⟩) 3 All C.ds (by decide) (by decide) (fun _ => ⟨by decide, by decide, by decide⟩) 3 (i64_t (by decide))).mono ?_
  rintro e w' ⟨b, hb, oa, c, rfl, hc, hs, hbb⟩
  have hbt : b = true := (hb t43_d).2 t43_win
  subst hbt
  rw [t43_sol] at hc hs ⊢
  exact ⟨_, rfl, ⟨oa, c, rfl, hc, hs⟩, hbb⟩
theorem tri43_solve2 (oa : Option Addr) (hd : SliceR intR 1 All W oa [-1, 0, 1]) : Calls Tryz.prog 20 #[.agg #[.int .i64 3, .slice (some ⟨g, 0, none⟩) 3 3], .slice oa 3 3, .int .i64 8] W fun e w' => ∃ v, e = .returned (.tuple #[v, .int .i64 0, .int .i64 6]) ∧ Below W.heap.size W w' := by
  refine (solve_any 3 triE (some ⟨g, 0, none⟩) 3 All W C.es (by decide) (by decide) (forest triE) hU43 [-1, 0, 1] oa 3 All hd (by decide) (by decide) (fun _ => ⟨by decide, by decide, by decide⟩) 8 (i64_t (by decide))).mono ?_
  rintro e w' ⟨b, hb, oa, c, rfl, hc, hs, hbb⟩
  have hbt : b = false := by
    cases b with
    | false => rfl
    | true => exact absurd ((hb t43_d2).1 rfl) t43_win2
  subst hbt
  rw [t43_sol2]
  exact ⟨_, rfl, hbb⟩
theorem tri43_greedy (op : Option Addr) (hp : SliceR intR 1 All W op [0]) : Calls Tryz.prog 17 #[.agg #[.int .i64 3, .slice (some ⟨g, 0, none⟩) 3 3], .slice (some ⟨gd, 0, none⟩) 3 3, .slice op 1 1] W fun e w' => ∃ v, e = .returned (.tuple #[.bool true, v, .int .i64 0]) ∧ GivenL w' v [-1, -1, 0] ∧ Below W.heap.size W w' := by
  refine (greedy_any 3 triE (some ⟨g, 0, none⟩) 3 All W C.es (by decide) (by decide) (forest triE) hU43 [-1, 0, 2] (some ⟨gd, 0, none⟩) 3 All C.ds (by decide) (by decide) [0] op 1 All hp (by decide) (by decide)).mono ?_
  rintro e w' ⟨v, rfl, ho, hb⟩
  rw [t43_gre] at ho ⊢
  exact ⟨v, rfl, ho.givenL, hb⟩
theorem tri43_greedy2 (oa op : Option Addr) (hd : SliceR intR 1 All W oa [-1, 0, 1]) (hp : SliceR intR 1 All W op [0]) : Calls Tryz.prog 17 #[.agg #[.int .i64 3, .slice (some ⟨g, 0, none⟩) 3 3], .slice oa 3 3, .slice op 1 1] W fun e w' => ∃ v, e = .returned (.tuple #[.bool false, v, .int .i64 0]) ∧ GivenL w' v [-1, -1, -1] ∧ Below W.heap.size W w' := by
  refine (greedy_any 3 triE (some ⟨g, 0, none⟩) 3 All W C.es (by decide) (by decide) (forest triE) hU43 [-1, 0, 1] oa 3 All hd (by decide) (by decide) [0] op 1 All hp (by decide) (by decide)).mono ?_
  rintro e w' ⟨v, rfl, ho, hb⟩
  rw [t43_gre2] at ho ⊢
  exact ⟨v, rfl, ho.givenL, hb⟩
theorem tri43_cheap (oa : Option Addr) (c : Nat) (hc : 3 ≤ c) (hd : SliceR intR 1 All W oa [-1, -1, 0]) : Calls Tryz.prog 13 #[.agg #[.int .i64 3, .slice (some ⟨g, 0, none⟩) 3 3], .slice oa 3 c] W fun e w' => ∃ v, e = .returned (.tuple #[v, .int .i64 1, .int .i64 0]) ∧ GivenL w' v [0, 0, 1] ∧ Below W.heap.size W w' := by
  refine (cheapest_any 3 triE (some ⟨g, 0, none⟩) 3 All W C.es (by decide) (by decide) (forest triE) hU43 [-1, -1, 0] oa c All hd hc (by decide)).mono ?_
  rintro e w' ⟨v, rfl, ho, hb⟩
  rw [t43_cheap] at ho ⊢
  exact ⟨v, rfl, ho.givenL, hb⟩
end
theorem same_lit (l m : List Int) (oa ob : Option Addr) (c d : Nat) (W : World) (hc : l.length ≤ c) (hl : l.length ≤ 9223372036854775807) (hs : SliceR intR 1 All W oa l) (hm : SliceR intR 1 All W ob m) {j k : Nat} (hj : j = l.length) (hk : k = m.length) :
    Calls Tryz.prog 15 #[.slice oa j c, .slice ob k d] W fun e w' => e = .returned (.bool (decide (l = m))) ∧ Below W.heap.size W w' := by
  subst hj hk
  exact sameS_any l m oa ob c d All W hs hm hc hl
theorem ints_l (W : World) (l : List Int) (hl : ∀ x ∈ l, -100 ≤ x ∧ x ≤ 100) (cs : Array Value) (hcs : cs = (l.map (Value.int .i64)).toArray) : SliceR intR 1 All (W.alloc (.cells cs 3)) (some ⟨W.heap.size, 0, none⟩) l := by
  subst hcs
  exact ints_lit (F := All) (G := All) W 3 l (fun x hx => i64_t (hl x hx)) trivial
set_option maxRecDepth 100000 in
set_option maxHeartbeats 4000000 in
theorem awake43_any (w : World) : Calls Tryz.prog 12 #[] w fun e w' => e = .returned (.bool true) ∧ Below w.heap.size w w' := by
  go_enter Tryz.func12, Tryz.ntmps12
  go_wp2_with fail
  refine (tri18_any _).mono ?_
  rintro e w1 ⟨g, rfl, hE, hb1⟩
  obtain ⟨W2, hW2⟩ : ∃ W2, (w1.alloc (.cells #[.int .i64 (-1), .int .i64 0, .int .i64 2] 3)).alloc (.cells #[.int .i64 3, .slice (some ⟨g, 0, none⟩) 3 3] 24) = W2 := ⟨_, rfl⟩
  have hb12 : Below w1.heap.size w1 W2 := by rw [← hW2]; exact bnew (bnew (Below.refl _ _) _) _
  have C2 : T43 g (w1.heap.size + 1) w1.heap.size W2 := by
    refine ⟨(hE.all edgR_ok (by decide)).below edgR_ok hb12, ?_, ?_⟩
    · rw [← hW2]
      exact (ints_l w1 [-1, 0, 2] (by decide) _ rfl).below intR_ok (bnew (Below.refl _ _) _)
    · have := Box.new (w1.alloc (.cells #[.int .i64 (-1), .int .i64 0, .int .i64 2] 3)) [.int .i64 3, .slice (some ⟨g, 0, none⟩) 3 3] 24
      rw [← hW2]
      simpa using this
  have HC := hide C2
  have hB2 := hide (hb1.trans (hb12.mono hb1.size))
  have d0 := C2.box.cell 0
  have d1 := C2.box.cell 1
  simp only [List.getElem?_cons_zero, List.getElem?_cons_succ] at d0 d1
  clear hE hb1 hb12 C2
  go_wp2_with fail
  clear d0 d1 hW2
  refine (tri43_debt HC.out).mono ?_
  rintro e W3 ⟨rfl, hb⟩
  have HC := hide (HC.out.below hb)
  have hB2 := hide (hB2.out.trans (hb.mono hB2.out.size))
  have d0 := HC.out.box.cell 0
  have d1 := HC.out.box.cell 1
  simp only [List.getElem?_cons_zero, List.getElem?_cons_succ] at d0 d1
  clear hb
  go_wp2_with fail
  clear d0 d1
  refine (tri43_solve HC.out).mono ?_
  rintro e W4 ⟨sv, rfl, hgs, hb⟩
  obtain ⟨oS, cS, rfl, hcS, hsS⟩ := hgs
  have HSS := hide hsS
  have HC := hide (HC.out.below hb)
  have hB2 := hide (hB2.out.trans (hb.mono hB2.out.size))
  have d0 := HC.out.box.cell 0
  have d1 := HC.out.box.cell 1
  simp only [List.getElem?_cons_zero, List.getElem?_cons_succ] at d0 d1
  clear hb hsS
  go_wp2_with fail
  clear d0 d1
  have hbq := bnew (Below.refl W4.heap.size W4) (.cells #[.int .i64 0] 3)
  refine (tri43_greedy (HC.out.below hbq) _ (ints_l W4 [0] (by decide) _ rfl)).mono ?_
  rintro e W5 ⟨tv, rfl, hgt, hb⟩
  obtain ⟨oT, cT, rfl, hcT, hsT⟩ := hgt
  replace hb := hbq.trans (hb.mono hbq.size)
  have HST := hide hsT
  have HSS := hide (HSS.out.below intR_ok hb)
  have HC := hide (HC.out.below hb)
  have hB2 := hide (hB2.out.trans (hb.mono hB2.out.size))
  have d0 := HC.out.box.cell 0
  have d1 := HC.out.box.cell 1
  simp only [List.getElem?_cons_zero, List.getElem?_cons_succ] at d0 d1
  clear hb hsT hbq
  go_wp2_with fail
  clear d0 d1
  have hbq := bnew (Below.refl W5.heap.size W5) (.cells #[.int .i64 0, .int .i64 0, .int .i64 1] 3)
  refine (same_lit [0, 0, 1] [0, 0, 1] oS _ cS _ _ hcS (by decide) (HSS.out.below intR_ok hbq) (ints_l W5 [0, 0, 1] (by decide) _ rfl) rfl rfl).mono ?_
  rintro e W6 ⟨rfl, hb⟩
  replace hb := hbq.trans (hb.mono hbq.size)
  have HSS := hide (HSS.out.below intR_ok hb)
  have HST := hide (HST.out.below intR_ok hb)
  have HC := hide (HC.out.below hb)
  have hB2 := hide (hB2.out.trans (hb.mono hB2.out.size))
  have d0 := HC.out.box.cell 0
  have d1 := HC.out.box.cell 1
  simp only [List.getElem?_cons_zero, List.getElem?_cons_succ] at d0 d1
  clear hb hbq
  go_wp2_with fail
  clear d0 d1
  have hbq := bnew (Below.refl W6.heap.size W6) (.cells #[.int .i64 (-1), .int .i64 (-1), .int .i64 0] 3)
  refine (same_lit [-1, -1, 0] [-1, -1, 0] oT _ cT _ _ hcT (by decide) (HST.out.below intR_ok hbq) (ints_l W6 [-1, -1, 0] (by decide) _ rfl) rfl rfl).mono ?_
  rintro e W7 ⟨rfl, hb⟩
  replace hb := hbq.trans (hb.mono hbq.size)
  have HSS := hide (HSS.out.below intR_ok hb)
  have HST := hide (HST.out.below intR_ok hb)
  have HC := hide (HC.out.below hb)
  have hB2 := hide (hB2.out.trans (hb.mono hB2.out.size))
  have d0 := HC.out.box.cell 0
  have d1 := HC.out.box.cell 1
  simp only [List.getElem?_cons_zero, List.getElem?_cons_succ] at d0 d1
  clear hb hbq
  go_wp2_with fail
  clear d0 d1
  refine (tri43_cheap HC.out oT cT hcT HST.out).mono ?_
  rintro e W8 ⟨cv, rfl, hgc, hb⟩
  obtain ⟨oC, cC, rfl, hcC, hsC⟩ := hgc
  have HSC := hide hsC
  have HSS := hide (HSS.out.below intR_ok hb)
  have HC := hide (HC.out.below hb)
  have hB2 := hide (hB2.out.trans (hb.mono hB2.out.size))
  have d0 := HC.out.box.cell 0
  have d1 := HC.out.box.cell 1
  simp only [List.getElem?_cons_zero, List.getElem?_cons_succ] at d0 d1
  clear hb hsC HST
  go_wp2_with fail
  clear d0 d1
  have hbq := bnew (bnew (Below.refl W8.heap.size W8) (.cells #[.int .i64 (-1), .int .i64 0, .int .i64 1] 3)) (.cells #[.int .i64 0] 3)
  have hz2 := ints_l (W8.alloc (.cells #[.int .i64 (-1), .int .i64 0, .int .i64 1] 3)) [0] (by decide) _ rfl
  rw [alloc_size'] at hz2
  refine (tri43_greedy2 (HC.out.below hbq) _ _ ((ints_l W8 [-1, 0, 1] (by decide) _ rfl).below intR_ok (bnew (Below.refl _ _) _)) hz2).mono ?_
  rintro e W9 ⟨uv, rfl, hgu, hb⟩
  obtain ⟨oU, cU, rfl, hcU, hsU⟩ := hgu
  replace hb := hbq.trans (hb.mono hbq.size)
  have HSU := hide hsU
  have HSC := hide (HSC.out.below intR_ok hb)
  have HSS := hide (HSS.out.below intR_ok hb)
  have HC := hide (HC.out.below hb)
  have hB2 := hide (hB2.out.trans (hb.mono hB2.out.size))
  have d0 := HC.out.box.cell 0
  have d1 := HC.out.box.cell 1
  simp only [List.getElem?_cons_zero, List.getElem?_cons_succ] at d0 d1
  clear hb hbq hsU hz2
  go_wp2_with fail
  clear d0 d1
  have hbq := bnew (Below.refl W9.heap.size W9) (.cells #[.int .i64 (-1), .int .i64 0, .int .i64 1] 3)
  refine (tri43_solve2 (HC.out.below hbq) _ (ints_l W9 [-1, 0, 1] (by decide) _ rfl)).mono ?_
  rintro e W10 ⟨xv, rfl, hb⟩
  replace hb := hbq.trans (hb.mono hbq.size)
  have HSU := hide (HSU.out.below intR_ok hb)
  have HSC := hide (HSC.out.below intR_ok hb)
  have HSS := hide (HSS.out.below intR_ok hb)
  have HC := hide (HC.out.below hb)
  have hB2 := hide (hB2.out.trans (hb.mono hB2.out.size))
  have d0 := HC.out.box.cell 0
  have d1 := HC.out.box.cell 1
  simp only [List.getElem?_cons_zero, List.getElem?_cons_succ] at d0 d1
  clear hb hbq d0 d1
  go_wp2_with fail
  refine (same_lit [0, 0, 1] [0, 0, 1] oC oS cC cS _ hcC (by decide) HSC.out HSS.out rfl rfl).mono ?_
  rintro e W11 ⟨rfl, hb⟩
  have HSU := hide (HSU.out.below intR_ok hb)
  have hB2 := hide (hB2.out.trans (hb.mono hB2.out.size))
  clear hb
  go_wp2_with fail
  have hbq := bnew (Below.refl W11.heap.size W11) (.cells #[.int .i64 (-1), .int .i64 (-1), .int .i64 (-1)] 3)
  refine (same_lit [-1, -1, -1] [-1, -1, -1] oU _ cU _ _ hcU (by decide) (HSU.out.below intR_ok hbq) (ints_l W11 [-1, -1, -1] (by decide) _ rfl) rfl rfl).mono ?_
  rintro e W12 ⟨rfl, hb⟩
  replace hb := hbq.trans (hb.mono hbq.size)
  have hB2 := hide (hB2.out.trans (hb.mono hB2.out.size))
  clear hb hbq
  go_wp2_with fail
  go_ret
  exact ⟨by first | rfl | trivial, hB2.out⟩
end Go.Proofs.YtpgopmmobbemcaaGreat

set_option linter.unusedVariables false
set_option linter.unusedSimpArgs false
namespace Go.Proofs.YtpgopmmobbemcaaGreat
open Go.RowKit

theorem dmvSizeN : (Tryz.prog.info? 81).map (·.size) = some 2 := by kernel_rfl
theorem dmvInfoN : (Tryz.prog.info? 81).map (fun i => (i.zero, i.size, i.bytes)) = some (some (.agg #[.int .i64 0, .bool false]), 2, 16) := by kernel_rfl
theorem pats_oneM (x : Int) (y : Bool) (n : Nat) : ∀ v ∈ pats (.int .i64 x) (.bool y) n, v.oneCell' = true := fun v hv => by
  unfold pats at hv
  obtain ⟨j, _, rfl⟩ := List.mem_map.1 hv
  unfold pat
  split <;> rfl
/-- A row of n outputs, of which the first m are ⟨x, y⟩. -/
def RowPM (w : World) (g n : Nat) (x : Int) (y : Bool) (m : Nat) : Prop := ∃ cur : List Value, w.heap[g]? = some (.cells cur.toArray 81 (0, 0)) ∧ cur.length = 2 * n ∧ ∀ j, j < 2 * m → cur[j]? = some (pat (.int .i64 x) (.bool y) j)

theorem copy_firstM {w w1 : World} {n c b off : Nat} {x : Int} {y : Bool} {zs : List Value} (hown : w1.ownsRow w.heap.size 81 2 (.slice (some ⟨w.heap.size, 0, none⟩) n n) n zs) (hg : w.grownBy w1 none)
    (cx : w.cell? ⟨b, off, none⟩ = some (.int .i64 x)) (cy : w.cell? ⟨b, off + 1, none⟩ = some (.bool y)) :
    ∃ (m : Nat) (w2 : World), Hid (m = min n 1) ∧ (Builtin.copy_ #[61, 61] 3 #[.slice (some ⟨w.heap.size, 0, none⟩) n n, .slice (some ⟨b, off, none⟩) 1 c]).run Tryz.prog w1 = .ok (.int .i64 m) w2 ∧ RowPM w2 w.heap.size n x y m ∧ Below w.heap.size w w2 := by
  obtain ⟨hl, hv⟩ := hown
  have hb1 : Below w.heap.size w w1 := (Below.refl w.heap.size w).grown hg (Nat.le_refl _) fun k hk => by cases hk
  rcases hv with ⟨he, _⟩ | ⟨g, cap, cur, he, _, hh, _, _, hcs, _⟩
  · cases he
  · injection he with h1 h2 h3
    injection h1 with h1
    injection h1 with h1
    subst h1 h3
    rcases Nat.eq_zero_or_pos n with h0 | h0
    · subst h0
      have hrun : (Builtin.copy_ #[61, 61] 3 #[.slice (some ⟨w.heap.size, 0, none⟩) 0 0, .slice (some ⟨b, off, none⟩) 1 c]).run Tryz.prog w1 = .ok (goInt ((0 : Nat) : Int)) (w1.setRow w.heap.size (splice cur.toList 0 []).toArray) :=
        run_copy_at (P := Tryz.prog) w1 61 61 3 81 w.heap.size 0 0 0 2 0 ⟨b, off, none⟩ 1 c cur 81 [] Tryz.underlying61 dmvSizeN hh (by simp) rfl (fun j v hj => by simp at hj) (by simp) (by simp)
      refine ⟨0, _, rfl, hrun, ⟨_, setRow_heap w1 _ _ _ _ _ hh, ?_, fun j hj => by omega⟩, below_setRow hb1 (Nat.le_refl _) _⟩
      simpa [splice] using hcs
    · have hcell : w1.cell? ⟨b, off, none⟩ = some (.int .i64 x) := (hb1.cell (World.block_lt_of_cell? _ _ cx)).trans cx
      have hcell2 : w1.cell? ⟨b, off + 1, none⟩ = some (.bool y) := (hb1.cell (World.block_lt_of_cell? _ _ cy)).trans cy
      have hcs' : cur.size = 2 * n := by rw [hcs]; omega
      have hrun : (Builtin.copy_ #[61, 61] 3 #[.slice (some ⟨w.heap.size, 0, none⟩) n n, .slice (some ⟨b, off, none⟩) 1 c]).run Tryz.prog w1 = .ok (goInt ((1 : Nat) : Int)) (w1.setRow w.heap.size (splice cur.toList 0 [.int .i64 x, .bool y]).toArray) :=
        run_copy_at (P := Tryz.prog) w1 61 61 3 81 w.heap.size 0 n n 2 1 ⟨b, off, none⟩ 1 c cur 81 [.int .i64 x, .bool y] Tryz.underlying61 dmvSizeN hh (by show 1 = min 1 n; omega) rfl (fun j v hj => by
          match j, hj with
          | 0, hj => simp at hj; subst hj; simpa [Addr.add] using hcell
          | 1, hj => simp at hj; subst hj; simpa [Addr.add] using hcell2) (by rw [hcs']; simp; omega) (by intro v hv; simp at hv; rcases hv with rfl | rfl <;> rfl)
      refine ⟨1, _, by show _ = _; omega, hrun, ⟨_, setRow_heap w1 _ _ _ _ _ hh, ?_, ?_⟩, below_setRow hb1 (Nat.le_refl _) _⟩
      · rw [length_splice _ _ _ (by simp; omega)]; simpa using hcs'
      · intro j hj
        match j, hj with
        | 0, _ => simp [splice, pat]
        | 1, _ => simp [splice, pat]

set_option maxRecDepth 100000 in
set_option maxHeartbeats 4000000 in
theorem repeatM_any (x : Mv) (n c : Nat) (oa : Option Addr) (F : Foot) (w : World) (hn : n ≤ 4096) (hs : SliceR dmvR 2 F w oa [x]) :
    Calls Tryz.prog 72 #[.slice oa 1 c, .int .i64 n] w fun e w' => ∃ v, e = .returned v ∧ OwnS dmvR 2 w.heap.size 81 Non w' v (List.replicate n x) ∧ Below w.heap.size w w' := by
  obtain ⟨x1, y1, _, hx', ix, b, off, rfl, _, cx, cy⟩ := hs.dmv_at (i := 0) (by simp)
  simp at hx'
  subst hx'
  rw [Nat.zero_mul, Nat.add_zero] at cx cy
  obtain ⟨i, hi, hz, hsz, hby⟩ := info_parts dmvInfoN
  have IX := hide ix
  have HI := hide (And.intro hi (And.intro hz (And.intro hsz hby)))
  clear hi hz hsz hby ix
  have hd1 : decide ((n : Int) < 0) = false := by simp
  have hd2 : decide (9223372036854775807 < (n : Int)) = false := by simp; omega
  go_enter Tryz.func72, Tryz.ntmps72
  go_wp2_with (first
    | (go_at_call 109; refine (mul_one n (by omega) _).mono ?_; rintro e w' ⟨rfl, rfl⟩)
    | (at_make; refine wpList_make_full _ rfl _ _ 61 rfl w.heap.size 81 i _ 2 Tryz.underlying61 HI.out.1 HI.out.2.1 HI.out.2.2.1 .i64 .i64 _ _ n rfl rfl rfl rfl (by rw [HI.out.2.2.2]; omega) (by unfold maxLen; omega) (Nat.le_refl _) (fun w1 hown hgrow => ?_)
       obtain ⟨m0, w2, HM0, hcp, hrow, hbw⟩ := copy_firstM (c := c) hown hgrow cx cy
       clear hown hgrow))
  clear hcp cx cy
  go_loopw [8] (fun v wr => ∃ m : Nat, v = .int .i64 m ∧ m ≤ n ∧ (n = 0 ∨ 0 < m) ∧ RowPM wr w.heap.size n x1 y1 m ∧ Below w.heap.size w wr) (fun v _ => n - (intOf v).toNat)
  case atStart => exact ⟨m0, rfl, by have := HM0.out; omega, by have := HM0.out; omega, hrow, hbw⟩
  case round =>
    obtain ⟨m, rfl, hmn, hm0, ⟨cur, hcur, hcl, hcx⟩, hb⟩ := hrel
    by_cases hlt : m < n
    · have hm1 : 0 < m := by omega
      have hnm : ¬ n = m := by omega
      obtain ⟨q, hq⟩ : ∃ q, q = min m (n - m) := ⟨_, rfl⟩
      have hq1 : 0 < q := by omega
      have hq2 : m + q ≤ n := by omega
      have hqm : q ≤ m := by omega
      have hwr : IntKind.i64.wrap ((m : Int) + (q : Int)) = (m : Int) + q := IntWalk.i64_in _ (by omega)
      have HQ := hide hq
      have HCUR := hide hcur
      have HCX := hide hcx
      have HCL := hide hcl
      clear hq hcur hcx hcl hrow hbw
      go_wp2_with fail
      go_region_law (refine step_copy_at rfl (.tmp 41) (.tmp 44) 61 61 rfl 81 2 Tryz.underlying61 dmvSizeN w.heap.size (m * 2) (n - m) (n - m) ⟨w.heap.size, 0, none⟩ m n (by simp [Act.eval, Act.put]) (by simp [Act.eval, Act.put]) cur 81 HCUR.out q (by have := HQ.out; show q = min m (n - m); exact this) (pats (.int .i64 x1) (.bool y1) (q * 2)) (by rw [pats_len]) (fun j v hj => by
        obtain ⟨hjq, hv⟩ := pats_at hj
        subst hv
        rw [show (Addr.mk w.heap.size 0 none).add j = ⟨w.heap.size, j, none⟩ from by unfold Addr.add; split <;> simp_all]
        change wr.cell? ⟨w.heap.size, j, none⟩ = _
        rw [cell_of_row wr w.heap.size j _ _ _ HCUR.out]
        simpa using HCX.out j (by omega)) (by rw [pats_len]; have := HCL.out; omega) (pats_oneM x1 y1 _) w.heap.size w hb.drew (Nat.le_refl _) ?_; intro w4 hg4 hb4)
      all_goals
        simp [Act.put]
        go_roundw
        case rel =>
          refine ⟨_, _, _, _, _, _, _, _, _, _, _, _, _, _, ⟨m + q, by go_num, by omega, .inr (by omega), ⟨_, hg4.out, by rw [length_splice _ _ _ (by rw [pats_len]; have := HCL.out; omega)]; exact HCL.out, ?_⟩, hb4⟩, rfl⟩
          intro j hj
          unfold splice
          have hcl := HCL.out
          by_cases h : j < m * 2
          · rw [List.getElem?_append_left (by simp; omega), List.getElem?_take_of_lt h]
            exact HCX.out j (by omega)
          · have htl : (cur.take (m * 2)).length = m * 2 := by rw [List.length_take]; omega
            rw [List.getElem?_append_right (by omega), htl, List.getElem?_append_left (by rw [pats_len]; omega), pats_get (by omega)]
            unfold pat
            have : (j - m * 2) % 2 = j % 2 := by omega
            rw [this]
        case measure => simp [intOf]; omega
    · have hmn2 : m = n := by omega
      subst hmn2
      have HCUR := hide hcur
      have HCX := hide hcx
      have HCL := hide hcl
      clear hcur hcx hcl
      go_wp2_with fail
      go_ret
      have hcl := HCL.out
      refine ⟨_, rfl, ⟨cur, ⟨by rw [List.length_replicate, hcl]; omega, .inr ⟨w.heap.size, m, _, by simp, Nat.le_refl _, HCUR.out, by simp, by unfold maxLen; omega, by rw [List.size_toArray, hcl]; omega, by rw [List.length_replicate]; exact List.take_of_length_le (by rw [hcl]; omega)⟩⟩, ?_, ?_⟩, hb⟩
      · intro u hu
        obtain ⟨j, hj, rfl⟩ := List.mem_iff_getElem.1 hu
        have h1 := HCX.out j (by omega)
        rw [List.getElem?_eq_getElem hj] at h1
        injection h1 with h1
        rw [h1]
        unfold pat
        split <;> rfl
      · intro j y hy
        have hj : j < m := by have := (List.getElem?_eq_some_iff.1 hy).1; simpa using this
        rw [List.getElem?_replicate, if_pos hj] at hy
        injection hy with hy
        subst hy
        refine ⟨?_, IX.out⟩
        unfold chunk
        have e0 := HCX.out (j * 2) (by omega)
        have e1 := HCX.out (j * 2 + 1) (by omega)
        unfold pat at e0 e1
        rw [if_pos (by omega)] at e0
        rw [if_neg (by omega)] at e1
        apply List.ext_getElem?
        intro k
        rw [List.getElem?_take]
        split
        · rename_i hk
          rw [List.getElem?_drop]
          match k, hk with
          | 0, _ => simpa using e0
          | 1, _ => simpa using e1
        · rw [List.getElem?_eq_none (by simp; omega)]

end Go.Proofs.YtpgopmmobbemcaaGreat

set_option linter.unusedVariables false
set_option linter.unusedSimpArgs false
set_option linter.unnecessarySimpa false
namespace Go.Proofs.YtpgopmmobbemcaaGreat
open Go.RowKit

def movesR (n : Int) (es : List Edg) (f : List Nat) (s : List Int) : List Mv × Int :=
  if tErr n es f s ≠ 0 then ([], tErr n es f s) else if 4096 < costS s then ([], 12) else (mvFrom 0 s, 0)
def MvsPost (t : TypeId) (w : World) (r : List Mv × Int) (e : Ending) (w' : World) : Prop :=
  ∃ v, e = .returned (.tuple #[v, .int .i64 r.2]) ∧ OwnS dmvR 2 w.heap.size t Non w' v r.1 ∧ Below w.heap.size w w'
theorem drmvInfoN : (Tryz.prog.info? 112).map (fun i => (i.zero, i.size, i.bytes)) = some (some (.agg #[.int .i64 0, .bool false]), 2, 16) := by kernel_rfl
theorem cost_pre {s : List Int} {k : Nat} {x : Int} (hx : s[k]? = some x) : costS (s.take k) + magI x ≤ costS s := by
  have hk : k < s.length := (List.getElem?_eq_some_iff.1 hx).1
  have h1 : s = s.take k ++ (x :: s.drop (k + 1)) := by
    have h2 := List.drop_eq_getElem_cons hk
    rw [List.getElem?_eq_getElem hk] at hx
    injection hx with hx
    rw [hx] at h2
    rw [← h2, List.take_append_drop]
  have h3 := costS_nn (s.drop (k + 1))
  have h4 : costS s = costS (s.take k) + (magI x + costS (s.drop (k + 1))) := by
    conv => lhs; rw [h1]
    rw [costS_app]
    rfl
  omega
set_option maxRecDepth 100000 in
set_option maxHeartbeats 4000000 in
theorem dmoves_any (n : Int) (es : List Edg) (oe : Option Addr) (c : Nat) (F : Foot) (w : World) (hs : SliceR edgR 3 F w oe es) (hc : es.length ≤ c) (hc2 : es.length ≤ 1000)
    (f : List Nat) (hU : Hid (gErr n es = 0 → Uf f (eL es))) (s : List Int) (os : Option Addr) (cs : Nat) (S : Foot) (hS : SliceR intR 1 S w os s) (hsc : s.length ≤ cs) (hsl : s.length ≤ 9223372036854775807) :
    Calls Tryz.prog 33 #[.agg #[.int .i64 n, .slice oe es.length c], .slice os s.length cs] w (MvsPost 81 w (movesR n es f s)) := by
  have hb0 := bnew (Below.refl w.heap.size w) (.cells #[.int .i64 n, .slice oe es.length c] 24)
  have HK := hide (dscripted_any n es oe c F _ (hs.below edgR_ok hb0) hc (by omega) f hU s os cs S (hS.below intR_ok hb0) hsc hsl)
  have HSS := hide hS
  have HB := hide hb0
  clear hs hS hb0
  go_enter Tryz.func33, Tryz.ntmps33
  go_wp2_with fail
  refine HK.out.mono ?_
  rintro e w2 ⟨rfl, hb2⟩
  have HB2 := hide (below_then HB.out hb2)
  clear hb2
  by_cases hV : tErr n es f s = 0
  case neg =>
    have hR : Hid (movesR n es f s = ([], tErr n es f s)) := if_pos hV
    have hq : (tErr n es f s != 0) = true := by simpa using hV
    go_wp2_with fail
    go_ret2
    exact ⟨_, by rw [hR.out]; rfl, by rw [hR.out]; exact OwnS.nil _ _ _ _ _ _, HB2.out⟩
  have hRR : Hid (movesR n es f s = if 4096 < costS s then ([], 12) else (mvFrom 0 s, 0)) := if_neg (fun h => h hV)
  obtain ⟨hn12, hsN0, hsB⟩ := dErr_len (tErr_d hV)
  have hs12 : s.length ≤ 12 := by omega
  have HSB := hide hsB
  have HCO := hide (cost_any s os cs S w2 (HSS.out.below intR_ok HB2.out) hsc (by omega) (fun k hk => by have := hsB k hk; omega))
  rw [hV]
  clear hV hsN0 hsB
  go_wp2_with fail
  refine HCO.out.mono ?_
  rintro e w3 ⟨rfl, hw3⟩
  subst hw3
  by_cases h4 : 4096 < costS s
  · have hR : Hid (movesR n es f s = ([], 12)) := by show _ = _; rw [hRR.out, if_pos h4]
    go_wp2_with fail
    go_ret2
    exact ⟨_, by rw [hR.out]; rfl, by rw [hR.out]; exact OwnS.nil _ _ _ _ _ _, HB2.out⟩
  have hR : Hid (movesR n es f s = (mvFrom 0 s, 0)) := by show _ = _; rw [hRR.out, if_neg h4]
  have HC4 := hide h4
  obtain ⟨C, hC⟩ : ∃ C, C = costS s := ⟨_, rfl⟩
  have HC : Hid (C = costS s) := hC
  rw [← hC] at h4 ⊢
  have hCn : 0 ≤ C := by rw [hC]; exact costS_nn s
  clear hRR HCO hC
  go_wp2_with fail
  go_loopg [7, 8, 9, 21] s.length (fun gm mv _ _ iv wx => ∃ k : Nat, k ≤ s.length ∧ gm = s.length - k ∧ iv = .int .i64 k ∧ Hid (OwnS dmvR 2 w.heap.size 81 Non wx mv (mvFrom 0 (s.take k))) ∧ Hid (Below w.heap.size w wx))
  case atStart => exact ⟨0, by omega, by omega, rfl, OwnS.nil _ _ _ _ _ _, HB2⟩
  case round =>
    obtain ⟨k, hk, hgm, rfl, HO, HBr⟩ := hrel
    have HGM := hide hgm
    clear hgm
    by_cases hlt : k < s.length
    · obtain ⟨x, hdr, hget, ix, b, off, hod, _, c0⟩ := (HSS.out.below intR_ok HBr.out).int_at hlt
      subst hod
      have hxb := HSB.out x (List.mem_of_getElem? hget)
      have HTK := hide (mvFrom_take hget)
      obtain ⟨m, hm⟩ : ∃ m : Nat, m = (magI x).toNat := ⟨_, rfl⟩
      have hmx : magI x = (m : Int) := by have := magI_nn x; omega
      have hpre := cost_pre hget
      rw [hmx, ← HC.out] at hpre
      have hp0 := mvFrom_len (s.take k) 0
      obtain ⟨X, hX⟩ : ∃ X, X = mvFrom 0 (s.take k) := ⟨_, rfl⟩
      rw [← hX] at HO hp0 HTK
      rw [← hm] at HTK
      have hXl : X.length + m ≤ 4096 := by have := HC4.out; rw [← HC.out] at this; omega
      have HMG : Hid (∀ W, Calls Tryz.prog 73 #[.int .i64 x] W fun e w' => e = .returned (.int .i64 (m : Int)) ∧ W = w') := fun W => by
        have h5 := magnitude_any x (by omega) W
        rw [hmx] at h5
        exact h5
      obtain ⟨bb, hbb⟩ : ∃ bb, bb = decide (x < 0) := ⟨_, rfl⟩
      have hq : decide (x < 0) = bb := hbb.symm
      rw [← hbb] at HTK
      have HL1 : Hid (SliceR dmvR 2 All (wr.alloc (.cells #[.int .i64 k, .bool bb] 81)) (some ⟨wr.heap.size, 0, none⟩) [⟨(k : Int), bb⟩]) := lit1 (F := All) dmvR_ok wr 81 [.int .i64 k, .bool bb] ⟨(k : Int), bb⟩ ⟨rfl, by show I64 (k : Int); unfold I64; omega⟩ (fun _ _ => trivial) trivial
      have hmb : m ≤ 4096 := by omega
      clear hdr hget hm hmx hp0 hX hbb hpre
      go_wp2_with (first
        | (go_at_call 73; refine (HMG.out _).mono ?_; rintro e w5 ⟨rfl, rfl⟩)
        | (go_at_call 72; refine (repeatM_any ⟨(k : Int), bb⟩ m 1 (some ⟨wr.heap.size, 0, none⟩) All _ hmb HL1.out).mono ?_; rintro e w6 ⟨v6, rfl, ho6, hb6⟩; obtain ⟨o6, c6, hv6, hc6, hs6⟩ := ho6.slice dmvR_ok; rw [List.length_replicate] at hv6 hc6; subst hv6; have HS6 := hide hs6; have HB6 := hide hb6; clear ho6 hs6 hb6 hc6)
        | (at_builtin; refine wpList_append_rep rfl (.tmp 26) (.tmp 34) 61 rfl w.heap.size 81 _ 2 16 Tryz.underlying61 dmvInfoN rfl (by decide) dmvR_ok Non _ _ X (by simp [Act.eval, Act.put]) ((HO.out.new dmvR_ok _).below dmvR_ok HB6.out) o6 c6 (List.replicate m ⟨(k : Int), bb⟩) (by rw [List.length_replicate]; simp [Act.eval, Act.put]) HS6.out (fun _ _ h => h) (fun _ h => h.elim) (by rw [List.length_replicate]; omega) (by rw [List.length_replicate]; omega) (by have := HB6.out.size; have := HBr.out.size; simp only [World.size_alloc] at *; omega) ?_; intro v' w8 ho8 hb8 hg8; have HO8 := hide ho8; have HB8 := hide hb8; clear ho8 hb8 hg8))
      go_roundg (s.length - (k + 1))
      case rel => exact ⟨k + 1, by omega, rfl, by go_num, by rw [HTK.out]; exact HO8.out, (HBr.out.alloc HBr.out.size _).trans ((HB6.out.mono (by have := HBr.out.size; simp only [World.size_alloc]; omega)).trans HB8.out)⟩
      case measure => rw [HGM.out]; omega
    · have hke : s.take k = s := List.take_of_length_le (by omega)
      have HO2 : Hid (OwnS dmvR 2 w.heap.size 81 Non wr u7 (mvFrom 0 s)) := by
        have h5 := HO.out
        rw [hke] at h5
        exact h5
      clear hke HO
      go_wp2_with fail
      go_ret2
      exact ⟨_, by rw [hR.out]; rfl, by rw [hR.out]; exact HO2.out, HBr.out⟩
end Go.Proofs.YtpgopmmobbemcaaGreat

set_option linter.unusedVariables false
set_option linter.unusedSimpArgs false
set_option linter.unnecessarySimpa false
namespace Go.Proofs.YtpgopmmobbemcaaGreat
open Go.RowKit

set_option maxRecDepth 100000 in
set_option maxHeartbeats 4000000 in
theorem rlisted_any (s : List Int) (os : Option Addr) (cs : Nat) (S : Foot) (w : World) (hS : SliceR intR 1 S w os s) (hsc : s.length ≤ cs) (hs12 : s.length ≤ 12) (hsB : Hid (∀ x ∈ s, -1048576 ≤ x ∧ x ≤ 1048576)) (h4 : Hid (costS s ≤ 4096)) :
    Calls Tryz.prog 74 #[.slice os s.length cs] w fun e w' => ∃ v, e = .returned v ∧ OwnS dmvR 2 w.heap.size 112 Non w' v (mvFrom 0 s) ∧ Below w.heap.size w w' := by
  have HSS := hide hS
  clear hS
  go_enter Tryz.func74, Tryz.ntmps74
  go_wp2_with fail
  go_loopg [3, 4] s.length (fun gm mv iv wx => ∃ k : Nat, k ≤ s.length ∧ gm = s.length - k ∧ iv = .int .i64 k ∧ Hid (OwnS dmvR 2 w.heap.size 112 Non wx mv (mvFrom 0 (s.take k))) ∧ Hid (Below w.heap.size w wx))
  case atStart => exact ⟨0, by omega, by omega, rfl, OwnS.nil _ _ _ _ _ _, Below.refl _ _⟩
  case round =>
    obtain ⟨k, hk, hgm, rfl, HO, HBr⟩ := hrel
    have HGM := hide hgm
    clear hgm
    by_cases hlt : k < s.length
    · obtain ⟨x, hdr, hget, ix, b, off, hod, _, c0⟩ := (HSS.out.below intR_ok HBr.out).int_at hlt
      subst hod
      have hxb := hsB.out x (List.mem_of_getElem? hget)
      have HTK := hide (mvFrom_take hget)
      obtain ⟨m, hm⟩ : ∃ m : Nat, m = (magI x).toNat := ⟨_, rfl⟩
      have hmx : magI x = (m : Int) := by have := magI_nn x; omega
      have hpre := cost_pre hget
      rw [hmx] at hpre
      have hp0 := mvFrom_len (s.take k) 0
      obtain ⟨X, hX⟩ : ∃ X, X = mvFrom 0 (s.take k) := ⟨_, rfl⟩
      rw [← hX] at HO hp0 HTK
      rw [← hm] at HTK
      have hXl : X.length + m ≤ 4096 := by have := h4.out; omega
      obtain ⟨bb, hbb⟩ : ∃ bb, bb = decide (x < 0) := ⟨_, rfl⟩
      have hq : decide (x < 0) = bb := hbb.symm
      rw [← hbb] at HTK
      have hmb : m ≤ 4096 := by omega
      have hkb : k ≤ 12 := by omega
      unfold magI at hmx
      have HC0 : Hid (∀ W, Below w.heap.size w W → W.cell? ⟨b, off + k, none⟩ = some (.int .i64 x)) := fun W hW => by
        obtain ⟨x2, _, hget2, _, b2, off2, hod2, _, c2⟩ := (HSS.out.below intR_ok hW).int_at hlt
        injection hod2 with hod2
        injection hod2 with e1 e2
        subst e1 e2
        rw [hget] at hget2
        injection hget2 with e3
        rw [e3]
        exact c2
      have HO0 : Hid (OwnS dmvR 2 w.heap.size 112 Non wr u3 (X ++ List.replicate 0 ⟨(k : Int), bb⟩)) := by
        show OwnS _ _ _ _ _ _ _ _
        rw [List.replicate_zero, List.append_nil]
        exact HO.out
      clear hdr hm hp0 hX hbb hpre c0 hget
      go_wp2_with fail
      go_loopg [3, 5] m (fun gm mv iv wx => ∃ i : Nat, i ≤ m ∧ gm = m - i ∧ iv = .int .i64 i ∧ Hid (OwnS dmvR 2 w.heap.size 112 Non wx mv (X ++ List.replicate i ⟨(k : Int), bb⟩)) ∧ Hid (Below w.heap.size w wx))
      case atStart => exact ⟨0, by omega, by omega, rfl, HO0, HBr⟩
      case round =>
        clear HO0 HO HBr
        obtain ⟨i, hi, hgm, rfl, HO, HBr⟩ := hrel
        have HGM2 := hide hgm
        have c0 := HC0.out _ HBr.out
        clear hgm
        by_cases hil : i < m
        · have HRP : Hid ((X ++ List.replicate i (⟨(k : Int), bb⟩ : Mv)) ++ [⟨(k : Int), bb⟩] = X ++ List.replicate (i + 1) ⟨(k : Int), bb⟩) := by
            show _ = _
            rw [List.append_assoc, ← List.replicate_succ']
          have hYl : (X ++ List.replicate i (⟨(k : Int), bb⟩ : Mv)).length + 1 ≤ 4096 := by rw [List.length_append, List.length_replicate]; omega
          obtain ⟨Y, hY⟩ : ∃ Y, Y = X ++ List.replicate i (⟨(k : Int), bb⟩ : Mv) := ⟨_, rfl⟩
          rw [← hY] at HO hYl HRP
          clear hY
          by_cases h1 : x ≤ 0
          · go_wp2_with fail
            go_quiet (fail)
            obtain ⟨W5, hW5⟩ : ∃ W5, wr.drewN nq = W5 := ⟨_, rfl⟩
            rw [hW5]
            have HBW5 : Hid (Below w.heap.size w W5) := by rw [← hW5]; exact below_drewN HBr.out nq
            have HO5 : Hid (OwnS dmvR 2 w.heap.size 112 Non W5 u3 Y) := by rw [← hW5]; exact HO.out
            have c0 := HC0.out _ HBW5.out
            clear hW5
            have HL1 : Hid (SliceR dmvR 2 All (W5.alloc (.cells #[.int .i64 k, .bool bb] 112)) (some ⟨W5.heap.size, 0, none⟩) [⟨(k : Int), bb⟩]) := lit1 (F := All) dmvR_ok W5 112 [.int .i64 k, .bool bb] ⟨(k : Int), bb⟩ ⟨rfl, by show I64 (k : Int); unfold I64; omega⟩ (fun _ _ => trivial) trivial
            go_wp2_with (at_builtin; refine wpList_append_rep rfl (.tmp 26) (.tmp 34) 65 rfl w.heap.size 112 _ 2 16 Tryz.underlying65 drmvInfoN rfl (by decide) dmvR_ok Non All _ Y (by simp [Act.eval, Act.put]) (HO5.out.new dmvR_ok _) (some ⟨W5.heap.size, 0, none⟩) 1 [⟨(k : Int), bb⟩] (by simp [Act.eval, Act.put]) HL1.out (fun _ _ h => h) (fun _ h => h.elim) (by simp; omega) (by simp; omega) (by have := HBW5.out.size; simp only [World.size_alloc]; omega) ?_; intro v' w8 ho8 hb8 hg8; have HO8 := hide ho8; have HB8 := hide hb8; clear ho8 hb8 hg8)
            all_goals (try omega)
            all_goals
              go_roundg (m - (i + 1))
              case rel => exact ⟨i + 1, by omega, rfl, by go_num, by rw [← HRP.out]; exact HO8.out, (HBW5.out.alloc HBW5.out.size _).trans HB8.out⟩
              case measure => rw [HGM2.out]; omega
          · go_wp2_with fail
            go_quiet (fail)
            obtain ⟨W5, hW5⟩ : ∃ W5, wr.drewN nq = W5 := ⟨_, rfl⟩
            rw [hW5]
            have HBW5 : Hid (Below w.heap.size w W5) := by rw [← hW5]; exact below_drewN HBr.out nq
            have HO5 : Hid (OwnS dmvR 2 w.heap.size 112 Non W5 u3 Y) := by rw [← hW5]; exact HO.out
            have c0 := HC0.out _ HBW5.out
            clear hW5
            have HL1 : Hid (SliceR dmvR 2 All (W5.alloc (.cells #[.int .i64 k, .bool bb] 112)) (some ⟨W5.heap.size, 0, none⟩) [⟨(k : Int), bb⟩]) := lit1 (F := All) dmvR_ok W5 112 [.int .i64 k, .bool bb] ⟨(k : Int), bb⟩ ⟨rfl, by show I64 (k : Int); unfold I64; omega⟩ (fun _ _ => trivial) trivial
            go_wp2_with (at_builtin; refine wpList_append_rep rfl (.tmp 26) (.tmp 34) 65 rfl w.heap.size 112 _ 2 16 Tryz.underlying65 drmvInfoN rfl (by decide) dmvR_ok Non All _ Y (by simp [Act.eval, Act.put]) (HO5.out.new dmvR_ok _) (some ⟨W5.heap.size, 0, none⟩) 1 [⟨(k : Int), bb⟩] (by simp [Act.eval, Act.put]) HL1.out (fun _ _ h => h) (fun _ h => h.elim) (by simp; omega) (by simp; omega) (by have := HBW5.out.size; simp only [World.size_alloc]; omega) ?_; intro v' w8 ho8 hb8 hg8; have HO8 := hide ho8; have HB8 := hide hb8; clear ho8 hb8 hg8)
            all_goals (try omega)
            all_goals
              go_roundg (m - (i + 1))
              case rel => exact ⟨i + 1, by omega, rfl, by go_num, by rw [← HRP.out]; exact HO8.out, (HBW5.out.alloc HBW5.out.size _).trans HB8.out⟩
              case measure => rw [HGM2.out]; omega
        · have HIM : Hid (X ++ List.replicate i (⟨(k : Int), bb⟩ : Mv) = X ++ List.replicate m (⟨(k : Int), bb⟩ : Mv)) := by show _ = _; rw [show i = m by omega]
          by_cases h1 : x ≤ 0
          · go_wp2_with fail
            go_quiet (fail)
            obtain ⟨W5, hW5⟩ : ∃ W5, wr.drewN nq = W5 := ⟨_, rfl⟩
            rw [hW5]
            have HBW5 : Hid (Below w.heap.size w W5) := by rw [← hW5]; exact below_drewN HBr.out nq
            have HO5 : Hid (OwnS dmvR 2 w.heap.size 112 Non W5 u3 (mvFrom 0 (s.take (k + 1)))) := by rw [← hW5, HTK.out, ← HIM.out]; exact HO.out
            clear hW5
            go_wp2_with fail
            all_goals (try omega)
            all_goals
              go_roundg (s.length - (k + 1))
              case rel => exact ⟨k + 1, by omega, rfl, by go_num, HO5, HBW5⟩
              case measure => rw [HGM.out]; omega
          · go_wp2_with fail
            go_quiet (fail)
            obtain ⟨W5, hW5⟩ : ∃ W5, wr.drewN nq = W5 := ⟨_, rfl⟩
            rw [hW5]
            have HBW5 : Hid (Below w.heap.size w W5) := by rw [← hW5]; exact below_drewN HBr.out nq
            have HO5 : Hid (OwnS dmvR 2 w.heap.size 112 Non W5 u3 (mvFrom 0 (s.take (k + 1)))) := by rw [← hW5, HTK.out, ← HIM.out]; exact HO.out
            clear hW5
            go_wp2_with fail
            all_goals (try omega)
            all_goals
              go_roundg (s.length - (k + 1))
              case rel => exact ⟨k + 1, by omega, rfl, by go_num, HO5, HBW5⟩
              case measure => rw [HGM.out]; omega
    · have hke : s.take k = s := List.take_of_length_le (by omega)
      have HO2 : Hid (OwnS dmvR 2 w.heap.size 112 Non wr u3 (mvFrom 0 s)) := by
        have h5 := HO.out
        rw [hke] at h5
        exact h5
      clear hke HO
      go_wp2_with fail
      go_ret
      exact ⟨_, rfl, HO2.out, HBr.out⟩
set_option maxRecDepth 100000 in
set_option maxHeartbeats 4000000 in
theorem rmoves43_any (n : Int) (es : List Edg) (oe : Option Addr) (c : Nat) (F : Foot) (w : World) (hs : SliceR edgR 3 F w oe es) (hc : es.length ≤ c) (hc2 : es.length ≤ 1000)
    (f : List Nat) (hU : Hid (gErr n es = 0 → Uf f (eL es))) (s : List Int) (os : Option Addr) (cs : Nat) (S : Foot) (hS : SliceR intR 1 S w os s) (hsc : s.length ≤ cs) (hsl : s.length ≤ 9223372036854775807) :
    Calls Tryz.prog 34 #[.agg #[.int .i64 n, .slice oe es.length c], .slice os s.length cs] w (MvsPost 112 w (movesR n es f s)) := by
  have hb0 := bnew (Below.refl w.heap.size w) (.cells #[.int .i64 n, .slice oe es.length c] 24)
  have HK := hide (rscripted43_any n es oe c F _ (hs.below edgR_ok hb0) hc (by omega) f hU s os cs S (hS.below intR_ok hb0) hsc hsl)
  have HSS := hide hS
  have HB := hide hb0
  clear hs hS hb0
  go_enter Tryz.func34, Tryz.ntmps34
  go_wp2_with fail
  refine HK.out.mono ?_
  rintro e w2 ⟨rfl, hb2⟩
  have HB2 := hide (below_then HB.out hb2)
  clear hb2
  by_cases hV : tErr n es f s = 0
  case neg =>
    have hR : Hid (movesR n es f s = ([], tErr n es f s)) := if_pos hV
    have hq : (tErr n es f s != 0) = true := by simpa using hV
    go_wp2_with fail
    go_ret2
    exact ⟨_, by rw [hR.out]; rfl, by rw [hR.out]; exact OwnS.nil _ _ _ _ _ _, HB2.out⟩
  have hRR : Hid (movesR n es f s = if 4096 < costS s then ([], 12) else (mvFrom 0 s, 0)) := if_neg (fun h => h hV)
  obtain ⟨hn12, hsN0, hsB⟩ := dErr_len (tErr_d hV)
  have hs12 : s.length ≤ 12 := by omega
  have HSB := hide hsB
  have HCO := hide (rcost_any s os cs S w2 (HSS.out.below intR_ok HB2.out) hsc (by omega) (fun k hk => by have := hsB k hk; omega))
  rw [hV]
  clear hV hsN0 hsB
  go_wp2_with fail
  refine HCO.out.mono ?_
  rintro e w3 ⟨rfl, hb3⟩
  have HB3 := hide (below_then HB2.out hb3)
  clear hb3
  by_cases h4 : 4096 < costS s
  · have hR : Hid (movesR n es f s = ([], 12)) := by show _ = _; rw [hRR.out, if_pos h4]
    go_wp2_with fail
    go_ret2
    exact ⟨_, by rw [hR.out]; rfl, by rw [hR.out]; exact OwnS.nil _ _ _ _ _ _, HB3.out⟩
  have hR : Hid (movesR n es f s = (mvFrom 0 s, 0)) := by show _ = _; rw [hRR.out, if_neg h4]
  have HLI := hide (rlisted_any s os cs S w3 (HSS.out.below intR_ok HB3.out) hsc hs12 HSB (by show costS s ≤ 4096; omega))
  clear hRR HCO
  go_wp2_with fail
  refine HLI.out.mono ?_
  rintro e w4 ⟨v4, rfl, ho4, hb4⟩
  have HO4 := hide (ho4.rebase (HB3.out.size))
  have HB4 := hide (below_then HB3.out hb4)
  clear ho4 hb4
  go_wp2_with fail
  go_ret2
  exact ⟨_, by rw [hR.out]; rfl, by rw [hR.out]; exact HO4.out, HB4.out⟩
end Go.Proofs.YtpgopmmobbemcaaGreat

set_option linter.unusedVariables false
set_option linter.unusedSimpArgs false
set_option linter.unnecessarySimpa false
namespace Go.Proofs.YtpgopmmobbemcaaGreat
open Go.RowKit

def verifyR (n : Int) (es : List Edg) (f : List Nat) (d s : List Int) : Int × Int :=
  if tErr n es f d ≠ 0 then (0, tErr n es f d) else if fErr n es s ≠ 0 then (0, fErr n es s) else if 0 < oweS es d s then (0, 16) else (costS s, 0)
def Int2Post (w : World) (r : Int × Int) (e : Ending) (w' : World) : Prop := e = .returned (.tuple #[.int .i64 r.1, .int .i64 r.2]) ∧ Below w.heap.size w w'
end Go.Proofs.YtpgopmmobbemcaaGreat

set_option linter.unusedVariables false
set_option linter.unusedSimpArgs false
set_option linter.unnecessarySimpa false
namespace Go.Proofs.YtpgopmmobbemcaaGreat
open Go.RowKit

def applyR (n : Int) (es : List Edg) (d s : List Int) : List Int × Int :=
  if fErr n es d ≠ 0 then ([], fErr n es d) else if fErr n es s ≠ 0 then ([], fErr n es s) else if outB (movedL s es d) = true then ([], 11) else (movedL s es d, 0)
def DivPost (w : World) (r : List Int × Int) (e : Ending) (w' : World) : Prop :=
  ∃ oa c, e = .returned (.tuple #[.slice oa r.1.length c, .int .i64 r.2]) ∧ r.1.length ≤ c ∧ SliceR intR 1 All w' oa r.1 ∧ Below w.heap.size w w'
theorem DivPost.none {w w' : World} {x : Int} (h : Below w.heap.size w w') : DivPost w ([], x) (.returned (.tuple #[.slice none 0 0, .int .i64 x])) w' := ⟨Option.none, 0, rfl, by simp, fun i x hx => by simp at hx, h⟩
theorem fErr_parts {n : Int} {es : List Edg} {d : List Int} (h : fErr n es d = 0) : gErr n es = 0 ∧ dErr n d = 0 := by
  unfold fErr at h
  split at h
  · rename_i hg; exact ⟨hg, h⟩
  · rename_i hg; exact absurd h hg
set_option maxRecDepth 100000 in
set_option maxHeartbeats 4000000 in
theorem fapply_any (n : Int) (es : List Edg) (oe : Option Addr) (c : Nat) (F : Foot) (w : World) (hs : SliceR edgR 3 F w oe es) (hc : es.length ≤ c) (hc2 : es.length ≤ 1000)
    (d : List Int) (od : Option Addr) (cd : Nat) (G : Foot) (hd : SliceR intR 1 G w od d) (hdc : d.length ≤ cd) (hdl : d.length ≤ 9223372036854775807)
    (s : List Int) (os : Option Addr) (cs : Nat) (S : Foot) (hS : SliceR intR 1 S w os s) (hsc : s.length ≤ cs) (hsl : s.length ≤ 9223372036854775807) :
    Calls Tryz.prog 39 #[.agg #[.int .i64 n, .slice oe es.length c], .slice od d.length cd, .slice os s.length cs] w (DivPost w (applyR n es d s)) := by
  have hb0 := bnew (Below.refl w.heap.size w) (.cells #[.int .i64 n, .slice oe es.length c] 24)
  have bxx := Box.new w [.int .i64 n, .slice oe es.length c] 24
  have HK := hide (fgivenG_any n es oe c F _ (hs.below edgR_ok hb0) hc (by omega) d od cd G (hd.below intR_ok hb0) hdc hdl)
  have HD := hide hd
  have HS := hide hs
  have HSS := hide hS
  have HB := hide hb0
  have HX := hide bxx
  clear hs hd hS hb0 bxx
  go_enter Tryz.func39, Tryz.ntmps39
  go_wp2_with fail
  refine HK.out.mono ?_
  rintro e w2 ⟨rfl, hb2⟩
  have HB2 := hide (below_then HB.out hb2)
  have HX2 := hide (HX.out.below hb2)
  have y0 := HX2.out.cell 0
  have y1 := HX2.out.cell 1
  simp only [List.getElem?_cons_zero, List.getElem?_cons_succ] at y0 y1
  clear hb2
  by_cases hV : fErr n es d = 0
  case neg =>
    have hR : Hid (applyR n es d s = ([], fErr n es d)) := if_pos hV
    have hq : (fErr n es d != 0) = true := by simpa using hV
    go_wp2_with fail
    go_ret2
    rw [hR.out]
    exact DivPost.none HB2.out
  have HFC := hide (fcheckG_any n es oe c F w2 (HS.out.below edgR_ok HB2.out) hc (by omega) s os cs S (HSS.out.below intR_ok HB2.out) hsc hsl)
  have HRR : Hid (applyR n es d s = if fErr n es s ≠ 0 then ([], fErr n es s) else if outB (movedL s es d) = true then ([], 11) else (movedL s es d, 0)) := if_neg (fun h => h hV)
  obtain ⟨hg, hdd⟩ := fErr_parts hV
  rw [hV]
  clear hV
  go_wp2_with fail
  refine HFC.out.mono ?_
  rintro e w3 ⟨rfl, hb3⟩
  have HB3 := hide (below_then HB2.out hb3)
  have HX3 := hide (HX2.out.below hb3)
  clear hb3 y0 y1
  have y0 := HX3.out.cell 0
  have y1 := HX3.out.cell 1
  simp only [List.getElem?_cons_zero, List.getElem?_cons_succ] at y0 y1
  by_cases hF : fErr n es s = 0
  case neg =>
    have hR : Hid (applyR n es d s = ([], fErr n es s)) := by show _ = _; rw [HRR.out, if_pos hF]
    have hq : (fErr n es s != 0) = true := by simpa using hF
    clear hg hdd
    go_wp2_with fail
    go_ret2
    rw [hR.out]
    exact DivPost.none HB3.out
  have hR : Hid (applyR n es d s = if outB (movedL s es d) = true then ([], 11) else (movedL s es d, 0)) := by show _ = _; rw [HRR.out, if_neg (fun h => h hF)]
  obtain ⟨_, hsd⟩ := fErr_parts hF
  obtain ⟨hn12, hdn, hdb⟩ := dErr_len hdd
  obtain ⟨_, hsn, hsb⟩ := dErr_len hsd
  have HMV := hide (fmoved_any n es oe c F w3 (HS.out.below edgR_ok HB3.out) hc hc2 d od cd G (HD.out.below intR_ok HB3.out) hdc (by omega) s os cs S (HSS.out.below intR_ok HB3.out) (by omega) hg hdn (fun y hy => by have := hsb y hy; omega) hdb)
  have HML : Hid ((movedL s es d).length = d.length) := moved_len _ _ _
  have HMI : Hid (∀ y ∈ movedL s es d, I64 y) := fun y hy => by
    have hve : ∀ x ∈ es, (0 ≤ x.m ∧ x.m ≤ 50) ∧ x.a.toNat < d.length ∧ x.b.toNat < d.length := fun x hx => by
      have := (gErr_zero hg).2.1 x hx
      omega
    have h1 := moved_bound (s := s) (fun y hy => by have := hsb y hy; omega) hve hdb es.length (by omega) y (by rw [List.take_length]; exact hy)
    unfold I64
    omega
  have hdl9 : d.length ≤ 12 := by omega
  rw [hF]
  clear hF hg hdd hsd hdn hsn hsb hdb HRR
  go_wp2_with fail
  refine HMV.out.mono ?_
  rintro e w4 ⟨g, cap, rest, rfl, hcap, hgl, hr, hb4⟩
  have HB4 := hide (below_then HB3.out hb4)
  have HSM : Hid (SliceR intR 1 All w4 (some ⟨g, 0, none⟩) (movedL s es d)) := hr.ints (fun y hy => HMI.out y hy) trivial
  have HBO : Hid (Calls Tryz.prog 80 #[.slice (some ⟨g, 0, none⟩) d.length cap] w4 fun e w' => e = .returned (if outB (movedL s es d) = true then .tuple #[.slice none 0 0, .int .i64 11] else .tuple #[.slice (some ⟨g, 0, none⟩) d.length cap, .int .i64 0]) ∧ w4 = w') := by
    have h5 := bounded_any (movedL s es d) (some ⟨g, 0, none⟩) cap All w4 HSM.out (by rw [HML.out]; exact hcap) (by rw [HML.out]; omega)
    rw [HML.out] at h5
    exact h5
  clear hr hb4 y0 y1 hgl
  by_cases ho : outB (movedL s es d) = true
  · have hR2 : Hid (applyR n es d s = ([], 11)) := by show _ = _; rw [hR.out, if_pos ho]
    rw [if_pos ho] at HBO
    clear ho
    go_wp2_with fail
    refine HBO.out.mono ?_
    rintro e w5 ⟨rfl, hw5⟩
    subst hw5
    go_wp2_with fail
    go_ret2
    rw [hR2.out]
    exact DivPost.none HB4.out
  · have hR2 : Hid (applyR n es d s = (movedL s es d, 0)) := by show _ = _; rw [hR.out, if_neg ho]
    rw [if_neg ho] at HBO
    clear ho
    go_wp2_with fail
    refine HBO.out.mono ?_
    rintro e w5 ⟨rfl, hw5⟩
    subst hw5
    go_wp2_with fail
    go_ret2
    rw [hR2.out]
    exact ⟨_, cap, by simp only [HML.out]; rfl, by simp only [HML.out]; exact hcap, HSM.out, HB4.out⟩
end Go.Proofs.YtpgopmmobbemcaaGreat

set_option linter.unusedVariables false
set_option linter.unusedSimpArgs false
namespace Go.Proofs.YtpgopmmobbemcaaGreat
open Go.RowKit

end Go.Proofs.YtpgopmmobbemcaaGreat

set_option linter.unusedVariables false
set_option linter.unusedSimpArgs false
set_option linter.unnecessarySimpa false
namespace Go.Proofs.YtpgopmmobbemcaaGreat
open Go.RowKit

/-- The valences. -/
def valsL (es : List Edg) (n : Nat) : Nat → List Int
  | 0 => []
  | k + 1 => valsL es n k ++ [valU es (k : Int) n]
end Go.Proofs.YtpgopmmobbemcaaGreat

set_option linter.unusedVariables false
set_option linter.unusedSimpArgs false
set_option linter.unnecessarySimpa false
namespace Go.Proofs.YtpgopmmobbemcaaGreat
open Go.RowKit

/-- The table up to row v, column w. -/
def tabP (es : List Edg) (n v w : Nat) : List (List Int) := (List.range n).map fun i => lst n fun j => if (i < v ∨ (i = v ∧ j < w)) ∧ i ≠ j then betw es i j else 0
theorem RTab.rebase {B B' : Nat} {tw : Value} {rs : List Rw} {W : World} (h : RTab B tw rs W) (hb : B' ≤ B) : RTab B' tw rs W :=
  ⟨h.tab.rebase hb, fun r hr => ⟨(h.row r hr).1, by have := (h.row r hr).2.1; omega, (h.row r hr).2.2⟩, h.inj⟩
end Go.Proofs.YtpgopmmobbemcaaGreat

set_option linter.unusedVariables false
set_option linter.unusedSimpArgs false
namespace Go.Proofs.YtpgopmmobbemcaaGreat
open Go.RowKit

end Go.Proofs.YtpgopmmobbemcaaGreat

set_option linter.unusedVariables false
set_option linter.unusedSimpArgs false
namespace Go.Proofs.YtpgopmmobbemcaaGreat
open Go.RowKit

section
variable {P : Program} {Q : Exit → Act → World → Prop} {md : Region.Mode} {S : World → Prop}

/-- What is left to do behind the others. -/
def TailQ (P : Program) (ops : Array Oper) (Q : Exit → Act → World → Prop) (last : Oper) : Exit → Act → World → Prop
  | .normal, a, w => wpList P ops Q [last] a w
  | e, a, w => Q e a w
/-- Each operation waits only for earlier ones; each but the last is waited for; no guards. -/
def tailOk (md : Region.Mode) (l : List Oper) (last : Oper) : Bool :=
  ((List.range (l.length + 1)).all fun i => (preOf md (l ++ [last]).toArray i).all fun p => decide (p < i)) &&
  ((List.range l.length).all fun j => (List.range (l.length + 1)).any fun k => decide (j < k) && (preOf md (l ++ [last]).toArray k).contains j) &&
  (l.all fun o => o.guard.isNone) && last.guard.isNone
theorem wanted_none {o : Oper} (h : o.guard.isNone = true) (y : Nat → Option Bool) : Region.wanted o y = true := by
  have h1 : o.guard = none := by simpa using h
  simp [Region.wanted, h1]
theorem upon_tail {o : Oper} {a : Act} {K K' : Act → World → Prop} {ops : Array Oper} {last : Oper} (hK : ∀ a w, K a w → K' a w) (r : _) (h : o.upon P a K (TailQ P ops Q last) r) : o.upon P a K' Q r := by
  cases r with
  | ok n w' =>
    cases n <;> simp only [Oper.upon] at h ⊢
    case value u => exact hK _ _ h
    case skip => exact hK _ _ h
    case defer d => exact hK _ _ h
    case enter f args =>
      refine Calls.mono h fun e w'' he => ?_
      cases e with
      | returned u => exact hK _ _ he
      | panicked c => exact he
      | outgrown => exact he
    case row row args => exact Rows.mono h fun u w'' he => hK _ _ he
  | halt x w' =>
    cases x <;> simp only [Oper.upon] at h ⊢
    case panic u => exact h
theorem preOf_app {l : List Oper} {last : Oper} {i : Nat} (h : i < l.length) : preOf md l.toArray i = preOf md (l ++ [last]).toArray i := by
  unfold preOf
  simp only [List.getElem?_toArray]
  rw [List.getElem?_append_left h]
theorem push_getD {b : Array Bool} {i : Nat} {d : Bool} (h : i < b.size) : (b.push false).getD i d = b.getD i d := by
  rw [Array.getD_eq_getD_getElem?, Array.getD_eq_getD_getElem?, Array.getElem?_push_lt h, Array.getElem?_eq_getElem h]
theorem wpAny_tail {l : List Oper} {last : Oper} (hck : tailOk md l last = true) :
    ∀ (fuel : Nat) (listed : Array Bool) (a : Act) (w : World), listed.size = l.length → (∀ k, listed.getD k false = true → ∀ p ∈ preOf md l.toArray k, listed.getD p false = true) →
      wpAnyH P md l.toArray (TailQ P (l ++ [last]).toArray Q last) S fuel listed a w → wpAny P md (l ++ [last]).toArray Q (fuel + 1) (listed.push false) a w := by
  unfold tailOk at hck
  simp only [Bool.and_eq_true] at hck
  obtain ⟨⟨⟨hp, hu⟩, hg⟩, hgl⟩ := hck
  have hsz : (l ++ [last]).toArray.size = l.length + 1 := by simp
  have hp' : (List.range l.toArray.size).all (fun i => (preOf md l.toArray i).all fun p => decide (p < i)) = true := by
    rw [List.all_eq_true] at hp ⊢
    intro i hi
    have hi' : i < l.length := by simpa using hi
    rw [preOf_app (last := last) hi']
    exact hp i (List.mem_range.2 (by omega))
  have hpl : ∀ i, i < l.length + 1 → ∀ p ∈ preOf md (l ++ [last]).toArray i, p < i := fun i hi p hpp => by
    have h1 := (List.all_eq_true.1 hp) i (List.mem_range.2 hi)
    simpa using (List.all_eq_true.1 h1) p hpp
  have hlastop : (l ++ [last]).toArray[l.length]? = some last := by simp
  -- if the last is ready, all others are listed
  have hall : ∀ (listed : Array Bool), listed.size = l.length → (∀ k, listed.getD k false = true → ∀ p ∈ preOf md l.toArray k, listed.getD p false = true) → (∀ p ∈ preOf md (l ++ [last]).toArray l.length, (listed.push false).getD p false = true) → ∀ m j, l.length - j = m → j < l.length → listed.getD j false = true := by
    intro listed hs hcl hr m
    induction m using Nat.strongRecOn with
    | _ m ih =>
      intro j hm hj
      have h1 := (List.all_eq_true.1 hu) j (List.mem_range.2 hj)
      obtain ⟨k, hk, h2⟩ := List.any_eq_true.1 h1
      have hk := List.mem_range.1 hk
      simp only [Bool.and_eq_true, decide_eq_true_eq, List.contains_iff_mem] at h2
      by_cases e : k = l.length
      · subst e
        have h3 := hr j h2.2
        rwa [push_getD (by omega)] at h3
      · have hkl : k < l.length := by omega
        have h3 := ih (l.length - k) (by omega) k rfl hkl
        refine hcl k h3 j ?_
        rw [preOf_app (last := last) hkl]
        exact h2.2
  have hnone : ∀ (listed : Array Bool), listed.size = l.length → (∀ j, j < l.length → listed.getD j false = true) → Region.ready md l.toArray listed = [] := by
    intro listed hs h
    rw [List.eq_nil_iff_forall_not_mem]
    intro i hi
    obtain ⟨h1, h2, _⟩ := ready_pre.1 hi
    have h3 := h i (by simpa using h1)
    rw [Array.getD_eq_getD_getElem?] at h2 h3
    have h4 : i < listed.size := by rw [hs]; simpa using h1
    rw [Array.getElem?_eq_getElem h4] at h2 h3
    simp at h2 h3
    rw [h2] at h3
    cases h3
  have hnone2 : ∀ (listed : Array Bool), listed.size = l.length → (∀ j, j < l.length → listed.getD j false = true) → Region.ready md (l ++ [last]).toArray ((listed.push false).setIfInBounds l.length true) = [] := by
    intro listed hs h
    rw [List.eq_nil_iff_forall_not_mem]
    intro i hi
    obtain ⟨h1, h2, _⟩ := ready_pre.1 hi
    rw [hsz] at h1
    rw [Array.getD_eq_getD_getElem?] at h2
    by_cases e : i = l.length
    · subst e
      rw [Array.getElem?_setIfInBounds_self_of_lt (by simp; omega)] at h2
      simp at h2
    · rw [Array.getElem?_setIfInBounds_ne (fun h => e h.symm)] at h2
      have h3 := h i (by omega)
      rw [Array.getD_eq_getD_getElem?] at h3
      have h4 : i < listed.size := by omega
      rw [Array.getElem?_push_lt h4] at h2
      rw [Array.getElem?_eq_getElem h4] at h3
      simp at h2 h3
      rw [h2] at h3
      cases h3
  have hlast : ∀ (listed : Array Bool) (a : Act) (w : World) (K : Act → World → Prop), wpList P (l ++ [last]).toArray Q [last] a w → (∀ a' w', Q .normal a' w' → K a' w') → wpOp P (l ++ [last]).toArray Q l.length K a w := by
    intro listed a w K h hK
    unfold wpOp
    rw [hlastop]
    simp only
    unfold wpList at h
    have hw := wanted_none hgl (yielded (l ++ [last]).toArray a.tmps)
    rw [if_pos hw] at h ⊢
    rcases h with h | h
    · exact .inl (Oper.wp_mono (fun a' w' h' => hK a' w' h') h)
    · exact .inr h
  have hin : ∀ (listed : Array Bool) (i : Nat), listed.size = l.length → i ∈ Region.ready md (l ++ [last]).toArray (listed.push false) → i ≠ l.length → i ∈ Region.ready md l.toArray listed := by
    intro listed i hs hi hne
    obtain ⟨h1, h2, h3⟩ := ready_pre.1 hi
    rw [hsz] at h1
    have hil : i < l.length := by omega
    refine ready_pre.2 ⟨by simpa using hil, ?_, fun p hpp => ?_⟩
    · rwa [push_getD (by omega)] at h2
    · rw [preOf_app (last := last) hil] at hpp
      have h4 := h3 p hpp
      have h5 := hpl i (by omega) p hpp
      rwa [push_getD (by omega)] at h4
  have hnil : ∀ (listed : Array Bool), listed.size = l.length → Region.ready md (l ++ [last]).toArray (listed.push false) ≠ [] := by
    intro listed hs h
    have h1 := ready_nil_all (md := md) (ops := (l ++ [last]).toArray) (by rw [hsz]; exact hp) (by rw [hsz, Array.size_push, hs]) h l.length (by rw [hsz]; omega)
    rw [Array.getD_eq_getD_getElem?, ← hs] at h1
    simp at h1
  intro fuel
  induction fuel with
  | zero =>
    intro listed a w hs hcl h
    obtain ⟨h1, h2⟩ := h
    have hal := ready_nil_all hp' (by simpa using hs) h1
    have hal' : ∀ j, j < l.length → listed.getD j false = true := fun j hj => hal j (by simpa using hj)
    refine ⟨fun h => absurd h (hnil listed hs), fun i hi => ?_⟩
    by_cases e : i = l.length
    · subst e
      exact hlast listed a w _ h2 fun a' w' hq => ⟨hnone2 listed hs hal', hq⟩
    · have h3 := hin listed i hs hi e
      rw [h1] at h3
      cases h3
  | succ fuel ih =>
    intro listed a w hs hcl h
    obtain ⟨h1, h2⟩ := h
    refine ⟨fun h => absurd h (hnil listed hs), fun i hi => ?_⟩
    by_cases e : i = l.length
    · subst e
      have hal := hall listed hs hcl (fun p hpp => (ready_pre.1 hi).2.2 p hpp)
      have hal' : ∀ j, j < l.length → listed.getD j false = true := fun j hj => hal _ j rfl hj
      have hr := hnone listed hs hal'
      refine hlast listed a w _ (h1 hr) fun a' w' hq => ?_
      have hn := hnone2 listed hs hal'
      refine ⟨fun _ => hq, fun j hj => ?_⟩
      rw [hn] at hj
      cases hj
    · have h3 := hin listed i hs hi e
      obtain ⟨g1, g2, g3⟩ := ready_pre.1 h3
      have hil : i < l.length := by simpa using g1
      have h4 := h2 i h3
      have ho : l.toArray[i]? = some l[i] := by simp [hil]
      have ho2 : (l ++ [last]).toArray[i]? = some l[i] := by
        simp only [List.getElem?_toArray]
        rw [List.getElem?_append_left hil, List.getElem?_eq_getElem hil]
      unfold wpOp at h4 ⊢
      rw [ho] at h4
      rw [ho2]
      simp only at h4 ⊢
      have hgi := (List.all_eq_true.1 hg) l[i] (List.getElem_mem hil)
      rw [if_pos (wanted_none hgi _)] at h4 ⊢
      have hset : (listed.push false).setIfInBounds i true = (listed.setIfInBounds i true).push false := by
        apply Array.ext_getElem?
        intro j
        rw [Array.getElem?_setIfInBounds, Array.getElem?_push, Array.getElem?_push, Array.getElem?_setIfInBounds]
        simp only [Array.size_push, Array.size_setIfInBounds]
        by_cases e2 : i = j
        · subst e2
          rw [if_pos rfl, if_pos (by omega), if_neg (by omega), if_pos rfl, if_pos (by omega)]
        · rw [if_neg e2, if_neg e2]
      rcases h4 with h4 | h4
      · refine .inl ?_
        unfold Oper.wp at h4 ⊢
        refine upon_tail (fun a' w' h5 => ?_) _ h4
        rw [hset]
        refine ih _ a' w' (by simpa using hs) (fun k hk p hpp => ?_) h5.2
        have hkeep : ∀ q, listed.getD q false = true → (listed.setIfInBounds i true).getD q false = true := fun q hq => by
          rw [Array.getD_eq_getD_getElem?] at hq ⊢
          by_cases e2 : i = q
          · subst e2
            rw [Array.getElem?_setIfInBounds_self_of_lt (by omega)]
            rfl
          · rw [Array.getElem?_setIfInBounds_ne e2]
            exact hq
        by_cases e2 : i = k
        · subst e2
          exact hkeep p (g3 p hpp)
        · exact hkeep p (hcl k (listed_set e2 hk) p hpp)
      · exact .inr h4
theorem wp_region_tail {id : Nat} {l : List Oper} {last : Oper} {a : Act} {w : World} (hm : P.follows .mixedOrders = true) (hck : tailOk .any l last = true) (hS : S w.drew)
    (h : S w.drew → wpAnyH P .any l.toArray (TailQ P (l ++ [last]).toArray Q last) S l.toArray.size (Array.replicate l.toArray.size false) a w.drew) : (Code.region id (l ++ [last]).toArray true).wp P Q a w := by
  refine wp_region_any hm ?_
  have h1 := wpAny_tail (P := P) (Q := Q) hck l.toArray.size (Array.replicate l.toArray.size false) a w.drew (by simp) (fun k hk => by
    rw [Array.getD_eq_getD_getElem?, Array.getElem?_replicate] at hk
    split at hk <;> simp at hk) (h hS)
  have e1 : (Array.replicate l.toArray.size false).push false = Array.replicate (l ++ [last]).toArray.size false := by
    rw [← Array.replicate_succ]
    simp
  have e2 : l.toArray.size + 1 = (l ++ [last]).toArray.size := by simp
  rw [e1, e2] at h1
  exact h1
end
end Go.Proofs.YtpgopmmobbemcaaGreat

set_option linter.unusedVariables false
set_option linter.unusedSimpArgs false
set_option linter.unnecessarySimpa false
namespace Go.Proofs.YtpgopmmobbemcaaGreat
open Go.RowKit

theorem i64_sam2 {n : Int} (h : -9223372036854775808 ≤ n ∧ n ≤ 9223372036854775807) : IntKind.i64.wrap n = n := by
  simp only [IntKind.wrap, IntKind.signed, IntKind.bits]
  simp
  omega
/-- What reaches v from the first u vertices. -/
def mvU (es : List Edg) (s : List Int) (v : Nat) : Nat → Int
  | 0 => 0
  | u + 1 => mvU es s v u + if v = u then 0 else betw es v u * (s.getD u 0 - s.getD v 0)
theorem mvU_bound {es : List Edg} {s : List Int} (hm : ∀ x ∈ es, 0 ≤ x.m ∧ x.m ≤ 50) (hs : ∀ u : Nat, -1048576 ≤ s.getD u 0 ∧ s.getD u 0 ≤ 1048576) (v : Nat) : ∀ u : Nat, -(104857600 * (u : Int)) ≤ mvU es s v u ∧ mvU es s v u ≤ 104857600 * (u : Int)
  | 0 => by simp [mvU]
  | u + 1 => by
    have ih := mvU_bound hm hs v u
    have h1 := hs u
    have h2 := hs v
    have h3 := flow_bound (m := betw es v u) (betw_range hm v u) (by have := hs u; omega : -2097152 ≤ s.getD u 0 ∧ s.getD u 0 ≤ 2097152) (by have := hs v; omega : -2097152 ≤ s.getD v 0 ∧ s.getD v 0 ≤ 2097152)
    unfold mvU
    split
    · push_cast; omega
    · have h4 : -104857600 ≤ betw es v u * (s.getD u 0 - s.getD v 0) ∧ betw es v u * (s.getD u 0 - s.getD v 0) ≤ 104857600 := by
        have hb := betw_range hm (v : Int) (u : Int)
        constructor
        · have := Int.mul_le_mul_of_nonneg_left (show -2097152 ≤ s.getD u 0 - s.getD v 0 by omega) hb.1
          have h5 : betw es v u * (-2097152) ≥ 50 * (-2097152) := by omega
          omega
        · have := Int.mul_le_mul_of_nonneg_left (show s.getD u 0 - s.getD v 0 ≤ 2097152 by omega) hb.1
          have h5 : betw es v u * 2097152 ≤ 50 * 2097152 := by omega
          omega
      push_cast
      omega
/-- The divisor under way: row v, up to u. -/
def mvP (es : List Edg) (s : List Int) (D : Nat → Int) (N v u : Nat) : Nat → Int := fun i => if i < v then D i + mvU es s i N else if i = v then D i + mvU es s i u else D i
theorem mvP_next (es : List Edg) (s : List Int) (D : Nat → Int) (N v : Nat) : ∀ i, mvP es s D N v N i = mvP es s D N (v + 1) 0 i := fun i => by
  unfold mvP
  by_cases h1 : i < v
  · rw [if_pos h1, if_pos (by omega)]
  · rw [if_neg h1]
    by_cases h2 : i = v
    · rw [if_pos h2, if_pos (by omega)]
    · rw [if_neg h2, if_neg (by omega)]
      by_cases h3 : i = v + 1
      · rw [if_pos h3]; simp [mvU]
      · rw [if_neg h3]
theorem mvP_same {es : List Edg} {s : List Int} {D : Nat → Int} {N v u : Nat} (h : v = u) : mvP es s D N v (u + 1) = mvP es s D N v u := by
  funext i
  unfold mvP
  by_cases h1 : i < v
  · rw [if_pos h1, if_pos h1]
  · rw [if_neg h1, if_neg h1]
    by_cases h2 : i = v
    · rw [if_pos h2, if_pos h2]
      show D i + (mvU es s i u + if i = u then 0 else _) = D i + mvU es s i u
      rw [if_pos (by omega)]
      omega
    · rw [if_neg h2, if_neg h2]
theorem mvP_set {es : List Edg} {s : List Int} {D : Nat → Int} {N v u : Nat} (h : v ≠ u) : mvP es s D N v (u + 1) = updF (mvP es s D N v u) v (mvP es s D N v u v + betw es v u * (s.getD u 0 - s.getD v 0)) := by
  funext i
  unfold updF
  by_cases e : i = v
  · subst e
    rw [if_pos rfl]
    unfold mvP
    rw [if_neg (by omega), if_pos rfl, if_neg (by omega), if_pos rfl]
    show D i + (mvU es s i u + _) = _
    rw [if_neg h]
    omega
  · rw [if_neg e]
    unfold mvP
    by_cases h1 : i < v
    · rw [if_pos h1, if_pos h1]
    · rw [if_neg h1, if_neg h1, if_neg e, if_neg e]
set_option maxRecDepth 100000 in
set_option maxHeartbeats 8000000 in
theorem rmoved_any {N : Nat} {es : List Edg} (hok : EOk N es) (h12 : 1 ≤ N ∧ N ≤ 12) (oe : Option Addr) (c : Nat) (F : Foot) (w : World) (hs : SliceR edgR 3 F w oe es) (hc : es.length ≤ c) (d : List Int) (od : Option Addr) (cd : Nat) (G : Foot) (hd : SliceR intR 1 G w od d) (hdc : N ≤ cd) (hdN : d.length = N)
    (s : List Int) (os : Option Addr) (cs : Nat) (S : Foot) (hS : SliceR intR 1 S w os s) (hsN : s.length = N) (hsc : N ≤ cs) (hsb : Hid (∀ y ∈ s, -1048576 ≤ y ∧ y ≤ 1048576)) (hdb : Hid (∀ y ∈ d, -1048576 ≤ y ∧ y ≤ 1048576)) :
    Calls Tryz.prog 76 #[.agg #[.int .i64 N, .slice oe es.length c], .slice od N cd, .slice os N cs] w fun e w' =>
      ∃ g cap rest, e = .returned (.slice (some ⟨g, 0, none⟩) N cap) ∧ N ≤ cap ∧ Row1 (Value.int .i64) w' g 3 (lst N fun i => d.getD i 0 + mvU es s i N) rest ∧ Below w.heap.size w w' := by
  obtain ⟨_, _, _, _, bd, ofd, hod, _, _⟩ := hd.int_at (i := 0) (by omega)
  subst hod
  obtain ⟨D, hD⟩ : ∃ D : Nat → Int, D = fun i => d.getD i 0 := ⟨_, rfl⟩
  have HDE : Hid (D = fun i => d.getD i 0) := hD
  have HDL : Hid (d = lst N (mvP es s D N 0 0)) := by
    show _ = _
    apply List.ext_getElem?
    intro i
    by_cases hi : i < N
    · rw [lst_get _ hi, List.getElem?_eq_getElem (by omega)]
      unfold mvP
      have e : D i = d[i]'(by omega) := by rw [hD]; show d.getD i 0 = _; rw [List.getD_eq_getElem?_getD, List.getElem?_eq_getElem (by omega)]; rfl
      by_cases h0 : i = 0
      · rw [if_neg (by omega), if_pos h0, e]; simp [mvU]
      · rw [if_neg (by omega), if_neg h0, e]
    · rw [List.getElem?_eq_none (by omega), List.getElem?_eq_none (by rw [lst_len]; omega)]
  have hm : ∀ x ∈ es, 0 ≤ x.m ∧ x.m ≤ 50 := fun x hx => by have := (hok.at_ x hx).2; omega
  have hsg : ∀ u : Nat, -1048576 ≤ s.getD u 0 ∧ s.getD u 0 ≤ 1048576 := fun u => by
    rw [List.getD_eq_getElem?_getD]
    cases h : s[u]? with
    | none => simp
    | some x => have := hsb.out x (List.mem_of_getElem? h); simpa using this
  have hdg : ∀ u : Nat, -1048576 ≤ D u ∧ D u ≤ 1048576 := fun u => by
    rw [hD]
    show -1048576 ≤ d.getD u 0 ∧ d.getD u 0 ≤ 1048576
    rw [List.getD_eq_getElem?_getD]
    cases h : d[u]? with
    | none => simp
    | some x => have := hdb.out x (List.mem_of_getElem? h); simpa using this
  have hes := hok.len
  have HMG := hide hm
  have HSG := hide hsg
  have HPB : Hid (∀ v u i : Nat, u ≤ N → -2000000000 ≤ mvP es s D N v u i ∧ mvP es s D N v u i ≤ 2000000000) := fun v u i hu => by
    have h1 := mvU_bound hm hsg i N
    have h2 := mvU_bound hm hsg i u
    have h3 := hdg i
    unfold mvP
    split
    · omega
    · split <;> omega
  obtain ⟨W1, e1⟩ : ∃ W1, w.alloc (.cells #[.int .i64 N, .slice oe es.length c] 24) = W1 := ⟨_, rfl⟩
  have bx1 : Box W1 w.heap.size [.int .i64 N, .slice oe es.length c] 24 := by rw [← e1]; exact Box.new w [.int .i64 N, .slice oe es.length c] 24
  have bb1 := bnew (Below.refl w.heap.size w) (.cells #[.int .i64 N, .slice oe es.length c] 24)
  rw [e1] at bb1
  have HX := hide bx1
  have HB1 := hide bb1
  have hwl := bx1.lt
  have HS1 := hide (hs.below edgR_ok bb1)
  have HSS1 := hide (hS.below intR_ok bb1)
  have HD1 := hide (hd.below intR_ok bb1)
  have HSN := hide hsN
  have HDN := hide hdN
  clear hs hS hd bx1 bb1 hm hsg hdg hok hD hsN hdN
  have HOM : Hid (OwnS intR 1 W1.heap.size 3 Non (W1.alloc (.cells #[] 3)) (.slice (some ⟨W1.heap.size, 0, none⟩) 0 0) []) := OwnS.made _ _ _ _ _
  go_enter Tryz.func76, Tryz.ntmps76
  go_wp2_with (at_builtin; refine wpList_append_rep rfl (.tmp 10) (.tmp 11) 28 rfl W1.heap.size 3 _ 1 8 Tryz.underlying28 iInfo rfl (by decide) intR_ok Non G (.slice (some ⟨W1.heap.size, 0, none⟩) 0 0) [] (by simp [Act.eval, Act.put]) HOM.out (some ⟨bd, ofd, none⟩) cd d (by rw [HDN.out]; simp [Act.eval, Act.put]) (HD1.out.below intR_ok (bnew (Below.refl _ _) _)) (fun _ _ h => h) (fun _ h => h.elim) (by rw [HDN.out]; simp; omega) (by rw [HDN.out]; simp; omega) (by simp) ?_; intro v' w2 ho hb2 hg2; have HO2 := hide ho; have HB2 := hide hb2; clear ho hb2 hg2)
  obtain ⟨gd, cap, rest, hv', hgd, hcap0, _, hrow, _⟩ := HO2.out.row (xs := [] ++ d) (by intro e; have h9 := HDN.out; simp at e; rw [e] at h9; simp at h9; omega)
  rw [List.nil_append] at hrow hv' hcap0
  have HR2 : Hid (Row1 (Value.int .i64) w2 gd 3 (lst N (mvP es s D N 0 0)) rest) := by rw [← HDL.out]; exact hrow
  have HBW : Hid (Below W1.heap.size W1 w2) := (bnew (Below.refl _ _) _).trans HB2.out
  have hcap : N ≤ cap := by rw [HDN.out] at hcap0; omega
  rw [HDN.out] at hv'
  subst hv'
  clear hrow hcap0 e1 HO2
  go_wp2_with fail
  go_loopg [8] N (fun gm iv wx => ∃ v : Nat, v ≤ N ∧ gm = N - v ∧ iv = .int .i64 v ∧ Hid (Row1 (Value.int .i64) wx gd 3 (lst N (mvP es s D N v 0)) rest) ∧ Hid (Below W1.heap.size W1 wx))
  case atStart => exact ⟨0, by omega, by omega, rfl, HR2, HBW⟩
  case round =>
    obtain ⟨v, hv, hgm, rfl, HR, HB⟩ := hrel
    have HGM := hide hgm
    have bx := HX.out.below HB.out
    have y0 := bx.cell 0
    simp only [List.getElem?_cons_zero] at y0
    clear hgm bx
    by_cases hlt : v < N
    · go_wp2_with fail
      clear y0
      go_loopg [9] N (fun gm iv wx => ∃ u : Nat, u ≤ N ∧ gm = N - u ∧ iv = .int .i64 u ∧ Hid (Row1 (Value.int .i64) wx gd 3 (lst N (mvP es s D N v u)) rest) ∧ Hid (Below W1.heap.size W1 wx))
      case atStart => exact ⟨0, by omega, by omega, rfl, HR, HB⟩
      case round =>
        clear HR HB
        obtain ⟨u, hu, hgm, rfl, HR, HB⟩ := hrel
        have HGM2 := hide hgm
        have bx := HX.out.below HB.out
        have y0 := bx.cell 0
        have y1 := bx.cell 1
        simp only [List.getElem?_cons_zero, List.getElem?_cons_succ] at y0 y1
        clear hgm bx
        by_cases hlu : u < N
        · by_cases hvu : v = u
          · have HL2 : Hid (Row1 (Value.int .i64) wr gd 3 (lst N (mvP es s D N v (u + 1))) rest) := by show Row1 _ _ _ _ _ _; rw [mvP_same hvu]; exact HR.out
            have hq : ((v : Int) != (u : Int)) = false := by simp [hvu]
            clear hvu
            go_wp2_with fail
            go_roundg (N - (u + 1))
            case rel => exact ⟨u + 1, by omega, rfl, by go_num, HL2, HB⟩
            case measure => rw [HGM2.out]; omega
          · have hq : ((v : Int) != (u : Int)) = true := by simp; omega
            obtain ⟨z, hz⟩ : ∃ z, z = mvP es s D N v u v := ⟨_, rfl⟩
            have hzb := HPB.out v u v hu
            rw [← hz] at hzb
            have cz : wr.cell? ⟨gd, v, none⟩ = some (.int .i64 z) := by rw [hz]; exact HR.out.cell (lst_get _ hlt)
            have HFZ : Hid (∀ W, Below wr.heap.size wr W → W.frozen? ⟨gd, v, none⟩ = false) := fun W hW => (HR.out.below hW).free v
            have fz := HFZ.out wr (Below.refl _ _)
            obtain ⟨sw, _, hsw, _, b1, o1, hos1, _, cw⟩ := (HSS1.out.below intR_ok HB.out).int_at (i := u) (by rw [HSN.out]; exact hlu)
            subst hos1
            obtain ⟨sv, _, hsv, _, b2, o2, hos2, _, cv⟩ := (HSS1.out.below intR_ok HB.out).int_at (i := v) (by rw [HSN.out]; exact hlt)
            injection hos2 with hos2
            injection hos2 with e1 e2
            subst e1 e2
            have hswb := hsb.out sw (List.mem_of_getElem? hsw)
            have hsvb := hsb.out sv (List.mem_of_getElem? hsv)
            have hcw := World.block_lt_of_cell? _ _ cw
            have HBT := hide (fun (W : World) (hW : Below wr.heap.size wr W) => betw_any (N : Int) es oe c F W ((HS1.out.below edgR_ok HB.out).below edgR_ok hW) hc (by omega) (v : Int) (u : Int))
            have hbr := betw_range HMG.out (v : Int) (u : Int)
            obtain ⟨x, hx⟩ : ∃ x, x = betw es (v : Int) (u : Int) := ⟨_, rfl⟩
            rw [← hx] at HBT hbr
            obtain ⟨pr, hpr⟩ : ∃ pr, pr = x * (sw - sv) := ⟨_, rfl⟩
            have hprb : -209715200 ≤ pr ∧ pr ≤ 209715200 := by
              rw [hpr]
              constructor
              · have h5 := Int.mul_le_mul_of_nonneg_left (show -4194304 ≤ sw - sv by omega) hbr.1
                have h6 : x * (-4194304) ≥ 50 * (-4194304) := by omega
                omega
              · have h5 := Int.mul_le_mul_of_nonneg_left (show sw - sv ≤ 4194304 by omega) hbr.1
                have h6 : x * 4194304 ≤ 50 * 4194304 := by omega
                omega
            have HRT : Hid (∀ W, Below wr.heap.size wr W → Row1 (Value.int .i64) (W.setCell ⟨gd, v, none⟩ (.int .i64 (z + pr))) gd 3 (lst N (mvP es s D N v (u + 1))) rest) := fun W hW => by
              have h5 := (HR.out.below hW).put (i := v) (by rw [lst_len]; exact hlt) (z + pr)
              rw [lst_set] at h5
              rw [mvP_set hvu, ← hz, List.getD_eq_getElem?_getD, hsw, List.getD_eq_getElem?_getD, hsv, Option.getD_some, Option.getD_some, ← hx, ← hpr]
              exact h5
            have HPR := hide hpr
            have hw1 : IntKind.i64.wrap (sw - sv) = sw - sv := i64_sam2 (by omega)
            have hw2 : IntKind.i64.wrap (x * (sw - sv)) = pr := by rw [← hpr]; exact i64_sam2 (by omega)
            have hw3 : IntKind.i64.wrap (z + pr) = z + pr := i64_sam2 (by omega)
            have HBZ := hide (Below.refl wr.heap.size wr)
            have hne1 : w.heap.size ≠ gd := by omega
            have HNE2 : Hid (b1 ≠ gd → True) := fun _ => trivial
            have hv0 : (0 : Int) ≤ v := by omega
            have hv1 : (v : Int) < N := by omega
            have hu0 : (0 : Int) ≤ u := by omega
            have hu1 : (u : Int) < N := by omega
            clear hvu hx hz hsw hsv
            go_wp2_with fail
            refine wp_region_tail (l := [?q1a0, ?q1a1, ?q1a2, ?q1a3, ?q1a4, ?q1a5, ?q1a6, ?q1a7, ?q1a8, ?q1a9, ?q1a10, ?q1a11, ?q1a12, ?q1a13, ?q1a14, ?q1a15, ?q1a16, ?q1a17, ?q1a18, ?q1a19]) (last := ?q1al) (S := fun w' => w'.cell? ⟨w.heap.size, 0, none⟩ = some (.int .i64 N) ∧ w'.cell? ⟨w.heap.size, 1, none⟩ = some (.slice oe es.length c) ∧ w'.cell? ⟨gd, v, none⟩ = some (.int .i64 z) ∧ w'.cell? ⟨b1, o1 + u, none⟩ = some (.int .i64 sw) ∧ w'.cell? ⟨b1, o1 + v, none⟩ = some (.int .i64 sv)) (by kernel_rfl) (by kernel_rfl) ⟨y0, y1, cz, cw, cv⟩ (fun hHeld => ?_)
            refine wpAnyH_take (i := 0) (oi := ?q1oi0) (v := ?q1v0) ?q1hi0 (by kernel_rfl) (by kernel_rfl) (by kernel_rfl) ?q1hq0 ?q1hy0 (by assumption) ?q1rest0
            case q1hi0 => simp only [List.getElem?_toArray, List.getElem?_cons_zero, List.getElem?_cons_succ]; rfl
            case q1hq0 => exact fun _ _ _ h => h
            case q1hy0 => refine Or.inl ⟨by rfl, ?_⟩; intro w hSw; (try dsimp only at hSw); go_simp; (try with_reducible rfl)
            try simp only [Act.put, List.setIfInBounds_toArray, List.set_cons_zero, List.set_cons_succ]
            refine wpAnyH_take (i := 1) (oi := ?q1oi1) (v := ?q1v1) ?q1hi1 (by kernel_rfl) (by kernel_rfl) (by kernel_rfl) ?q1hq1 ?q1hy1 (by assumption) ?q1rest1
            case q1hi1 => simp only [List.getElem?_toArray, List.getElem?_cons_zero, List.getElem?_cons_succ]; rfl
            case q1hq1 => exact fun _ _ _ h => h
            case q1hy1 => refine Or.inl ⟨by rfl, ?_⟩; intro w hSw; (try dsimp only at hSw); go_simp; (try with_reducible rfl)
            try simp only [Act.put, List.setIfInBounds_toArray, List.set_cons_zero, List.set_cons_succ]
            refine wpAnyH_take (i := 2) (oi := ?q1oi2) (v := ?q1v2) ?q1hi2 (by kernel_rfl) (by kernel_rfl) (by kernel_rfl) ?q1hq2 ?q1hy2 (by assumption) ?q1rest2
            case q1hi2 => simp only [List.getElem?_toArray, List.getElem?_cons_zero, List.getElem?_cons_succ]; rfl
            case q1hq2 => exact fun _ _ _ h => h
            case q1hy2 => refine Or.inl ⟨by rfl, ?_⟩; intro w hSw; (try dsimp only at hSw); go_simp; (try with_reducible rfl)
            try simp only [Act.put, List.setIfInBounds_toArray, List.set_cons_zero, List.set_cons_succ]
            refine wpAnyH_take (i := 3) (oi := ?q1oi3) (v := ?q1v3) ?q1hi3 (by kernel_rfl) (by kernel_rfl) (by kernel_rfl) ?q1hq3 ?q1hy3 (by assumption) ?q1rest3
            case q1hi3 => simp only [List.getElem?_toArray, List.getElem?_cons_zero, List.getElem?_cons_succ]; rfl
            case q1hq3 => exact fun _ _ _ h => h
            case q1hy3 => refine Or.inl ⟨by rfl, ?_⟩; intro w hSw; (try dsimp only at hSw); go_simp; (try with_reducible rfl)
            try simp only [Act.put, List.setIfInBounds_toArray, List.set_cons_zero, List.set_cons_succ]
            refine wpAnyH_take (i := 4) (oi := ?q1oi4) (v := ?q1v4) ?q1hi4 (by kernel_rfl) (by kernel_rfl) (by kernel_rfl) ?q1hq4 ?q1hy4 (by assumption) ?q1rest4
            case q1hi4 => simp only [List.getElem?_toArray, List.getElem?_cons_zero, List.getElem?_cons_succ]; rfl
            case q1hq4 => exact fun _ _ _ h => h
            case q1hy4 => refine Or.inl ⟨by rfl, ?_⟩; intro w hSw; (try dsimp only at hSw); go_simp; (try with_reducible rfl)
            try simp only [Act.put, List.setIfInBounds_toArray, List.set_cons_zero, List.set_cons_succ]
            refine wpAnyH_take (i := 5) (oi := ?q1oi5) (v := ?q1v5) ?q1hi5 (by kernel_rfl) (by kernel_rfl) (by kernel_rfl) ?q1hq5 ?q1hy5 (by assumption) ?q1rest5
            case q1hi5 => simp only [List.getElem?_toArray, List.getElem?_cons_zero, List.getElem?_cons_succ]; rfl
            case q1hq5 => exact fun _ _ _ h => h
            case q1hy5 => refine Or.inl ⟨by rfl, ?_⟩; intro w hSw; (try dsimp only at hSw); go_simp; (try with_reducible rfl)
            try simp only [Act.put, List.setIfInBounds_toArray, List.set_cons_zero, List.set_cons_succ]
            refine wpAnyH_take (i := 6) (oi := ?q1oi6) (v := ?q1v6) ?q1hi6 (by kernel_rfl) (by kernel_rfl) (by kernel_rfl) ?q1hq6 ?q1hy6 (by assumption) ?q1rest6
            case q1hi6 => simp only [List.getElem?_toArray, List.getElem?_cons_zero, List.getElem?_cons_succ]; rfl
            case q1hq6 => exact fun _ _ _ h => h
            case q1hy6 => refine Or.inl ⟨by rfl, ?_⟩; intro w hSw; (try dsimp only at hSw); go_simp; (try with_reducible rfl)
            try simp only [Act.put, List.setIfInBounds_toArray, List.set_cons_zero, List.set_cons_succ]
            refine wpAnyH_take (i := 8) (oi := ?q1oi8) (v := ?q1v8) ?q1hi8 (by kernel_rfl) (by kernel_rfl) (by kernel_rfl) ?q1hq8 ?q1hy8 (by assumption) ?q1rest8
            case q1hi8 => simp only [List.getElem?_toArray, List.getElem?_cons_zero, List.getElem?_cons_succ]; rfl
            case q1hq8 => exact fun _ _ _ h => h
            case q1hy8 => refine Or.inl ⟨by rfl, ?_⟩; intro w hSw; (try dsimp only at hSw); go_simp; (try with_reducible rfl)
            try simp only [Act.put, List.setIfInBounds_toArray, List.set_cons_zero, List.set_cons_succ]
            refine wpAnyH_take (i := 9) (oi := ?q1oi9) (v := ?q1v9) ?q1hi9 (by kernel_rfl) (by kernel_rfl) (by kernel_rfl) ?q1hq9 ?q1hy9 (by assumption) ?q1rest9
            case q1hi9 => simp only [List.getElem?_toArray, List.getElem?_cons_zero, List.getElem?_cons_succ]; rfl
            case q1hq9 => exact fun _ _ _ h => h
            case q1hy9 => refine Or.inl ⟨by rfl, ?_⟩; intro w hSw; (try dsimp only at hSw); go_simp; (try with_reducible rfl)
            try simp only [Act.put, List.setIfInBounds_toArray, List.set_cons_zero, List.set_cons_succ]
            refine wpAnyH_take (i := 10) (oi := ?q1oi10) (v := ?q1v10) ?q1hi10 (by kernel_rfl) (by kernel_rfl) (by kernel_rfl) ?q1hq10 ?q1hy10 (by assumption) ?q1rest10
            case q1hi10 => simp only [List.getElem?_toArray, List.getElem?_cons_zero, List.getElem?_cons_succ]; rfl
            case q1hq10 => exact fun _ _ _ h => h
            case q1hy10 => refine Or.inl ⟨by rfl, ?_⟩; intro w hSw; (try dsimp only at hSw); go_simp; (try with_reducible rfl)
            try simp only [Act.put, List.setIfInBounds_toArray, List.set_cons_zero, List.set_cons_succ]
            refine wpAnyH_take (i := 11) (oi := ?q1oi11) (v := ?q1v11) ?q1hi11 (by kernel_rfl) (by kernel_rfl) (by kernel_rfl) ?q1hq11 ?q1hy11 (by assumption) ?q1rest11
            case q1hi11 => simp only [List.getElem?_toArray, List.getElem?_cons_zero, List.getElem?_cons_succ]; rfl
            case q1hq11 => exact fun _ _ _ h => h
            case q1hy11 => refine Or.inl ⟨by rfl, ?_⟩; intro w hSw; (try dsimp only at hSw); go_simp; (try with_reducible rfl)
            try simp only [Act.put, List.setIfInBounds_toArray, List.set_cons_zero, List.set_cons_succ]
            refine wpAnyH_take (i := 12) (oi := ?q1oi12) (v := ?q1v12) ?q1hi12 (by kernel_rfl) (by kernel_rfl) (by kernel_rfl) ?q1hq12 ?q1hy12 (by assumption) ?q1rest12
            case q1hi12 => simp only [List.getElem?_toArray, List.getElem?_cons_zero, List.getElem?_cons_succ]; rfl
            case q1hq12 => exact fun _ _ _ h => h
            case q1hy12 => refine Or.inl ⟨by rfl, ?_⟩; intro w hSw; (try dsimp only at hSw); go_simp; (try with_reducible rfl)
            try simp only [Act.put, List.setIfInBounds_toArray, List.set_cons_zero, List.set_cons_succ]
            refine wpAnyH_take (i := 13) (oi := ?q1oi13) (v := ?q1v13) ?q1hi13 (by kernel_rfl) (by kernel_rfl) (by kernel_rfl) ?q1hq13 ?q1hy13 (by assumption) ?q1rest13
            case q1hi13 => simp only [List.getElem?_toArray, List.getElem?_cons_zero, List.getElem?_cons_succ]; rfl
            case q1hq13 => exact fun _ _ _ h => h
            case q1hy13 => refine Or.inl ⟨by rfl, ?_⟩; intro w hSw; (try dsimp only at hSw); go_simp; (try with_reducible rfl)
            try simp only [Act.put, List.setIfInBounds_toArray, List.set_cons_zero, List.set_cons_succ]
            refine wpAnyH_take (i := 14) (oi := ?q1oi14) (v := ?q1v14) ?q1hi14 (by kernel_rfl) (by kernel_rfl) (by kernel_rfl) ?q1hq14 ?q1hy14 (by assumption) ?q1rest14
            case q1hi14 => simp only [List.getElem?_toArray, List.getElem?_cons_zero, List.getElem?_cons_succ]; rfl
            case q1hq14 => exact fun _ _ _ h => h
            case q1hy14 => refine Or.inl ⟨by rfl, ?_⟩; intro w hSw; (try dsimp only at hSw); go_simp; (try with_reducible rfl)
            try simp only [Act.put, List.setIfInBounds_toArray, List.set_cons_zero, List.set_cons_succ]
            refine wpAnyH_take (i := 15) (oi := ?q1oi15) (v := ?q1v15) ?q1hi15 (by kernel_rfl) (by kernel_rfl) (by kernel_rfl) ?q1hq15 ?q1hy15 (by assumption) ?q1rest15
            case q1hi15 => simp only [List.getElem?_toArray, List.getElem?_cons_zero, List.getElem?_cons_succ]; rfl
            case q1hq15 => exact fun _ _ _ h => h
            case q1hy15 => refine Or.inl ⟨by rfl, ?_⟩; intro w hSw; (try dsimp only at hSw); go_simp; (try with_reducible rfl)
            try simp only [Act.put, List.setIfInBounds_toArray, List.set_cons_zero, List.set_cons_succ]
            refine wpAnyH_take (i := 16) (oi := ?q1oi16) (v := ?q1v16) ?q1hi16 (by kernel_rfl) (by kernel_rfl) (by kernel_rfl) ?q1hq16 ?q1hy16 (by assumption) ?q1rest16
            case q1hi16 => simp only [List.getElem?_toArray, List.getElem?_cons_zero, List.getElem?_cons_succ]; rfl
            case q1hq16 => exact fun _ _ _ h => h
            case q1hy16 => refine Or.inl ⟨by rfl, ?_⟩; intro w hSw; (try dsimp only at hSw); go_simp; (try with_reducible rfl)
            try simp only [Act.put, List.setIfInBounds_toArray, List.set_cons_zero, List.set_cons_succ]
            refine wpAnyH_ready (rs := [7]) (by kernel_rfl) (by simp) ?_
            refine AllReadyH.cons (o := ?q1oi7) ?q1hi7 ?q1rest7 AllReadyH.nil
            case q1hi7 => simp only [List.getElem?_toArray, List.getElem?_cons_zero, List.getElem?_cons_succ]; rfl
            intro K hK
            go_simp
            go_at_call 100; refine (HBT.out _ (by first | with_reducible exact HBZ.out | with_reducible exact HBZ.out.drew)).mono ?_
            rintro e w5 ⟨rfl, h5⟩
            have y0 := (h5.cell (World.block_lt_of_cell? _ _ y0)).trans y0
            have y1 := (h5.cell (World.block_lt_of_cell? _ _ y1)).trans y1
            have cw := (h5.cell (World.block_lt_of_cell? _ _ cw)).trans cw
            have cv := (h5.cell (World.block_lt_of_cell? _ _ cv)).trans cv
            have cz := (h5.cell (World.block_lt_of_cell? _ _ cz)).trans cz
            have HBZ := hide (show Below wr.heap.size wr w5 from below_then (by first | with_reducible exact HBZ.out | with_reducible exact HBZ.out.drew) h5)
            have fz := HFZ.out _ HBZ.out
            clear h5
            try dsimp only
            refine hK.out _ _ ⟨y0, y1, cz, cw, cv⟩ (fun hHeld => ?_)
            clear hK K
            try simp only [Act.put, List.setIfInBounds_toArray, List.set_cons_zero, List.set_cons_succ]
            refine wpAnyH_take (i := 17) (oi := ?q1oi17) (v := ?q1v17) ?q1hi17 (by kernel_rfl) (by kernel_rfl) (by kernel_rfl) ?q1hq17 ?q1hy17 (by assumption) ?q1rest17
            case q1hi17 => simp only [List.getElem?_toArray, List.getElem?_cons_zero, List.getElem?_cons_succ]; rfl
            case q1hq17 => exact fun _ _ _ h => h
            case q1hy17 => refine Or.inl ⟨by rfl, ?_⟩; intro w hSw; (try dsimp only at hSw); go_simp; (try with_reducible rfl)
            try simp only [Act.put, List.setIfInBounds_toArray, List.set_cons_zero, List.set_cons_succ]
            refine wpAnyH_take (i := 18) (oi := ?q1oi18) (v := ?q1v18) ?q1hi18 (by kernel_rfl) (by kernel_rfl) (by kernel_rfl) ?q1hq18 ?q1hy18 (by assumption) ?q1rest18
            case q1hi18 => simp only [List.getElem?_toArray, List.getElem?_cons_zero, List.getElem?_cons_succ]; rfl
            case q1hq18 => exact fun _ _ _ h => h
            case q1hy18 => refine Or.inl ⟨by rfl, ?_⟩; intro w hSw; (try dsimp only at hSw); go_simp; (try with_reducible rfl)
            try simp only [Act.put, List.setIfInBounds_toArray, List.set_cons_zero, List.set_cons_succ]
            refine wpAnyH_take (i := 19) (oi := ?q1oi19) (v := ?q1v19) ?q1hi19 (by kernel_rfl) (by kernel_rfl) (by kernel_rfl) ?q1hq19 ?q1hy19 (by assumption) ?q1rest19
            case q1hi19 => simp only [List.getElem?_toArray, List.getElem?_cons_zero, List.getElem?_cons_succ]; rfl
            case q1hq19 => exact fun _ _ _ h => h
            case q1hy19 => refine Or.inl ⟨by rfl, ?_⟩; intro w hSw; (try dsimp only at hSw); go_simp; (try with_reducible rfl)
            try simp only [Act.put, List.setIfInBounds_toArray, List.set_cons_zero, List.set_cons_succ]
            refine wpAnyH_done (by kernel_rfl) ?_ _
            dsimp only [TailQ, List.append, List.cons_append, List.nil_append]
            all_goals
              have hrt := hide (HRT.out _ HBZ.out)
              rw [HPR.out] at hrt
              have HBB : Hid (Below W1.heap.size W1 (w5.setCell ⟨gd, v, none⟩ (.int .i64 (z + x * (sw - sv))))) := (below_then HB.out HBZ.out).setCell hgd _
              go_wp2_with fail
              go_roundg (N - (u + 1))
              case rel => exact ⟨u + 1, by omega, rfl, by go_num, hrt, HBB⟩
              case measure => rw [HGM2.out]; omega
        · have hue : u = N := by omega
          have HL2 : Hid (Row1 (Value.int .i64) wr gd 3 (lst N (mvP es s D N (v + 1) 0)) rest) := by
            have h5 := HR.out
            rw [hue, lst_congr (fun i _ => mvP_next es s D N v i)] at h5
            exact h5
          clear hue
          go_wp2_with fail
          go_roundg (N - (v + 1))
          case rel => exact ⟨v + 1, by omega, rfl, by go_num, HL2, HB⟩
          case measure => rw [HGM.out]; omega
    · have hve : v = N := by omega
      have HF : Hid (Row1 (Value.int .i64) wr gd 3 (lst N fun i => d.getD i 0 + mvU es s i N) rest) := by
        have h5 := HR.out
        rw [hve, lst_congr (g := fun i => d.getD i 0 + mvU es s i N) (fun i hi => by unfold mvP; rw [if_pos hi, HDE.out])] at h5
        exact h5
      clear hve
      go_wp2_with fail
      go_ret
      exact ⟨gd, cap, rest, rfl, hcap, HF.out, HB1.out.trans (HB.out.mono (by omega))⟩
end Go.Proofs.YtpgopmmobbemcaaGreat

set_option linter.unusedVariables false
set_option linter.unusedSimpArgs false
namespace Go.Proofs.YtpgopmmobbemcaaGreat
open Go.RowKit

def paidL (d : List Int) : Bool := d.all fun k => decide (0 ≤ k)
/-- The first vertex in debt, or -1. -/
def debtorL : List Int → Nat → Int
  | [], _ => -1
  | k :: r, i => if k < 0 then i else debtorL r (i + 1)
def totL : List Int → Int
  | [] => 0
  | k :: r => k + totL r
end Go.Proofs.YtpgopmmobbemcaaGreat

set_option linter.unusedVariables false
set_option linter.unusedSimpArgs false
set_option linter.unnecessarySimpa false
namespace Go.Proofs.YtpgopmmobbemcaaGreat
open Go.RowKit

theorem mvU_link {N : Nat} {es : List Edg} {s : List Int} (h : gErr N es = 0) (v : Nat) (h0 : linkE es v v = 0) : ∀ k, mvU es s v k = -(sumI (fun u => linkE es v u * (s.getD v 0 - s.getD u 0)) k)
  | 0 => rfl
  | k + 1 => by
    unfold mvU sumI
    rw [mvU_link h v h0 k]
    by_cases e : v = k
    · subst e
      rw [if_pos rfl, h0]
      omega
    · rw [if_neg e, gErr_link h e, Int.neg_add]
      congr 1
      rw [← Int.mul_neg]
      congr 1
      omega
theorem mov_eq {N : Nat} {es : List Edg} {d s : List Int} (h : gErr N es = 0) (hok : EOk N es) (hd : d.length = N) : (lst N fun i => d.getD i 0 + mvU es s i N) = movedL s es d := by
  have hat := fun y hy => (hok.at_ y hy).1
  apply List.ext_getElem?
  intro i
  by_cases hi : i < N
  · have hl : (movedL s es d).length = N := by rw [moved_len, hd]
    rw [lst_get _ hi, List.getElem?_eq_getElem (by omega)]
    have h1 := moved_app (s := s) hat hd i hi
    rw [List.getD_eq_getElem?_getD, List.getElem?_eq_getElem (by omega), Option.getD_some] at h1
    rw [h1]
    have hGr : Gr N (linkE es) := linkE_gr fun y hy => by have := (hok.at_ y hy).2; omega
    have h2 := link_sum (fun u => s.getD u 0) i hat
    have h3 := mvU_link (s := s) h i (hGr.dg i) N
    rw [h2] at h3
    rw [h3]
    congr 1
  · rw [List.getElem?_eq_none (by rw [lst_len]; omega), List.getElem?_eq_none (by rw [moved_len, hd]; omega)]
end Go.Proofs.YtpgopmmobbemcaaGreat

set_option linter.unusedVariables false
set_option linter.unusedSimpArgs false
namespace Go.Proofs.YtpgopmmobbemcaaGreat
open Go.RowKit

/-- The search of the reference. -/
def refF (N : Nat) (wins : List Int → Bool) : Nat → Nat → List Int × Int × Int
  | 0, _ => ([], 0, 12)
  | fuel + 1, n => match firstS wins N [] n with
    | some s => (s, n, 0)
    | none => refF N wins fuel (n + 1)
def refSolveR (n : Int) (es : List Edg) (f : List Nat) (d : List Int) (limit : Int) (b : Bool) : List Int × Int × Int :=
  if tErr n es f d ≠ 0 then ([], 0, tErr n es f d) else if limit < 0 ∨ 8 < limit then ([], 0, 2) else if b = false then ([], 0, 6) else refF n.toNat (fun s => paidL (movedL s es d)) (limit.toNat + 1) 0
end Go.Proofs.YtpgopmmobbemcaaGreat

set_option linter.unusedVariables false
set_option linter.unusedSimpArgs false
namespace Go.Proofs.YtpgopmmobbemcaaGreat
open Go.RowKit

/-- What a game of borrowing needs. -/
structure GOk (N : Nat) (es : List Edg) (d : List Int) : Prop where
  ok : EOk N es
  n1 : 1 ≤ N
  conn : Conn N (linkE es)
  sm : SmG N es d
theorem GOk.gr {N : Nat} {es : List Edg} {d : List Int} (h : GOk N es d) : Gr N (linkE es) := linkE_gr fun y hy => by have := (h.ok.at_ y hy).2; omega
theorem GOk.few {N : Nat} {es : List Edg} {d : List Int} (h : GOk N es d) {b : Nat → Nat} (hb : Bor N (linkE es) (fun v => d.getD v 0) b) {z : Nat} (hz : z < N) (hbz : b z = 0) : sumI (fun v => (b v : Int)) N ≤ 11340 := by
  have h6 := h.sm.n6
  have h1 := h.n1
  have hD : ∀ v, v < N → -(60 : Int) ≤ (fun v => d.getD v 0) v := fun v _ => by
    show -(60 : Int) ≤ d.getD v 0
    rw [List.getD_eq_getElem?_getD]
    rcases hx : d[v]? with _ | x
    · simp
    · have := h.sm.dB x (List.mem_of_getElem? hx)
      simpa using this.1
  have h2 : sumI (vlR N (linkE es)) N = sumI (fun v : Nat => valE es v) N := sumI_eq fun v hv => (val_link v fun x hx => (h.ok.at_ x hx).1).symm
  have h3 := val_sum (n := N) (es := es) fun x hx => by have := (h.ok.at_ x hx).2; omega
  have h4 := h.sm.sz
  have h5 : sumI (fun _ => (60 : Int)) N = 60 * N := by
    have : ∀ n : Nat, sumI (fun _ => (60 : Int)) n = 60 * n := fun n => by
      induction n with
      | zero => rfl
      | succ n ih => rw [sumI, ih]; push_cast; omega
    exact this N
  have h7 : sumI (fun u => vlR N (linkE es) u + 60) N ≤ 378 := by
    rw [sumI_add, h5]
    omega
  have h8 : ∀ v, v < N → (b v : Int) ≤ 1890 := fun v hv => by
    have h9 := hb.range h.gr h.conn hD (by omega) hz hbz hv
    have h10 : ((N - 1 : Nat) : Int) * sumI (fun u => vlR N (linkE es) u + 60) N ≤ ((N - 1 : Nat) : Int) * 378 := Int.mul_le_mul_of_nonneg_left h7 (by omega)
    omega
  have h11 := sumI_le (f := fun v => (b v : Int)) (g := fun _ => 1890) (n := N) h8
  have h12 : ∀ n : Nat, sumI (fun _ => (1890 : Int)) n = 1890 * n := fun n => by
    induction n with
    | zero => rfl
    | succ n ih => rw [sumI, ih]; push_cast; omega
  rw [h12] at h11
  omega
/-- A game of borrowing under way. -/
structure GSt (N : Nat) (es : List Edg) (d : List Int) (i : Nat) (b : Nat → Nat) (left : Nat → Int) : Prop where
  bor : Bor N (linkE es) (fun v => d.getD v 0) b
  left : ∀ v, v < N → left v = app N (linkE es) (fun v => d.getD v 0) (negU b) v
  sum : sumI (fun v => (b v : Int)) N = i
  few : i ≤ 11341
theorem GSt.zero {N : Nat} {es : List Edg} {d : List Int} : GSt N es d 0 (fun _ => 0) (fun v => d.getD v 0) where
  bor := .zero
  left := fun v hv => by
    have e : negU (fun _ => 0) = fun _ => 0 := by funext v; simp [negU]
    rw [e, app_zero]
  sum := sumI_zero N
  few := by omega
theorem GSt.step {N : Nat} {es : List Edg} {d : List Int} (h : GOk N es d) {i : Nat} {b : Nat → Nat} {left : Nat → Int} (hg : GSt N es d i b left) {z : Nat} (hz : z < N) (hbz : b z = 0) {v : Nat} (hv : v < N) (hl : left v < 0) : GSt N es d (i + 1) (upU b v 1) (borF es v left) where
  bor := .step hg.bor hv (by rw [← hg.left v hv]; exact hl)
  left := fun u hu => by
    rw [borF_at h.ok hv hu, hg.left u hu, app_up h.gr b hv hu, h.gr.sym v u]
  sum := by
    have h1 := sumI_one (f := fun u => (upU b v 1 u : Int)) (g := fun u => (b u : Int)) hv (fun p hp hne => by rw [upU_ne _ _ hne])
    rw [h1, hg.sum, upU_at]
    push_cast
    omega
  few := by
    have h1 := h.few hg.bor hz hbz
    rw [hg.sum] at h1
    omega
theorem GSt.le {N : Nat} {es : List Edg} {d : List Int} {i : Nat} {b : Nat → Nat} {left : Nat → Int} (hg : GSt N es d i b left) {v : Nat} (hv : v < N) : b v ≤ 11341 := by
  have h1 := sumI_one (f := fun u => (b u : Int)) (g := fun u => if u = v then 0 else (b u : Int)) hv (fun p hp hne => by rw [if_neg hne])
  have h2 : 0 ≤ sumI (fun u => if u = v then 0 else (b u : Int)) N := sumI_nn fun p hp => by split <;> omega
  rw [hg.sum, if_pos rfl] at h1
  have h3 := hg.few
  omega
/-- How a game of borrowing ends. -/
structure GEnd (N : Nat) (es : List Edg) (d : List Int) (a : Bool) (b : Nat → Nat) : Prop where
  bor : Bor N (linkE es) (fun v => d.getD v 0) b
  won : a = true → ∀ v, v < N → 0 ≤ app N (linkE es) (fun v => d.getD v 0) (negU b) v
  lost : a = false → ¬ Winn N (linkE es) (fun v => d.getD v 0)
  le : ∀ v, v < N → b v ≤ 11341
theorem GEnd.iff {N : Nat} {es : List Edg} {d : List Int} {a : Bool} {b : Nat → Nat} (h : GEnd N es d a b) : a = true ↔ Winn N (linkE es) (fun v => d.getD v 0) := by
  constructor
  · intro ha
    exact h.bor.won (h.won ha)
  · intro hw
    cases ha : a
    · exact absurd hw (h.lost ha)
    · rfl
theorem GSt.won {N : Nat} {es : List Edg} {d : List Int} {i : Nat} {b : Nat → Nat} {left : Nat → Int} (hg : GSt N es d i b left) (hp : ∀ v, v < N → 0 ≤ left v) : GEnd N es d true b where
  bor := hg.bor
  won := fun _ v hv => by rw [← hg.left v hv]; exact hp v hv
  lost := fun h => by cases h
  le := fun v hv => hg.le hv
theorem GSt.lost {N : Nat} {es : List Edg} {d : List Int} (h : GOk N es d) {i : Nat} {b : Nat → Nat} {left : Nat → Int} (hg : GSt N es d i b left) (ha : ∀ v, v < N → 1 ≤ b v) : GEnd N es d false b where
  bor := hg.bor
  won := fun h => by cases h
  lost := fun _ => hg.bor.lost h.gr h.n1 ha
  le := fun v hv => hg.le hv
/-- Two games end alike. -/
theorem GEnd.same {N : Nat} {es : List Edg} {d : List Int} (h : GOk N es d) {a c : Bool} {b g : Nat → Nat} (h1 : GEnd N es d a b) (h2 : GEnd N es d c g) : a = c ∧ (a = true → lst N (negU b) = lst N (negU g)) := by
  have e : a = c := by rw [Bool.eq_iff_iff, h1.iff, h2.iff]
  refine ⟨e, fun ha => lst_congr fun v hv => ?_⟩
  have h3 := h1.bor.same h.gr h2.bor (h1.won ha) (h2.won (by rw [← e]; exact ha)) v hv
  unfold negU
  rw [h3]
/-- The reference's Wins. -/
def allB (N : Nat) (bor : Nat → Bool) : Bool := (List.range N).all bor
def wRun (N : Nat) (es : List Edg) : Nat → (Nat → Int) → (Nat → Bool) → Bool
  | 0, _, _ => false
  | fuel + 1, left, bor => if debtorL (lst N left) 0 < 0 then true else if allB N bor = true then false else
      wRun N es fuel (borF es (debtorL (lst N left) 0).toNat left) (fun u => if u = (debtorL (lst N left) 0).toNat then true else bor u)
end Go.Proofs.YtpgopmmobbemcaaGreat

set_option linter.unusedVariables false
set_option linter.unusedSimpArgs false
set_option linter.unnecessarySimpa false
namespace Go.Proofs.YtpgopmmobbemcaaGreat
open Go.RowKit

/-- The chips when v borrows, up to vertex k. -/
def refB (es : List Edg) (v : Nat) (left : Nat → Int) (k : Nat) : Nat → Int := fun i => if i = v then left v + valU es v k else if i < k then left i - betw es i v else left i
/-- The chips and the marks, in memory. -/
structure WMem (w0 : World) (N gd gb : Nat) (rest : List Value) (left : Nat → Int) (bor : Nat → Bool) (w : World) : Prop where
  rd : Row1 (Value.int .i64) w gd 3 (lst N left) rest
  rb : Row1 Value.bool w gb 4 ((List.range N).map bor) []
  ne : gd ≠ gb
  lo : w0.heap.size ≤ gd ∧ w0.heap.size ≤ gb
  be : Below w0.heap.size w0 w
theorem WMem.below {w0 w w' : World} {N gd gb : Nat} {rest : List Value} {left : Nat → Int} {bor : Nat → Bool} (h : WMem w0 N gd gb rest left bor w) (hb : Below w.heap.size w w') : WMem w0 N gd gb rest left bor w' :=
  ⟨h.rd.below hb, h.rb.below hb, h.ne, h.lo, below_then h.be hb⟩
theorem WMem.put {w0 w : World} {N gd gb : Nat} {rest : List Value} {left : Nat → Int} {bor : Nat → Bool} (h : WMem w0 N gd gb rest left bor w) {i : Nat} (hi : i < N) (x : Int) : WMem w0 N gd gb rest (updF left i x) bor (w.setCell ⟨gd, i, none⟩ (.int .i64 x)) := by
  have h5 := h.rd.put (i := i) (by rw [lst_len]; exact hi) x
  rw [lst_set] at h5
  exact ⟨h5, h.rb.other (fun e => h.ne e.symm) _, h.ne, h.lo, h.be.setCell h.lo.1 _⟩
theorem WMem.congr {w0 w : World} {N gd gb : Nat} {rest : List Value} {left l2 : Nat → Int} {bor b2 : Nat → Bool} (h : WMem w0 N gd gb rest left bor w) (h1 : ∀ i, i < N → left i = l2 i) (h2 : ∀ i, i < N → bor i = b2 i) : WMem w0 N gd gb rest l2 b2 w := by
  refine ⟨?_, ?_, h.ne, h.lo, h.be⟩
  · rw [← lst_congr h1]; exact h.rd
  · rw [← List.map_congr_left (fun i hi => h2 i (List.mem_range.1 hi))]; exact h.rb
end Go.Proofs.YtpgopmmobbemcaaGreat

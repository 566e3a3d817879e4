/-
  Reduced divisors: all debts but that of q are lent away.
  Reduced divisors: what does not burn fires, as often as it can, until all burns.
  Reduced divisors: the end and the beginning of a reduction.
  Reduced divisors and winnable ones, on small graphs.
  The dollar game: Solve, as a function; the layers are small.
  The dollar game: Solve.
  DERIVED: THE SHELF's CONTRACTS AT THIS DUMP, IN PLAIN WORDS (tools/lay-plain.mjs out of 'TryzShelf.lean', which tools/lay-shelf.mjs wrote): THE SAME DECLARATIONS UNDER THE SAME NAMES: 'import', 'namespace', 'open', 'def', 'theorem' AND NOTHING ELSE: no command of the shelf's: FOR A HAND-IN. Each lay
  slices.Sort at a list of integers that the call made.
  slices.Sorted(slices.Values(l)) at integers.
  slices.Sorted(slices.Values(l)), slices.Clone and slices.Reverse at integers.
  slices.Sorted(slices.Values(s)) at scripts.
  The dollar game: Cheapest.
  slices.Equal of ints, ref17.Order, Same, ref18.SameScripts; the sizes that the statements take in (Few).
  The triangle of the examples: the graph. (Cut out of XTri.)
  The dollar game at the triangle: the values of the examples.
  awake: the examples of chapter 43 hold.
  The moves of the dollar game, in memory; no function of the program is named here.
  slices.Repeat of a list of one move.
  The dollar game: Moves, and the reference's.
  The dollar game: Verify.
  firing.Apply.
  append of one element that holds no data of its own in other rows. (Cut out of XNwRun.)
  The reference's tables: ref08.Table, ref19.Valences.
  The reference's table of joinings: ref19.Rows.
  Borrowing by the reference's table is borrowing along the edges.
  A region that draws its order, whose last operation (a store) waits for all others: the others first, by a condition on the world that the last need not keep. No program is named here.
  ref18.Moved.
  The dollar game's reference: totals, debts paid, the first debtor.
  The reference's Wins and Verify.
-/
import Derived.Test.YtpgopmmobbemcaaGreatDp4
import Derived.BigQuiet
import Derived.Shelf.Sort.Plain
import Derived.Ground.NamesProg
import Derived.Shelf.Slices.SearchI
import Derived.Shelf.Slices.In.SortNone
import Derived.Test.YtpgopmmobbemcaaGreatProg
import Derived.Sort.OwnSortedInts
import Derived.RangeFuncBox
import Derived.RangeFuncLeaves
import Derived.Shelf.Abstract
import Derived.OwnWalkIn
import Derived.TacticsInMore
import Derived.LoopNIn
import Derived.LoopIn
import Derived.Maps.AppendAt
import Derived.Deep.LoopGhost
import Derived.Laws.Rows
import Derived.Deep.RegionHeld3

set_option linter.unusedVariables false
set_option linter.unusedSimpArgs false
set_option linter.unnecessarySimpa false
namespace Go.Proofs.YtpgopmmobbemcaaGreat
open Go.RowKit

def cutF (n : Nat) (f : Nat → Int) : Nat → Int := fun v => if v < n then f v else 0
theorem cutF_lt {n v : Nat} (f : Nat → Int) (h : v < n) : cutF n f v = f v := if_pos h
theorem cutF_bound {n : Nat} {f : Nat → Int} {b : Int} (hb : 0 ≤ b) (h : ∀ v, v < n → -b ≤ f v ∧ f v ≤ b) (u : Nat) : -b ≤ cutF n f u ∧ cutF n f u ≤ b := by
  unfold cutF
  split
  · rename_i hu; exact h u hu
  · omega
/-- Firing, in terms of the script. -/
theorem fire_scr {B N q : Nat} {es : List Edg} {L : RLay} {D s : Nat → Int} {w : World} (hM : RMem B N q es L ⟨app N (linkE es) D s, s⟩ w) {gb : Nat} {S : Nat → Bool} (hin : Row1 Value.bool w gb 4 ((List.range N).map S) []) {t : Int} (ht : 0 ≤ t ∧ t ≤ 2097152)
    (hd : ∀ u, u < N → -2097152 ≤ app N (linkE es) D s u ∧ app N (linkE es) D s u ≤ 2097152) (hs : ∀ u, u < N → -2097152 ≤ s u ∧ s u ≤ 2097152)
    (hd' : ∀ u, u < N → -2097152 ≤ app N (linkE es) D (fireF S t s) u ∧ app N (linkE es) D (fireF S t s) u ≤ 2097152) (hs' : ∀ u, u < N → -2097152 ≤ fireF S t s u ∧ fireF S t s u ≤ 2097152) :
    Calls Tryz.prog 126 #[.pointer (some ⟨L.p, 0, none⟩), .slice (some ⟨gb, 0, none⟩) N N, .int .i64 t] w fun e w' => e = .returned (.tuple #[]) ∧ RMem B N q es L ⟨app N (linkE es) D (fireF S t s), fireF S t s⟩ w' ∧ Fk B L w w' := by
  have hok := hM.ok
  have hM1 : RMem B N q es L ⟨cutF N (app N (linkE es) D s), cutF N s⟩ w := hM.congr (fun v hv => (cutF_lt _ hv).symm) (fun v hv => (cutF_lt _ hv).symm)
  have e1 : ∀ v, v < N → fireD es S t (cutF N (app N (linkE es) D s)) N v = app N (linkE es) D (fireF S t s) v := fun v hv => fire_app hok (fun u hu => cutF_lt _ hu) hv
  have e2 : ∀ v, v < N → fireS S t (cutF N s) N v = fireF S t s v := fun v hv => by
    rw [fireS_all hv]
    unfold fireF
    rw [cutF_lt _ hv]
  refine (rfire_any hM1 hin ht (fun u => ?_) (fun u => ?_) (fun u hu => ?_) (fun u hu => ?_)).mono ?_
  · have := cutF_bound (b := 2097152) (by omega) hd u
    show _ ≤ cutF N _ u ∧ cutF N _ u ≤ _
    omega
  · have := cutF_bound (b := 2097152) (by omega) hs u
    show _ ≤ cutF N _ u ∧ cutF N _ u ≤ _
    omega
  · rw [e1 u hu]; exact hd' u hu
  · rw [e2 u hu]; exact hs' u hu
  · rintro e w' ⟨rfl, h1, h2⟩
    exact ⟨rfl, h1.congr e1 e2, h2⟩
theorem fire_zero (S : Nat → Bool) (s : Nat → Int) : fireF S 0 s = s := by
  funext v
  unfold fireF
  split <;> omega
/-- What is asked of the numbers. -/
structure LOk (N q : Nat) (es : List Edg) (D : Nat → Int) (c M : Int) : Prop where
  c0 : 0 ≤ c
  dB : ∀ v, v < N → -c ≤ D v ∧ D v ≤ c
  conn : Conn N (linkE es)
  big : ∀ far : Nat → Nat, Far N q (linkE es) far → c * P2 (downX N (linkE es) far 0) ≤ M
  M1 : 0 ≤ M ∧ 12 * M ≤ 2000000
theorem P2_one (x : Int) : 1 ≤ P2 x := by
  have h : (0 : Int) < 2 ^ x.toNat := Int.pow_pos (by omega)
  show 1 ≤ (2 : Int) ^ x.toNat
  omega
theorem LInv.bnd {N q : Nat} {es : List Edg} {D s : Nat → Int} {c M : Int} (hO : LOk N q es D c M) {far : Nat → Nat} (hF : Far N q (linkE es) far) (hG : Gr N (linkE es)) {K k : Nat} (hK : K ≤ 12) (h : LInv N q (linkE es) far D c K k s) :
    (∀ v, v < N → -M ≤ app N (linkE es) D s v ∧ app N (linkE es) D s v ≤ M) ∧ ∀ v, v < N → 0 ≤ s v ∧ s v ≤ 12 * M := by
  have hb := hO.big far hF
  have hc := hO.c0
  have hp : ∀ j, c * P2 (downX N (linkE es) far j) ≤ M := fun j => Int.le_trans (Int.mul_le_mul_of_nonneg_left (P2_mono (downX_nn (far := far) hG j) (downX_mono hG j)) hc) hb
  have hcM : c ≤ M := by
    have := Int.mul_le_mul_of_nonneg_left (P2_one (downX N (linkE es) far 0)) hc
    rw [Int.mul_one] at this
    omega
  refine ⟨fun v hv => ?_, fun v hv => ?_⟩
  · rcases Nat.lt_trichotomy (far v) k with h1 | h1 | h1
    · rw [h.lo v hv h1]
      have := hO.dB v hv
      omega
    · have := h.mid v hv h1
      have := hp k
      omega
    · have := h.hi v hv h1
      omega
  · have h1 := h.sb v hv
    refine ⟨h1.1, ?_⟩
    have h2 : ((K - k : Nat) : Int) * (c * P2 (downX N (linkE es) far 0)) ≤ 12 * M := by
      have h3 : ((K - k : Nat) : Int) * (c * P2 (downX N (linkE es) far 0)) ≤ ((K - k : Nat) : Int) * M := Int.mul_le_mul_of_nonneg_left hb (by omega)
      have h4 : ((K - k : Nat) : Int) * M ≤ 12 * M := Int.mul_le_mul_of_nonneg_right (by omega) hO.M1.1
      omega
    omega
def LendPost (B N q : Nat) (es : List Edg) (L : RLay) (D : Nat → Int) (c M : Int) (w : World) (e : Ending) (w' : World) : Prop :=
  e = .returned (.tuple #[]) ∧ ∃ (far : Nat → Nat) (K : Nat) (s : Nat → Int), Far N q (linkE es) far ∧ K ≤ N ∧ LInv N q (linkE es) far D c K 0 s ∧ RMem B N q es L ⟨app N (linkE es) D s, s⟩ w' ∧ Fk B L w w'

set_option maxRecDepth 100000 in
set_option maxHeartbeats 8000000 in
theorem lend_any {B N q : Nat} {es : List Edg} {L : RLay} {D : Nat → Int} {c M : Int} {w : World} (hM : RMem B N q es L ⟨D, fun _ => 0⟩ w) (hO : LOk N q es D c M) :
    Calls Tryz.prog 104 #[.pointer (some ⟨L.p, 0, none⟩)] w (LendPost B N q es L D c M w) := by
  have h12 := hM.num.1
  have hqN := hM.num.2.1
  have hok := hide hM.ok
  have hG : Hid (Gr N (linkE es)) := linkE_gr fun y hy => by have := (hok.out.at_ y hy).2; omega
  have HM := hide hM
  have HO := hide hO
  have hsz := hM.size
  have hlow := hM.low
  have hgdl := hM.rd.lt
  have hgsl := hM.rs.lt
  have HD := hide (dist_any hM)
  clear hM hO
  go_enter Tryz.func104, Tryz.ntmps104
  go_wp2_with fail
  refine HD.out.mono ?_
  rintro e w2 ⟨gf, co, rest, out, rfl, hDB, hRg, hrow, hco, hgf, hb2⟩
  have hall := hDB.all hqN HO.out.conn
  have hFar := hDB.far hqN (fun y hy => ((hok.out.at_ y hy).2).1) HO.out.conn
  obtain ⟨far, hfar⟩ : ∃ far : Nat → Nat, far = fun v => (out v).toNat := ⟨_, rfl⟩
  rw [← hfar] at hFar
  have hrow2 : Row1 (Value.int .i64) w2 gf 3 (lst N fun v => (far v : Int)) rest := by
    rw [← lst_congr (f := out) fun v hv => by have := hall v hv; rw [hfar]; show out v = ((out v).toNat : Int); omega]
    exact hrow
  have hf12 : ∀ v, v < N → far v ≤ N := fun v hv => by have h5 := hRg v hv; rw [hfar]; show (out v).toNat ≤ N; omega
  clear hDB hRg hall hrow hfar
  have HF := hide hFar
  have HR := hide hrow2
  have HF12 := hide hf12
  have HB2 := hide hb2
  have hgfl := hrow2.lt
  -- the greatest distance
  obtain ⟨x0, l, hl⟩ : ∃ x0 l, lst N (fun v => (far v : Int)) = x0 :: l := by
    cases h : lst N (fun v => (far v : Int)) with
    | nil => have := congrArg List.length h; rw [lst_len] at this; simp at this; omega
    | cons a b => exact ⟨a, b, rfl⟩
  have hlN : l.length + 1 = N := by have := congrArg List.length hl; rw [lst_len] at this; simpa using this.symm
  have hmx : Calls Tryz.prog 127 #[.slice (some ⟨gf, 0, none⟩) N co] w2 fun e w' => e = .returned (.int .i64 (maxF x0 l)) ∧ w2 = w' := by
    have h5 := maxI_any x0 l (some ⟨gf, 0, none⟩) co All w2 (by rw [← hl]; exact hrow2.ints (fun y hy => by obtain ⟨v, hv, rfl⟩ := List.mem_map.1 hy; have := hf12 v (List.mem_range.1 hv); unfold I64; omega) trivial) (by omega) (by omega)
    rw [List.length_cons, hlN] at h5
    exact h5
  have hmem : ∀ v, v < N → (far v : Int) ≤ maxF x0 l := fun v hv => by
    have h5 : (far v : Int) ∈ x0 :: l := by rw [← hl]; exact List.mem_map.2 ⟨v, List.mem_range.2 hv, rfl⟩
    rcases List.mem_cons.1 h5 with h5 | h5
    · rw [h5]; exact (maxF_ge x0 l).1
    · exact (maxF_ge x0 l).2 _ h5
  obtain ⟨K, hK, hK12⟩ : ∃ K : Nat, maxF x0 l = (K : Int) ∧ K ≤ N := by
    have h5 : maxF x0 l ∈ x0 :: l := by
      rcases maxF_mem x0 l with h6 | h6
      · rw [h6]; simp
      · simp [h6]
    rw [← hl] at h5
    obtain ⟨v, hv, h6⟩ := List.mem_map.1 h5
    exact ⟨far v, h6.symm, hf12 v (List.mem_range.1 hv)⟩
  have HKF : Hid (∀ v, v < N → far v ≤ K) := fun v hv => by have := hmem v hv; rw [hK] at this; omega
  rw [hK] at hmx
  have HMX := hide hmx
  clear hmx hmem hK hl hlN hrow2 hf12 hFar hb2
  go_wp2_with fail
  refine HMX.out.mono ?_
  rintro e w3 ⟨rfl, rfl⟩
  go_wp2_with fail
  have hM2 : RMem B N q es L ⟨app N (linkE es) D fun _ => 0, fun _ => 0⟩ w2 := (HM.out.below HB2.out).congr (fun v _ => (app_zero v).symm) (fun _ _ => rfl)
  have HM2 := hide hM2
  have hw2 := HB2.out.size
  clear hM2
  go_loopg [4] K (fun gk kv wr => ∃ (k : Nat) (s : Nat → Int), k ≤ gk ∧ k ≤ K ∧ kv = .int .i64 k ∧ Hid (LInv N q (linkE es) far D c K k s) ∧ Hid (RMem B N q es L ⟨app N (linkE es) D s, s⟩ wr) ∧ Hid (Fk B L w2 wr))
  case atStart => exact ⟨K, fun _ => 0, by omega, by omega, rfl, LInv.begin_ hG.out HO.out.c0 HO.out.dB HKF.out, HM2, Fk.refl _ _ _⟩
  case round =>
    obtain ⟨k, s, hkg, hkK, rfl, HI, HMr, HFr⟩ := hrel
    have hszr := HFr.out.1.size
    obtain ⟨d0, _, _, d3, _, d5⟩ := HMr.out.cells
    rcases Nat.eq_zero_or_pos k with h0 | hpos
    · subst h0
      go_wp2_with fail
      go_end0
      exact ⟨rfl, far, K, s, HF.out, by omega, HI.out, HMr.out, ⟨(HB2.out.mono hsz).trans HFr.out.1, fun j h5 h6 h7 => (HFr.out.2 j (by omega) h6 h7).trans (HB2.out.block j h5)⟩⟩
    · have q1 : decide ((0 : Int) < (k : Int)) = true := by simp; omega
      have hszB := HMr.out.size
      go_wp2_with (at_make; refine wpList_make_row _ rfl _ _ 139 rfl 4 false 1 Tryz.underlying139 rbInfo rfl .i64 .i64 _ _ N rfl rfl rfl rfl (by omega) (by unfold maxLen; omega) (fun w4 hrow4 hb4 hg4 => ?_))
      rw [map_false] at hrow4
      obtain ⟨W5, hW5⟩ : ∃ W5, w4.alloc (.cells #[.slice (some ⟨wr.heap.size, 0, none⟩) N N] 139) = W5 := ⟨_, rfl⟩
      have hlt4 := hrow4.lt
      have hB5 : BMem N w4.heap.size wr.heap.size (fun _ => false) W5 := by
        rw [← hW5]
        exact ⟨Box.new w4 [.slice (some ⟨wr.heap.size, 0, none⟩) N N] 139, hrow4.new _⟩
      have hb5 : Below wr.heap.size wr W5 := by rw [← hW5]; exact hb4.alloc hb4.size _
      have hRr : Row1 (Value.int .i64) wr gf 3 (lst N fun v => (far v : Int)) rest := HR.out.keep (HFr.out.2 gf hgfl (by omega) (by omega))
      have HRr := hide hRr
      obtain ⟨bb, hbb⟩ : ∃ bb, bb = w4.heap.size := ⟨_, rfl⟩
      rw [hW5]
      rw [← hbb] at hB5 ⊢
      have HB5 := hide hB5
      have Hb5 := hide hb5
      clear hW5 hrow4 hb4 hg4 hB5 hb5 hRr hbb d0 d3 d5
      obtain ⟨wo, rfl⟩ : ∃ wo : World, wo = wr := ⟨_, rfl⟩
      obtain ⟨gn, hgn⟩ : ∃ gn, gn = wo.heap.size := ⟨_, rfl⟩
      have HGN := hide hgn
      rw [← hgn] at HB5 Hb5 hszr hszB ⊢
      have hgnw : w2.heap.size ≤ gn := hszr
      clear hgn
      obtain ⟨gk0, hgk0⟩ : ∃ g0, g0 = gk := ⟨_, rfl⟩
      have HGK := hide hgk0
      have hkg0 : k ≤ gk0 := by omega
      clear hgk0
      go_wp2_with fail
      go_loopg [6, 36] N (fun gm _ iv wx => ∃ i : Nat, i ≤ N ∧ gm = N - i ∧ iv = .int .i64 i ∧ Hid (BMem N bb gn (fun v => if v < i then nearB far k v else false) wx) ∧ Hid (Below gn wo wx))
      case atStart =>
        refine ⟨0, by omega, by omega, rfl, ?_, Hb5⟩
        show BMem _ _ _ _ _
        rw [show (fun v : Nat => if v < 0 then nearB far k v else false) = fun _ => false from funext fun v => if_neg (Nat.not_lt_zero v)]
        exact HB5.out
      case round =>
        obtain ⟨i, hi, hgm, rfl, HBi, Hbi⟩ := hrel
        have HGM := hide hgm
        clear hgm
        have Hbw : Hid (Below wo.heap.size wo wr) := by show Below _ _ _; rw [← HGN.out]; exact Hbi.out
        by_cases hlt : i < N
        · have b0 := HBi.out.box.cell 0
          simp only [List.getElem?_cons_zero] at b0
          have g0 := HBi.out.at hlt
          simp only [Nat.lt_irrefl, if_false] at g0
          have fz := HBi.out.row.free i
          have r0 : wr.cell? ⟨gf, i, none⟩ = some (.int .i64 (far i)) := (HRr.out.below Hbw.out).cell (lst_get (fun v => (far v : Int)) hlt)
          have hi0 : (0 : Int) ≤ i := by omega
          have hi1 : (i : Int) < N := by omega
          have hico : (i : Int) < co := by omega
          have HP : Hid (BMem N bb gn (fun v => if v < i + 1 then nearB far k v else false) (wr.setCell ⟨gn, i, none⟩ (.bool (decide (far i < k)))).drew) := by
            have h5 := (HBi.out.below (Below.refl _ _).drew).put hlt (decide (far i < k))
            have e : updW (fun v => if v < i then nearB far k v else false) i (decide (far i < k)) = fun v => if v < i + 1 then nearB far k v else false := funext fun v => by
              unfold updW
              by_cases e : v = i
              · subst e
                rw [if_pos rfl, if_pos (by omega)]
                rfl
              · rw [if_neg e]
                show (if v < i then nearB far k v else false) = _
                by_cases h : v < i
                · rw [if_pos h, if_pos (by omega)]
                · rw [if_neg h, if_neg (by omega)]
            rw [e] at h5
            exact h5
          have HQ : Hid (Below gn wo (wr.setCell ⟨gn, i, none⟩ (.bool (decide (far i < k)))).drew) := (Hbi.out.setCell (Nat.le_refl _) _).drew
          go_wp2_with fail
          go_region
          all_goals
            go_wp2_with fail
            go_roundg (N - (i + 1))
            case rel => exact ⟨i + 1, by omega, rfl, by go_num, HP, HQ⟩
            case measure => rw [HGM.out]; omega
        · have hie : i = N := by omega
          have HBN : Hid (BMem N bb gn (nearB far k) wr) := by
            have h5 := HBi.out
            rw [hie] at h5
            refine ⟨h5.box, ?_⟩
            have h6 := h5.row
            rw [show ((List.range N).map fun v => if v < N then nearB far k v else false) = (List.range N).map (nearB far k) from List.map_congr_left fun v hv => if_pos (List.mem_range.1 hv)] at h6
            exact h6
          clear hie
          go_wp2_with fail
          have HMm := hide (HMr.out.below Hbw.out)
          have HRm := hide (HRr.out.below Hbw.out)
          clear HBi HRr
          obtain ⟨wm, rfl⟩ : ∃ wm : World, wm = wr := ⟨_, rfl⟩
          have hTL : Hid (∀ j, j ≤ N → 0 ≤ timesL N (linkE es) far (app N (linkE es) D s) k j ∧ timesL N (linkE es) far (app N (linkE es) D s) k j ≤ 2000000) := fun j hj => by
            have hMB := (HI.out.bnd HO.out HF.out hG.out (by omega)).1
            refine ⟨timesL_nn j, Int.le_trans (timesL_le (B := M) HO.out.M1.1 (fun v hv e => inD_pos hG.out HF.out hv e hpos) j hj fun v hv _ => (hMB v hv).1) ?_⟩
            have := HO.out.M1
            omega
          have hDBD : Hid (∀ v, v < N → -2000000 ≤ app N (linkE es) D s v ∧ app N (linkE es) D s v ≤ 2000000) := fun v hv => by
            have := (HI.out.bnd HO.out HF.out hG.out (by omega)).1 v hv
            have := HO.out.M1
            omega
          have hltN := hide hlt
          clear hlt
          go_loopg [7, 8, 9, 10, 51] N (fun gm tv _ _ _ iv wx => ∃ j : Nat, j ≤ N ∧ gm = N - j ∧ tv = .int .i64 (timesL N (linkE es) far (app N (linkE es) D s) k j) ∧ iv = .int .i64 j ∧ Hid (Below wm.heap.size wm wx))
          case atStart => exact ⟨0, by omega, by omega, rfl, rfl, Below.refl _ _⟩
          case round =>
            obtain ⟨j, hj, hgm, rfl, rfl, HBj⟩ := hrel
            have HGM2 := hide hgm
            clear hgm
            by_cases hlt : j < N
            · have HMj := hide (HMm.out.below HBj.out)
              obtain ⟨_, _, _, d3, _, _⟩ := HMj.out.cells
              have e0 : wr.cell? ⟨L.gd, j, none⟩ = some (.int .i64 (app N (linkE es) D s j)) := HMj.out.dAt hlt
              have r0 : wr.cell? ⟨gf, j, none⟩ = some (.int .i64 (far j)) := (HRm.out.below HBj.out).cell (lst_get (fun v => (far v : Int)) hlt)
              have hj0 : (0 : Int) ≤ j := by omega
              have hj1 : (j : Int) < N := by omega
              have hjco : (j : Int) < co := by omega
              obtain ⟨T, hT⟩ : ∃ T, T = timesL N (linkE es) far (app N (linkE es) D s) k j := ⟨_, rfl⟩
              have hTb := hTL.out j (by omega)
              have hTn := hTL.out (j + 1) (by omega)
              have hdb := hDBD.out j hlt
              have HTS : Hid (timesL N (linkE es) far (app N (linkE es) D s) k (j + 1) = if far j = k ∧ app N (linkE es) D s j < 0 then max T (needT (app N (linkE es) D s j) (inD N (linkE es) (nearB far k) j)) else T) := by show _ = _; rw [hT]; rfl
              rw [← hT] at hTb ⊢
              clear hT
              by_cases hfk : far j = k
              · by_cases hneg : app N (linkE es) D s j < 0
                · have hI1 := inD_pos hG.out HF.out hlt hfk hpos
                  have HJ : Hid (Calls Tryz.prog 128 #[.pointer (some ⟨L.p, 0, none⟩), .int .i64 j, .func (.func 129) #[] #[.pointer (some ⟨bb, 0, none⟩)]] wr fun e w' => e = .returned (.int .i64 (inD N (linkE es) (nearB far k) j)) ∧ Below wr.heap.size wr w') := by
                    have h5 := lend_joins HMj.out (HBN.out.below HBj.out) hlt
                    rw [jn_inD _ _ fun y hy => (hok.out.at_ y hy).1] at h5
                    exact h5
                  have hI2 : inD N (linkE es) (nearB far k) j ≤ 50000 := by
                    rw [← jn_inD (nearB far k) j fun y hy => (hok.out.at_ y hy).1]
                    have h1 := jnS_bound hok.out (v := j) (nearB far k) (lnkL es j) (fun p hp => by obtain ⟨u, _, _, _, h⟩ := lnk_in hok.out hp; exact h)
                    have h2 := lnk_len es (j : Int)
                    have h3 := hok.out.len
                    omega
                  rw [if_pos ⟨hfk, hneg⟩] at HTS
                  rw [HTS.out] at hTn
                  have hnd := needT_spec hI1 hneg
                  have q2 : decide (app N (linkE es) D s j < 0) = true := by simpa using hneg
                  have q1 : ((far j : Int) == (k : Int)) = true := by simp [hfk]
                  clear hfk
                  generalize inD N (linkE es) (nearB far k) j = E at *
                  generalize app N (linkE es) D s j = dj at *
                  have q0 : (E == 0) = false := by simp; omega
                  have HNE : needT dj E = (-dj + E - 1) / E := rfl
                  rw [HNE] at HTS hnd hTn
                  have hq3 : 1 ≤ (-dj + E - 1) / E ∧ (-dj + E - 1) / E ≤ 2000000 := by omega
                  clear hnd HNE hTn
                  go_wp2_with (go_at_call 128; refine HJ.out.mono ?_; rintro e w5 ⟨rfl, h5⟩; have d3 := (h5.cell (World.block_lt_of_cell? _ _ d3)).trans d3; have e0 := (h5.cell (World.block_lt_of_cell? _ _ e0)).trans e0; have HB5 := hide (below_then HBj.out h5); clear h5)
                  all_goals
                    go_roundg (N - (j + 1))
                    case rel => exact ⟨j + 1, by omega, rfl, by rw [HTS.out] <;> (first | (congr 1; done) | (congr 1; omega)), by go_num, HB5⟩
                    case measure => rw [HGM2.out]; omega
                · have q2 : decide (app N (linkE es) D s j < 0) = false := by simpa using hneg
                  have HT2 : Hid (timesL N (linkE es) far (app N (linkE es) D s) k (j + 1) = T) := by show _ = _; rw [HTS.out, if_neg (fun hh => hneg hh.2)]
                  have q1 : ((far j : Int) == (k : Int)) = true := by simp [hfk]
                  clear HTS hneg hTn hfk
                  generalize app N (linkE es) D s j = dj at *
                  go_wp2_with fail
                  go_roundg (N - (j + 1))
                  case rel => exact ⟨j + 1, by omega, rfl, by rw [HT2.out], by go_num, HBj⟩
                  case measure => rw [HGM2.out]; omega
              · have q1 : ((far j : Int) == (k : Int)) = false := by simp; omega
                have HT2 : Hid (timesL N (linkE es) far (app N (linkE es) D s) k (j + 1) = T) := by show _ = _; rw [HTS.out, if_neg (fun hh => hfk hh.1)]
                clear HTS hTn hfk
                go_wp2_with fail
                go_roundg (N - (j + 1))
                case rel => exact ⟨j + 1, by omega, rfl, by rw [HT2.out], by go_num, HBj⟩
                case measure => rw [HGM2.out]; omega
            · have hje : j = N := by omega
              have hTN : Hid (0 ≤ timesL N (linkE es) far (app N (linkE es) D s) k N ∧ timesL N (linkE es) far (app N (linkE es) D s) k N ≤ 2000000) := hTL.out N (Nat.le_refl _)
              have HT0 : Hid (timesL N (linkE es) far (app N (linkE es) D s) k j = timesL N (linkE es) far (app N (linkE es) D s) k N) := by show _ = _; rw [hje]
              rw [HT0.out]
              obtain ⟨k', rfl⟩ : ∃ k', k = k' + 1 := ⟨k - 1, by omega⟩
              have HI2 : Hid (LInv N q (linkE es) far D c K k' (stepL N (linkE es) far D (k' + 1) s)) := HI.out.step hG.out HF.out HO.out.c0 HO.out.dB (by omega)
              have HST : Hid (stepL N (linkE es) far D (k' + 1) s = fireF (nearB far (k' + 1)) (timesL N (linkE es) far (app N (linkE es) D s) (k' + 1) N) s) := rfl
              have HMj := hide (HMm.out.below HBj.out)
              have HBNj := hide (HBN.out.below HBj.out)
              have HFj : Hid (Fk B L w2 wr) := (HFr.out.below HMr.out.size Hbw.out).below HMm.out.size HBj.out
              have hTb := hTN.out
              obtain ⟨T, hT⟩ : ∃ T, T = timesL N (linkE es) far (app N (linkE es) D s) (k' + 1) N := ⟨_, rfl⟩
              rw [← hT] at hTb HST ⊢
              clear hT hje HT0 hTN
              have hk1 : ((k' + 1 : Nat) : Int) = (k' : Int) + 1 := by push_cast; rfl
              by_cases hT0 : T = 0
              · subst hT0
                have HI3 : Hid (LInv N q (linkE es) far D c K k' s) := by
                  have h5 := HI2.out
                  rw [HST.out, fire_zero] at h5
                  exact h5
                clear hk1
                go_wp2_with fail
                go_roundg k'
                case rel => exact ⟨k', s, Nat.le_refl _, by omega, by go_num, HI3, HMj, HFj⟩
                case measure => have := HGK.out; omega
              · have q1 : decide ((0 : Int) < T) = true := by simp; omega
                obtain ⟨hb1, hb2⟩ := HI.out.bnd HO.out HF.out hG.out (by omega)
                obtain ⟨hb3, hb4⟩ := HI2.out.bnd HO.out HF.out hG.out (by omega)
                rw [HST.out] at hb3 hb4
                have hMM := HO.out.M1
                have HFI := hide (fire_scr HMj.out HBNj.out.row (t := T) (by omega) (fun u hu => by have := hb1 u hu; omega) (fun u hu => by have := hb2 u hu; omega) (fun u hu => by have := hb3 u hu; omega) (fun u hu => by have := hb4 u hu; omega))
                have b0 := HBNj.out.box.cell 0
                simp only [List.getElem?_cons_zero] at b0
                clear hb1 hb2 hb3 hb4 hMM hk1
                go_wp2_with (go_at_call 126; refine HFI.out.mono ?_; rintro e w6 ⟨rfl, h6, h7⟩; have HM6 := hide h6; have HF6 := hide (HFj.out.trans h7); clear h6 h7)
                rw [← HST.out] at HM6
                go_roundg k'
                case rel => exact ⟨k', _, Nat.le_refl _, by omega, by go_num, HI2, HM6, HF6⟩
                case measure => have := HGK.out; omega
end Go.Proofs.YtpgopmmobbemcaaGreat

set_option linter.unusedVariables false
set_option linter.unusedSimpArgs false
set_option linter.unnecessarySimpa false
namespace Go.Proofs.YtpgopmmobbemcaaGreat
open Go.RowKit

section
variable {n q : Nat} {R : Nat → Nat → Int} {D t : Nat → Int}
theorem off_nn (h : ∀ v, v < n → v ≠ q → 0 ≤ D v) : 0 ≤ sumI (fun v => if v = q then 0 else D v) n := sumI_nn fun v hv => by
  split
  · exact Int.le_refl _
  · rename_i e; exact h v hv e
theorem SInv.each (hG : Gr n R) (hq : q < n) (h : SInv n q R D t) {v : Nat} (hv : v < n) (hne : v ≠ q) : 0 ≤ app n R D t v ∧ app n R D t v ≤ sumI (fun v => if v = q then 0 else D v) n := by
  refine ⟨h.pay v hv hne, Int.le_trans ?_ (h.off hG hq)⟩
  have h1 := sumI_mem (f := fun v => if v = q then 0 else app n R D t v) (n := n) (k := v) (fun u hu => by
    split
    · exact Int.le_refl _
    · rename_i e; exact h.pay u hu e) hv
  rw [if_neg hne] at h1
  exact h1
theorem SInv.atq (hG : Gr n R) (hq : q < n) (h : SInv n q R D t) : D q ≤ app n R D t q ∧ app n R D t q ≤ D q + sumI (fun v => if v = q then 0 else D v) n := by
  have h1 := app_total (D := D) hG t
  have h2 := sumI_one (f := fun v => D v - app n R D t v) (g := fun v => (if v = q then 0 else D v) + -(if v = q then 0 else app n R D t v)) hq fun p hp hne => by
    simp only [if_neg hne]
    omega
  simp only [if_true] at h2
  rw [sumI_add, sumI_neg] at h2
  have h3 := h.off hG hq
  have h4 := off_nn (D := app n R D t) fun v hv hne => h.pay v hv hne
  omega
theorem most_le {S : Nat → Bool} {d : Nat → Int} {b : Int} (hb : 0 ≤ b) (hd : ∀ v, v < n → S v = true → d v ≤ b) (h0 : ∀ v, v < n → S v = true → outD n R S v ≤ d v) : ∀ i, i ≤ n → mostT n R S d i ≤ b
  | 0, _ => hb
  | i + 1, hi => by
    have ih := most_le hb hd h0 i (by omega)
    unfold mostT
    split
    · rename_i e
      have h1 : d i / outD n R S i ≤ b := by
        have h2 := hd i (by omega) e.1
        have h3 := h0 i (by omega) e.1
        exact Int.le_trans (Int.ediv_le_self _ (by omega)) h2
      split <;> omega
    · exact ih
end
/-- What is asked of the numbers. -/
structure SOk (N q : Nat) (es : List Edg) (D sL : Nat → Int) (M : Int) : Prop where
  n6 : N ≤ 6
  M1 : 0 ≤ M ∧ M ≤ 30720
  eB : ∀ v, v < N → v ≠ q → 0 ≤ app N (linkE es) D sL v ∧ app N (linkE es) D sL v ≤ M
  eQ : -M ≤ app N (linkE es) D sL q ∧ app N (linkE es) D sL q ≤ M
  sB : ∀ v, v < N → 0 ≤ sL v ∧ sL v ≤ 6 * M
  conn : Conn N (linkE es)
theorem sum_le_const {n : Nat} {f : Nat → Int} {b : Int} (h : ∀ v, v < n → f v ≤ b) : ∀ k, k ≤ n → sumI f k ≤ k * b
  | 0, _ => by simp [sumI]
  | k + 1, hk => by
    have ih := sum_le_const h k (by omega)
    have := h k (by omega)
    have e : ((k + 1 : Nat) : Int) * b = k * b + b := by push_cast; rw [Int.add_mul, Int.one_mul]
    simp only [sumI]
    omega
section
variable {N q : Nat} {es : List Edg} {D sL t : Nat → Int} {M : Int}
theorem SOk.off (hO : SOk N q es D sL M) (hq : q < N) : sumI (fun v => if v = q then 0 else app N (linkE es) D sL v) N ≤ 6 * M := by
  have h1 := sum_le_const (n := N) (f := fun v => if v = q then 0 else app N (linkE es) D sL v) (b := M) (fun v hv => by
    show (if v = q then 0 else _) ≤ M
    split
    · exact hO.M1.1
    · rename_i e; exact (hO.eB v hv e).2) N (Nat.le_refl _)
  have h2 : (N : Int) * M ≤ 6 * M := Int.mul_le_mul_of_nonneg_right (by have := hO.n6; omega) hO.M1.1
  omega
theorem SOk.offT (hO : SOk N q es D sL M) (hq : q < N) : sumI (fun v => if v = q then 0 else app N (linkE es) D sL v) N ≤ 153600 := by
  have h1 := sumI_one (f := fun v => if v = q then 0 else app N (linkE es) D sL v) (g := fun v => if v = q then 0 else app N (linkE es) D sL v) hq (fun _ _ _ => rfl)
  have h2 := sum_le_const (n := N) (f := fun v => (if v = q then 0 else app N (linkE es) D sL v) + (if v = q then M else 0)) (b := M) (fun v hv => by
    show (if v = q then 0 else _) + (if v = q then M else 0) ≤ M
    split
    · omega
    · rename_i e
      have := (hO.eB v hv e).2
      omega) N (Nat.le_refl _)
  rw [sumI_add] at h2
  have h3 := sumI_one (f := fun v => if v = q then M else 0) (g := fun _ => 0) hq (fun p hp hne => if_neg hne)
  rw [sumI_zero, if_pos rfl] at h3
  have h4 : (N : Int) * M ≤ 6 * M := Int.mul_le_mul_of_nonneg_right (by have := hO.n6; omega) hO.M1.1
  have := hO.M1
  omega
theorem SOk.bnd (hO : SOk N q es D sL M) (hG : Gr N (linkE es)) (hq : q < N) (h : SInv N q (linkE es) (app N (linkE es) D sL) t) :
    (∀ v, v < N → -200000 ≤ app N (linkE es) D (fun w => sL w + t w) v ∧ app N (linkE es) D (fun w => sL w + t w) v ≤ 200000) ∧ (∀ v, v < N → 0 ≤ t v ∧ t v ≤ 768000) ∧ ∀ v, v < N → 0 ≤ sL v + t v ∧ sL v + t v ≤ 960000 := by
  have hM := hO.M1
  have hC := hO.offT hq
  have ht : ∀ v, v < N → 0 ≤ t v ∧ t v ≤ 768000 := fun v hv => by
    have h1 := h.range hG hO.conn hq (C := 153600) (fun v hv e => (hO.eB v hv e).1) hC hv
    have h2 : ((N - 1 : Nat) : Int) * 153600 ≤ 5 * 153600 := Int.mul_le_mul_of_nonneg_right (by have := hO.n6; omega) (by omega)
    have := h.nn v hv
    omega
  refine ⟨fun v hv => ?_, ht, fun v hv => ?_⟩
  · rw [← app_app]
    by_cases e : v = q
    · subst e
      have h1 := h.atq hG hq
      have h2 := hO.eQ
      omega
    · have h1 := h.each hG hq hv e
      omega
  · have h1 := ht v hv
    have h2 := hO.sB v hv
    omega
end
def SetPost (B N q : Nat) (es : List Edg) (L : RLay) (D sL : Nat → Int) (w : World) (e : Ending) (w' : World) : Prop :=
  e = .returned (.tuple #[]) ∧ ∃ t : Nat → Int, SInv N q (linkE es) (app N (linkE es) D sL) t ∧ Redu N q (linkE es) (app N (linkE es) (app N (linkE es) D sL) t) ∧ RMem B N q es L ⟨app N (linkE es) D (fun w => sL w + t w), fun w => sL w + t w⟩ w' ∧ Fk B L w w'
set_option maxRecDepth 100000 in
set_option maxHeartbeats 8000000 in
theorem settle_any {B N q : Nat} {es : List Edg} {L : RLay} {D sL : Nat → Int} {M : Int} {w : World} (hM : RMem B N q es L ⟨app N (linkE es) D sL, sL⟩ w) (hO : SOk N q es D sL M) :
    Calls Tryz.prog 105 #[.pointer (some ⟨L.p, 0, none⟩)] w (SetPost B N q es L D sL w) := by
  have h12 := hM.num.1
  have hqN := hM.num.2.1
  have hok := hide hM.ok
  have hG : Hid (Gr N (linkE es)) := linkE_gr fun y hy => by have := (hok.out.at_ y hy).2; omega
  have HO := hide hO
  have hsz := hM.size
  have HM : Hid (RMem B N q es L ⟨app N (linkE es) D (fun w => sL w + 0), fun w => sL w + 0⟩ w) := by
    have e : (fun w => sL w + 0) = sL := funext fun w => by omega
    rw [e]
    exact hM
  have hI0 : Hid (SInv N q (linkE es) (app N (linkE es) D sL) (fun _ => 0)) := SInv.begin_ fun v hv hne => (hO.eB v hv hne).1
  have HBD : Hid (∀ t, SInv N q (linkE es) (app N (linkE es) D sL) t → 0 ≤ sumI t N ∧ sumI t N ≤ 4608000) := fun t ht => by
    obtain ⟨_, h2, _⟩ := HO.out.bnd hG.out hqN ht
    refine ⟨sumI_nn fun v hv => (h2 v hv).1, ?_⟩
    have h3 := sum_le_const (n := N) (f := t) (b := 768000) (fun v hv => (h2 v hv).2) N (Nat.le_refl _)
    have := HO.out.n6
    omega
  clear hM hO
  go_enter Tryz.func105, Tryz.ntmps105
  go_wp2_with fail
  go_loopg [2, 3, 4, 5, 6, 7, 8, 23] 4608001 (fun gk _ _ _ _ _ _ _ _ wr => ∃ t : Nat → Int, (4608000 - sumI t N).toNat < gk ∧ Hid (SInv N q (linkE es) (app N (linkE es) D sL) t) ∧ Hid (RMem B N q es L ⟨app N (linkE es) D (fun w => sL w + t w), fun w => sL w + t w⟩ wr) ∧ Hid (Fk B L w wr))
  case atStart => exact ⟨fun _ => 0, by rw [sumI_zero]; omega, hI0, HM, Fk.refl _ _ _⟩
  case round =>
    obtain ⟨t, hgk, HI, HMr, HFr⟩ := hrel
    obtain ⟨_, _, _, d3, _, d5⟩ := HMr.out.cells
    have hszB := HMr.out.size
    have HU := hide (unburnt_any HMr.out)
    obtain ⟨g0, hg0⟩ : ∃ g0, g0 = gk := ⟨_, rfl⟩
    have hgk0 : (4608000 - sumI t N).toNat < g0 := by rw [hg0]; exact hgk
    have HGK := hide hg0
    have HGK2 := hide hgk0
    clear hg0 hgk hgk0 d3
    go_wp2_with fail
    refine HU.out.mono ?_
    rintro e w2 ⟨gl, S, b, rfl, hUn, hb, hrow, hgl, hb2⟩
    have HUn := hide hUn
    have HBv := hide hb
    have HB2 := hide hb2
    have HRW := hide hrow
    clear hUn hb hb2 hrow
    rcases b with _ | _
    · go_wp2_with fail
      go_end0
      have hno : ∀ v, v < N → S v = false := fun v hv => by
        rcases h : S v with _ | _
        · rfl
        · exact absurd (HBv.out.2 ⟨v, hv, h⟩) (by simp)
      have hbb : Below wr.heap.size wr (w2.alloc (.cells #[.slice (some ⟨gl, 0, none⟩) N N] 139)) := HB2.out.alloc HB2.out.size _
      refine ⟨rfl, t, HI.out, ?_, HMr.out.below hbb, HFr.out.below hszB hbb⟩
      have h5 := HUn.out.redu hno
      rw [show app N (linkE es) (app N (linkE es) D sL) t = app N (linkE es) D (fun w => sL w + t w) from funext fun v => app_app t v]
      exact h5
    · have HNE : Hid (∃ v, v < N ∧ S v = true) := HBv.out.1 rfl
      go_wp2_with fail
      obtain ⟨W3, hW3⟩ : ∃ W3, w2.alloc (.cells #[.slice (some ⟨gl, 0, none⟩) N N] 139) = W3 := ⟨_, rfl⟩
      have hB3 : BMem N w2.heap.size gl S W3 := by
        rw [← hW3]
        exact ⟨Box.new w2 [.slice (some ⟨gl, 0, none⟩) N N] 139, HRW.out.new _⟩
      have hb3 : Below wr.heap.size wr W3 := by rw [← hW3]; exact HB2.out.alloc HB2.out.size _
      rw [hW3]
      obtain ⟨bb, hbb⟩ : ∃ bb, bb = w2.heap.size := ⟨_, rfl⟩
      rw [← hbb] at hB3 ⊢
      have HB3 := hide hB3
      have HM3 := hide (HMr.out.below hb3)
      have HF3 := hide (HFr.out.below hszB hb3)
      clear hW3 hB3 hb3 hbb d5
      obtain ⟨d, hd⟩ : ∃ d, d = app N (linkE es) D (fun w => sL w + t w) := ⟨_, rfl⟩
      have HDE := hide hd
      have hbnd := (HO.out.bnd hG.out hqN HI.out).1
      rw [← hd] at hbnd
      have HDB := hide hbnd
      have hUn2 := HUn.out
      simp only [← hd] at hUn2
      have HU2 := hide hUn2
      have HM4 : Hid (RMem B N q es L ⟨d, fun w => sL w + t w⟩ W3) := by rw [hd]; exact HM3.out
      clear hd hbnd hUn2 HUn
      have HTM : Hid (∀ j, j ≤ N → 0 ≤ mostT N (linkE es) S d j ∧ mostT N (linkE es) S d j ≤ 200000) := fun j hj =>
        ⟨(mostT_spec HU2.out.ok j hj).1, most_le (by omega) (fun v hv _ => (HDB.out v hv).2) HU2.out.ok j hj⟩
      go_loopg [4, 5, 6, 7, 8, 23] N (fun gm tv _ _ _ _ iv wx => ∃ i : Nat, i ≤ N ∧ gm = N - i ∧ tv = .int .i64 (mostT N (linkE es) S d i) ∧ iv = .int .i64 i ∧ Hid (Below W3.heap.size W3 wx))
      case atStart => exact ⟨0, by omega, by omega, rfl, rfl, Below.refl _ _⟩
      case round =>
        obtain ⟨i, hi, hgm, rfl, rfl, HBi⟩ := hrel
        have HGM := hide hgm
        clear hgm
        by_cases hlt : i < N
        · have HMi := hide (HM4.out.below HBi.out)
          have HBi2 := hide (HB3.out.below HBi.out)
          have b0 := HBi2.out.box.cell 0
          simp only [List.getElem?_cons_zero] at b0
          have g0 := HBi2.out.at hlt
          obtain ⟨_, _, _, d3, _, _⟩ := HMi.out.cells
          have e0 : wr.cell? ⟨L.gd, i, none⟩ = some (.int .i64 (d i)) := HMi.out.dAt hlt
          have hi0 : (0 : Int) ≤ i := by omega
          have hi1 : (i : Int) < N := by omega
          obtain ⟨T, hT⟩ : ∃ T, T = mostT N (linkE es) S d i := ⟨_, rfl⟩
          have hTb := HTM.out i (by omega)
          have hTn := HTM.out (i + 1) (by omega)
          have hdb := HDB.out i hlt
          have HTS : Hid (mostT N (linkE es) S d (i + 1) = if S i = true ∧ 0 < outD N (linkE es) S i then (if T = 0 ∨ d i / outD N (linkE es) S i < T then d i / outD N (linkE es) S i else T) else T) := by show _ = _; rw [hT]; rfl
          rw [← hT] at hTb ⊢
          clear hT
          rcases hS : S i with _ | _
          · rw [hS] at g0
            have HT2 : Hid (mostT N (linkE es) S d (i + 1) = T) := by show _ = _; rw [HTS.out, if_neg (fun hh => by rw [hS] at hh; cases hh.1)]
            clear HTS hS hTn e0 d3
            go_wp2_with fail
            go_roundg (N - (i + 1))
            case rel => exact ⟨i + 1, by omega, rfl, by rw [HT2.out], by go_num, HBi⟩
            case measure => rw [HGM.out]; omega
          · rw [hS] at g0
            have hle := HU2.out.ok i hlt hS
            have ho0 := outD_nn hG.out S hlt
            have HJ : Hid (Calls Tryz.prog 128 #[.pointer (some ⟨L.p, 0, none⟩), .int .i64 i, .func (.func 131) #[] #[.pointer (some ⟨bb, 0, none⟩)]] wr fun e w' => e = .returned (.int .i64 (outD N (linkE es) S i)) ∧ Below wr.heap.size wr w') := by
              have h5 := setl_joins HMi.out HBi2.out hlt
              rw [jn_inD _ _ fun y hy => (hok.out.at_ y hy).1, ← out_not] at h5
              have e : (fun u => !(fun u => !S u) u) = S := funext fun u => by simp
              rw [e] at h5
              exact h5
            generalize hO5 : outD N (linkE es) S i = E at *
            generalize hD5 : d i = di at *
            have hcond : S i = true ∧ 0 < E ↔ 0 < E := ⟨fun h => h.2, fun h => ⟨hS, h⟩⟩
            simp only [hcond] at HTS
            clear hO5 hD5 hS hcond
            by_cases hE : 0 < E
            · have q1 : decide ((0 : Int) < E) = true := by simpa using hE
              have q0 : (E == 0) = false := by simp; omega
              have HTS2 : Hid (mostT N (linkE es) S d (i + 1) = if T = 0 ∨ di / E < T then di / E else T) := by show _ = _; rw [HTS.out, if_pos hE]
              have hq3 : 0 ≤ di / E ∧ di / E ≤ di := ⟨Int.ediv_nonneg (by omega) (by omega), Int.ediv_le_self _ (by omega)⟩
              have hdi0 : 0 ≤ di := by omega
              clear HTS hTn
              by_cases hT0 : T = 0
              · have q2 : (T == 0) = true := by simpa using hT0
                have HT3 : Hid (mostT N (linkE es) S d (i + 1) = di / E) := by show _ = _; rw [HTS2.out, if_pos (.inl hT0)]
                clear HTS2 hT0
                go_wp2_with (go_at_call 128; refine HJ.out.mono ?_; rintro e w5 ⟨rfl, h5⟩; have d3 := (h5.cell (World.block_lt_of_cell? _ _ d3)).trans d3; have e0 := (h5.cell (World.block_lt_of_cell? _ _ e0)).trans e0; have HB5 := hide (below_then HBi.out h5); clear h5)
                go_roundg (N - (i + 1))
                case rel => exact ⟨i + 1, by omega, rfl, by rw [HT3.out], by go_num, HB5⟩
                case measure => rw [HGM.out]; omega
              · have q2 : (T == 0) = false := by simpa using hT0
                by_cases hlt2 : di / E < T
                · have q3 : decide (di / E < T) = true := by simpa using hlt2
                  have HT3 : Hid (mostT N (linkE es) S d (i + 1) = di / E) := by show _ = _; rw [HTS2.out, if_pos (.inr hlt2)]
                  clear HTS2 hT0
                  go_wp2_with (go_at_call 128; refine HJ.out.mono ?_; rintro e w5 ⟨rfl, h5⟩; have d3 := (h5.cell (World.block_lt_of_cell? _ _ d3)).trans d3; have e0 := (h5.cell (World.block_lt_of_cell? _ _ e0)).trans e0; have HB5 := hide (below_then HBi.out h5); clear h5)
                  go_roundg (N - (i + 1))
                  case rel => exact ⟨i + 1, by omega, rfl, by rw [HT3.out], by go_num, HB5⟩
                  case measure => rw [HGM.out]; omega
                · have q3 : decide (di / E < T) = false := by simpa using hlt2
                  have HT3 : Hid (mostT N (linkE es) S d (i + 1) = T) := by show _ = _; rw [HTS2.out, if_neg (fun hh => by rcases hh with h | h; exact hT0 h; exact hlt2 h)]
                  clear HTS2 hT0
                  go_wp2_with (go_at_call 128; refine HJ.out.mono ?_; rintro e w5 ⟨rfl, h5⟩; have d3 := (h5.cell (World.block_lt_of_cell? _ _ d3)).trans d3; have e0 := (h5.cell (World.block_lt_of_cell? _ _ e0)).trans e0; have HB5 := hide (below_then HBi.out h5); clear h5)
                  go_roundg (N - (i + 1))
                  case rel => exact ⟨i + 1, by omega, rfl, by rw [HT3.out], by go_num, HB5⟩
                  case measure => rw [HGM.out]; omega
            · have q1 : decide ((0 : Int) < E) = false := by simpa using hE
              have HT2 : Hid (mostT N (linkE es) S d (i + 1) = T) := by show _ = _; rw [HTS.out, if_neg hE]
              clear HTS hTn
              go_wp2_with (go_at_call 128; refine HJ.out.mono ?_; rintro e w5 ⟨rfl, h5⟩; have HB5 := hide (below_then HBi.out h5); clear h5)
              go_roundg (N - (i + 1))
              case rel => exact ⟨i + 1, by omega, rfl, by rw [HT2.out], by go_num, HB5⟩
              case measure => rw [HGM.out]; omega
        · have hie : i = N := by omega
          subst hie
          obtain ⟨T, hT⟩ : ∃ T, T = mostT i (linkE es) S d i := ⟨_, rfl⟩
          have hTb := HTM.out i (Nat.le_refl _)
          have HMi := hide (HM4.out.below HBi.out)
          have HBi2 := hide (HB3.out.below HBi.out)
          have b0 := HBi2.out.box.cell 0
          simp only [List.getElem?_cons_zero] at b0
          have hdE : d = app i (linkE es) (app i (linkE es) D sL) t := by rw [HDE.out]; exact funext fun v => (app_app t v).symm
          have hUE := HU2.out
          rw [hdE] at hUE
          have HI2 := hide (HI.out.step hG.out hqN hUE)
          rw [← hdE, ← hT] at HI2
          have hT1 : 1 ≤ T := by
            rw [hT]
            exact most_pos HO.out.conn hqN HU2.out.q0 HU2.out.ok hG.out HNE.out
          have HSUM := hide (fire_sum (t := t) (n := i) hT1 HNE.out)
          have HFS : Hid (fireF S T (fun w => sL w + t w) = fun w => sL w + fireF S T t w) := funext fun v => by
            show sL v + t v + (if S v = true then T else 0) = sL v + (t v + if S v = true then T else 0)
            omega
          rw [← hT] at hTb ⊢
          obtain ⟨k1, k2, k3⟩ := HO.out.bnd hG.out hqN HI.out
          obtain ⟨k4, k5, k6⟩ := HO.out.bnd hG.out hqN HI2.out
          have hMi2 : RMem B i q es L ⟨app i (linkE es) D (fun w => sL w + t w), fun w => sL w + t w⟩ wr := by have := HMi.out; rw [HDE.out] at this; exact this
          have HFI := hide (fire_scr hMi2 HBi2.out.row (t := T) (by omega) (fun u hu => by have := k1 u hu; omega) (fun u hu => by have := k3 u hu; omega) (fun u hu => by rw [HFS.out]; have := k4 u hu; omega) (fun u hu => by rw [HFS.out]; have h9 := k6 u hu; exact ⟨Int.le_trans (by omega) h9.1, Int.le_trans h9.2 (by omega)⟩))
          rw [HFS.out] at HFI
          have HFB := hide (HF3.out.below HM4.out.size HBi.out)
          have hs5 := HBD.out _ HI2.out
          clear k1 k2 k3 k4 k5 k6 hMi2 hdE hUE hT
          go_wp2_with (go_at_call 126; refine HFI.out.mono ?_; rintro e w6 ⟨rfl, h6, h7⟩; have HM6 := hide h6; have HF6 := hide (HFB.out.trans h7); clear h6 h7)
          go_roundg ((4608000 - sumI (fireF S T t) i).toNat + 1)
          case rel => exact ⟨_, Nat.lt_succ_self _, HI2, HM6, HF6⟩
          case measure =>
            have h5 := HGK2.out
            have h6 := HSUM.out
            have h7 := HGK.out
            have h8 := HBD.out _ HI.out
            omega
end Go.Proofs.YtpgopmmobbemcaaGreat

set_option linter.unusedVariables false
set_option linter.unusedSimpArgs false
set_option linter.unnecessarySimpa false
namespace Go.Proofs.YtpgopmmobbemcaaGreat
open Go.RowKit

def ResPost (B N q : Nat) (es : List Edg) (L : RLay) (x : RSt) (w : World) (e : Ending) (w' : World) : Prop :=
  e = .returned (.tuple #[.slice (some ⟨L.gd, 0, none⟩) N L.cd, .slice (some ⟨L.gs, 0, none⟩) N N, .int .i64 0]) ∧ RMem B N q es L ⟨x.d, fun v => x.s v - x.s q⟩ w' ∧ Fk B L w w'
theorem dErr_lst {N : Nat} {f : Nat → Int} (h12 : 1 ≤ N ∧ N ≤ 12) (h : ∀ v, v < N → -1048576 ≤ f v ∧ f v ≤ 1048576) : dErr N (lst N f) = 0 := by
  unfold dErr
  rw [if_pos (by omega), if_pos (by rw [lst_len])]
  have key : ∀ l : List Int, (∀ x ∈ l, -1048576 ≤ x ∧ x ≤ 1048576) → dScan l = 0 := by
    intro l
    induction l with
    | nil => intro _; rfl
    | cons y r ih =>
      intro hl
      have h1 := hl y (by simp)
      have h2 := ih fun x hx => hl x (by simp [hx])
      unfold dScan
      rw [if_pos (by unfold inChips; simp; omega)]
      exact h2
  refine key _ fun x hx => ?_
  obtain ⟨v, hv, rfl⟩ := List.mem_map.1 hx
  exact h v (List.mem_range.1 hv)
set_option maxRecDepth 100000 in
set_option maxHeartbeats 8000000 in
theorem result_any {B N q : Nat} {es : List Edg} {L : RLay} {x : RSt} {w : World} (hM : RMem B N q es L x w) (hd : Hid (∀ v, v < N → -1048576 ≤ x.d v ∧ x.d v ≤ 1048576)) (hs : Hid (∀ v, v < N → -1048576 ≤ x.s v - x.s q ∧ x.s v - x.s q ≤ 1048576)) (hs2 : Hid (∀ v, v < N → -2000000 ≤ x.s v ∧ x.s v ≤ 2000000)) :
    Calls Tryz.prog 106 #[.pointer (some ⟨L.p, 0, none⟩)] w (ResPost B N q es L x w) := by
  have h12 := hM.num.1
  have hqN := hM.num.2.1
  have hcd := hM.num.2.2
  have hsz := hM.size
  have hlow := hM.low
  obtain ⟨_, _, d2, d3, d4, d5⟩ := hM.cells
  have s0 := hM.sAt hqN
  have hq0 : (0 : Int) ≤ q := by omega
  have hq1 : (q : Int) < N := by omega
  have HM := hide hM
  have hsq := hs2.out q hqN
  obtain ⟨own, hown⟩ : ∃ own, own = x.s q := ⟨_, rfl⟩
  rw [← hown] at s0 hsq
  have HOW := hide hown
  clear hM hown
  go_enter Tryz.func106, Tryz.ntmps106
  go_wp2_with fail
  go_quiet (fail)
  go_wp2_with fail
  clear d2 d3 d4 d5 s0
  go_loopg [6, 31] N (fun gm _ iv wx => ∃ i : Nat, i ≤ N ∧ gm = N - i ∧ iv = .int .i64 i ∧ Hid (RMem B N q es L ⟨x.d, fun v => if v < i then x.s v - own else x.s v⟩ wx) ∧ Hid (Fk B L w wx))
  case atStart => exact ⟨0, by omega, by omega, rfl, HM.out.drewN _, (Fk.refl B L w).below hsz (below_drewN (Below.refl _ _) _)⟩
  case round =>
    obtain ⟨i, hi, hgm, rfl, HMi, HFi⟩ := hrel
    have HGM := hide hgm
    clear hgm
    by_cases hlt : i < N
    · obtain ⟨_, _, d2, d3, d4, d5⟩ := HMi.out.cells
      have s1 : wr.cell? ⟨L.gs, i, none⟩ = some (.int .i64 (x.s i)) := by
        have h5 := HMi.out.sAt hlt
        simp only [Nat.lt_irrefl, if_false] at h5
        exact h5
      have fz := HMi.out.rs.free i
      have hi0 : (0 : Int) ≤ i := by omega
      have hi1 : (i : Int) < N := by omega
      have hsi := hs2.out i hlt
      have HM2 : Hid (RMem B N q es L ⟨x.d, fun v => if v < i + 1 then x.s v - own else x.s v⟩ (wr.setCell ⟨L.gs, i, none⟩ (.int .i64 (x.s i - own)))) := by
        refine (HMi.out.putS hlt (x.s i - own)).congr (fun _ _ => rfl) fun v hv => ?_
        show putF (fun v => if v < i then x.s v - own else x.s v) i (x.s i - own) v = if v < i + 1 then x.s v - own else x.s v
        by_cases e : v = i
        · subst e; rw [putF_at, if_pos (by omega)]
        · rw [putF_ne _ _ e]
          by_cases h : v < i
          · rw [if_pos h, if_pos (by omega)]
          · rw [if_neg h, if_neg (by omega)]
      have HF2 : Hid (Fk B L w (wr.setCell ⟨L.gs, i, none⟩ (.int .i64 (x.s i - own)))) := HFi.out.put (.inr rfl) hlow.2.2 i _
      generalize x.s i = si at *
      go_wp2_with fail
      go_roundg (N - (i + 1))
      case rel => exact ⟨i + 1, by omega, rfl, by go_num, HM2, HF2⟩
      case measure => rw [HGM.out]; omega
    · have hie : i = N := by omega
      have HMN : Hid (RMem B N q es L ⟨x.d, fun v => x.s v - x.s q⟩ wr) := by
        rw [hie] at HMi
        refine HMi.out.congr (fun _ _ => rfl) fun v hv => ?_
        show (if v < N then x.s v - own else x.s v) = x.s v - x.s q
        rw [if_pos hv, HOW.out]
      obtain ⟨d0, _, _, d3, d4, d5⟩ := HMN.out.cells
      have HC1 : Hid (∀ W, Below wr.heap.size wr W → Calls Tryz.prog 89 #[.slice (some ⟨L.gd, 0, none⟩) N L.cd, .int .i64 N] W fun e w' => e = .returned (.int .i64 0) ∧ Below W.heap.size W w') := fun W hW => by
        have h5 := dcheck_any N (lst N x.d) (some ⟨L.gd, 0, none⟩) L.cd All W ((HMN.out.below hW).rd.ints (fun y hy => by obtain ⟨v, hv, rfl⟩ := List.mem_map.1 hy; have := hd.out v (List.mem_range.1 hv); change I64 (x.d v); unfold I64; omega) trivial) (by rw [lst_len]; exact hcd) (by rw [lst_len]; omega)
        rw [lst_len, dErr_lst h12 hd.out] at h5
        exact h5
      have HC2 : Hid (∀ W, Below wr.heap.size wr W → Calls Tryz.prog 89 #[.slice (some ⟨L.gs, 0, none⟩) N N, .int .i64 N] W fun e w' => e = .returned (.int .i64 0) ∧ Below W.heap.size W w') := fun W hW => by
        have h5 := dcheck_any N (lst N fun v => x.s v - x.s q) (some ⟨L.gs, 0, none⟩) N All W ((HMN.out.below hW).rs.ints (fun y hy => by obtain ⟨v, hv, rfl⟩ := List.mem_map.1 hy; have := hs.out v (List.mem_range.1 hv); change I64 (x.s v - x.s q); unfold I64; omega) trivial) (by rw [lst_len]; omega) (by rw [lst_len]; omega)
        rw [lst_len, dErr_lst h12 hs.out] at h5
        exact h5
      have HCG : Hid (∀ (g k : Nat) (W : World), (g = L.gd ∧ k = L.cd ∨ g = L.gs ∧ k = N) → Below wr.heap.size wr W → Calls Tryz.prog 89 #[.slice (some ⟨g, 0, none⟩) N k, .int .i64 N] W fun e w' => e = .returned (.int .i64 0) ∧ Below W.heap.size W w') := fun g k W hgk hW => by
        rcases hgk with ⟨rfl, rfl⟩ | ⟨rfl, rfl⟩
        · exact HC1.out W hW
        · exact HC2.out W hW
      have HBW := hide (Below.refl wr.heap.size wr)
      clear hie HMi HC1 HC2
      go_wp2_with fail
      go_region_held3 (fun w' => w'.cell? ⟨L.p, 0, none⟩ = some (.int .i64 N) ∧ w'.cell? ⟨L.p, 3, none⟩ = some (.slice (some ⟨L.gd, 0, none⟩) N L.cd) ∧ w'.cell? ⟨L.p, 4, none⟩ = some (.slice (some ⟨L.gs, 0, none⟩) N N)) (first | exact ⟨d0, d3, d4⟩) (first | (go_at_call 89; refine (HCG.out _ _ _ (by first | exact .inl ⟨rfl, rfl⟩ | exact .inr ⟨rfl, rfl⟩) (by first | with_reducible exact HBW.out | with_reducible exact HBW.out.drew)).mono ?_; rintro e w5 ⟨rfl, h5⟩; have d0 := (h5.cell (World.block_lt_of_cell? _ _ d0)).trans d0; have d3 := (h5.cell (World.block_lt_of_cell? _ _ d3)).trans d3; have d4 := (h5.cell (World.block_lt_of_cell? _ _ d4)).trans d4; have HBW := hide (show Below wr.heap.size wr w5 from below_then (by first | with_reducible exact HBW.out | with_reducible exact HBW.out.drew) h5); clear h5))
      all_goals
        go_wp2_with fail
        clear d3 d4
        have HM5 := hide (HMN.out.below HBW.out)
        obtain ⟨_, _, _, d3, d4, _⟩ := HM5.out.cells
        go_quiet (fail)
        go_wp2_with fail
        go_ret3
        exact ⟨rfl, HM5.out.drewN _, (HFi.out.below HMN.out.size HBW.out).below HM5.out.size (below_drewN (Below.refl _ _) _)⟩
/-- A state at the beginning. -/
def BegPost (w : World) (B N q : Nat) (es : List Edg) (D : Nat → Int) (e : Ending) (w' : World) : Prop :=
  ∃ L, e = .returned (.pointer (some ⟨L.p, 0, none⟩)) ∧ RMem B N q es L ⟨D, fun _ => 0⟩ w' ∧ Below w.heap.size w w' ∧ w.heap.size ≤ L.p ∧ w.heap.size ≤ L.gd ∧ w.heap.size ≤ L.gs
theorem beg_mk {W1 U : World} {B N q gd cd gs c p : Nat} {oe : Option Addr} {rest : List Value} {es : List Edg} {D : Nat → Int} (hgd : Row1 (Value.int .i64) U gd 3 (lst N D) rest) (hgs : Row1 (Value.int .i64) U gs 3 (List.replicate N 0) [])
    (hE : EdgesBelow B U oe es) (hok : EOk N es) (h12 : 1 ≤ N ∧ N ≤ 12) (hq : q < N) (hcd : N ≤ cd) (hne : gd ≠ gs) (hB : B ≤ W1.heap.size) (hlo : W1.heap.size ≤ gd ∧ W1.heap.size ≤ gs) (hb : Below W1.heap.size W1 U) (he : p = U.heap.size) :
    RMem B N q es ⟨p, gd, cd, gs, oe, c, rest⟩ ⟨D, fun _ => 0⟩ (U.alloc (.cells (rCells N q es.length ⟨p, gd, cd, gs, oe, c, rest⟩).toArray 162)) := by
  subst he
  have e0 : lst N (fun _ => 0) = List.replicate N 0 := by
    apply List.ext_getElem?
    intro i
    by_cases hi : i < N
    · rw [lst_get _ hi, List.getElem?_replicate, if_pos hi]
    · rw [List.getElem?_eq_none (by rw [lst_len]; omega), List.getElem?_eq_none (by simp; omega)]
  have hsz := hb.size
  exact ⟨Box.new U _ _, hgd.new _, by show Row1 _ _ _ _ (lst N fun _ => 0) _; rw [e0]; exact hgs.new _, hE.below (bnew (Below.refl _ _) _ |>.mono (by omega)), hne, ⟨by show B ≤ U.heap.size; omega, by show B ≤ gd; omega, by show B ≤ gs; omega⟩, ⟨h12, hq, hcd⟩, hok⟩
set_option maxRecDepth 100000 in
set_option maxHeartbeats 8000000 in
theorem begin_any {B N q : Nat} {es : List Edg} {oe : Option Addr} {c : Nat} {w : World} (hE : EdgesBelow B w oe es) (hB : B ≤ w.heap.size) (hok : EOk N es) (h12 : 1 ≤ N ∧ N ≤ 12) (hq : q < N) (d : List Int) (od : Option Addr) (cd : Nat) (F : Foot) (hd : SliceR intR 1 F w od d) (hdc : d.length ≤ cd) (hdN : d.length = N) :
    Calls Tryz.prog 103 #[.agg #[.int .i64 N, .slice oe es.length c], .int .i64 q, .slice od d.length cd] w (BegPost w B N q es fun v => d.getD v 0) := by
  obtain ⟨Zs, hZs, hmk⟩ := mk_ints 26 3 Tryz.underlying26 (by kernel_rfl) N (by omega)
  obtain ⟨W1, e1⟩ : ∃ W1, w.alloc (.cells #[.int .i64 N, .slice oe es.length c] 24) = W1 := ⟨_, rfl⟩
  have bx1 : Box W1 w.heap.size [.int .i64 N, .slice oe es.length c] 24 := by rw [← e1]; exact Box.new w [.int .i64 N, .slice oe es.length c] 24
  have bb1 := bnew (Below.refl w.heap.size w) (.cells #[.int .i64 N, .slice oe es.length c] 24)
  rw [e1] at bb1
  have hl3 : w.heap.size < W1.heap.size := bx1.lt
  have HDL : Hid (d = lst N fun v => d.getD v 0) := by
    show _ = _
    apply List.ext_getElem?
    intro i
    by_cases hi : i < N
    · rw [lst_get _ hi, List.getD_eq_getElem?_getD, List.getElem?_eq_getElem (by omega)]
      rfl
    · rw [List.getElem?_eq_none (by omega), List.getElem?_eq_none (by rw [lst_len]; omega)]
  have HCL : Hid (∀ u, Below W1.heap.size W1 u → Calls Tryz.prog 53 #[.slice od N cd] u fun e w' => ∃ gd c2 rest, e = .returned (.slice (some ⟨gd, 0, none⟩) N c2) ∧ Row1 (Value.int .i64) w' gd 3 (lst N fun v => d.getD v 0) rest ∧ N ≤ c2 ∧ u.heap.size ≤ gd ∧ Below u.heap.size u w') := fun u hu => by
    have h := cloneD_any d od cd F u ((hd.below intR_ok bb1).below intR_ok hu) hdc (by omega)
    rw [hdN] at h
    refine h.mono ?_
    rintro e w' ⟨v, rfl, ho, hb⟩
    obtain ⟨g, cap, rest, rfl, h1, h2, _, h4, _⟩ := ho.row (by intro e; rw [e] at hdN; simp at hdN; omega)
    rw [hdN] at h2 ⊢
    rw [HDL.out] at h4
    exact ⟨g, cap, rest, rfl, h4, by omega, h1, hb⟩
  have HE1 := hide (hE.below (bb1.mono hB))
  have HZS := hide hZs
  have HB1 := hide bb1
  have HOK := hide hok
  have y0 := bx1.cell 0
  have y1 := bx1.cell 1
  simp only [List.getElem?_cons_zero, List.getElem?_cons_succ] at y0 y1
  rw [hdN]
  clear hdN hd hdc HDL hE bx1 bb1 hok
  go_enter Tryz.func103, Tryz.ntmps103
  go_wp2_with fail
  go_region_held3 (fun w' => w'.cell? ⟨w.heap.size, 0, none⟩ = some (.int .i64 N) ∧ w'.cell? ⟨w.heap.size, 1, none⟩ = some (.slice oe es.length c)) (first | with_reducible exact ⟨y0, y1⟩ | with_reducible exact ⟨cell_next (cell_next y0 _) _, cell_next (cell_next y1 _) _⟩ | with_reducible exact ⟨cell_drew (cell_next y0 _), cell_drew (cell_next y1 _)⟩ | with_reducible exact ⟨cell_drew y0, cell_drew y1⟩ | with_reducible exact ⟨cell_next y0 _, cell_next y1 _⟩) (first
    | (go_at_call 53; refine (HCL.out _ (by first | with_reducible exact (bnew (Below.refl _ _) _).drew | with_reducible exact (Below.refl _ _).drew)).mono ?_; rintro e w4 ⟨gd, c2, rest, rfl, hgd, hc2', hgl, hb4⟩; replace y0 := (hb4.cell (by first | with_reducible exact World.block_lt_of_cell? _ _ (cell_drew (cell_next y0 _)) | with_reducible exact World.block_lt_of_cell? _ _ (cell_drew y0))).trans (by first | with_reducible exact cell_drew (cell_next y0 _) | with_reducible exact cell_drew y0); replace y1 := (hb4.cell (by first | with_reducible exact World.block_lt_of_cell? _ _ (cell_drew (cell_next y1 _)) | with_reducible exact World.block_lt_of_cell? _ _ (cell_drew y1))).trans (by first | with_reducible exact cell_drew (cell_next y1 _) | with_reducible exact cell_drew y1)))
  · go_wp2_with fail
    go_ret
    have hb40 := hb4
    simp only [drew_size, World.size_alloc] at hb4 hgl
    have hlt := hgd.lt
    have hsz := hb4.size
    have hbU : Below W1.heap.size W1 (w4.alloc (.cells Zs 3)) := ((Below.refl W1.heap.size W1).drew.trans hb4).alloc (by omega) (.cells Zs 3)
    refine ⟨⟨w4.heap.size + 1, gd, c2, w4.heap.size, oe, c, rest⟩, rfl, beg_mk (W1 := W1) (hgd.new _) (row_new HZS.out w4) (HE1.out.below (hbU.mono (by omega))) HOK.out h12 hq hc2' (by omega) (by omega) ⟨by omega, by omega⟩ hbU (by simp), ?_, by show _ ≤ w4.heap.size + 1; omega, by show _ ≤ gd; omega, by show _ ≤ w4.heap.size; omega⟩
    exact (HB1.out.trans (hbU.mono (by omega))).alloc (by simp; omega) _
  · go_wp2_with fail
    go_ret
    have hb40 := hb4
    simp only [drew_size, World.size_alloc] at hb4 hgl
    have hlt := hgd.lt
    have hsz := hb4.size
    simp only [drew_size, World.size_alloc] at hsz
    have hbU : Below W1.heap.size W1 w4 := (bnew (Below.refl W1.heap.size W1) (.cells Zs 3)).drew.trans (hb4.mono (by omega))
    refine ⟨⟨w4.heap.size, gd, c2, W1.heap.size, oe, c, rest⟩, rfl, beg_mk (W1 := W1) hgd ((row_new HZS.out W1).draw.below hb40) (HE1.out.below (hbU.mono (by omega))) HOK.out h12 hq hc2' (by omega) (by omega) ⟨by omega, by omega⟩ hbU rfl, ?_, by show _ ≤ w4.heap.size; omega, by show _ ≤ gd; omega, by show _ ≤ W1.heap.size; omega⟩
    exact (HB1.out.trans (hbU.mono (by omega))).alloc (by omega) _
end Go.Proofs.YtpgopmmobbemcaaGreat

set_option linter.unusedVariables false
set_option linter.unusedSimpArgs false
set_option linter.unnecessarySimpa false
namespace Go.Proofs.YtpgopmmobbemcaaGreat
open Go.RowKit

theorem sum_one_le {n : Nat} {a m : Int} (hm : 0 ≤ m) : sumI (fun v => if a = (v : Int) then m else 0) n ≤ m := by
  by_cases h : ∃ k : Nat, a = (k : Int) ∧ k < n
  · obtain ⟨k, rfl, hk⟩ := h
    have h1 := sumI_one (f := fun v : Nat => if ((k : Nat) : Int) = (v : Int) then m else 0) (g := fun _ => 0) hk (fun p hp hne => if_neg (by omega))
    rw [sumI_zero, if_pos rfl] at h1
    omega
  · rw [sumI_eq (g := fun _ => 0) fun v hv => if_neg fun e => h ⟨v, e, hv⟩, sumI_zero]
    exact hm
theorem val_sum {n : Nat} : ∀ {es : List Edg}, (∀ x ∈ es, 0 ≤ x.m) → sumI (fun v => valE es v) n ≤ 2 * ((endsL es).length : Int)
  | [], _ => by
    have h : sumI (fun v : Nat => valE [] v) n = 0 := sumI_zero n
    rw [h]
    simp [endsL]
  | x :: r, h => by
    have ih := val_sum (n := n) (es := r) fun y hy => h y (by simp [hy])
    have hx := h x (by simp)
    have e : sumI (fun v : Nat => valE (x :: r) v) n = sumI (fun v : Nat => valX x v) n + sumI (fun v : Nat => valE r v) n := by rw [← sumI_add]; rfl
    have h1 : sumI (fun v : Nat => valX x v) n ≤ sumI (fun v : Nat => (if x.a = (v : Int) then x.m else 0) + (if x.b = (v : Int) then x.m else 0)) n := sumI_le fun v hv => by
      unfold valX
      split
      · rename_i hc
        rcases hc.2 with h2 | h2
        · rw [if_pos h2]; split <;> omega
        · rw [if_pos h2]; split <;> omega
      · split <;> split <;> omega
    rw [sumI_add] at h1
    have h2 := sum_one_le (n := n) (a := x.a) hx
    have h3 := sum_one_le (n := n) (a := x.b) hx
    rw [e, endsL_cons, List.length_append, List.length_replicate]
    push_cast
    omega
/-- A small graph and a small divisor. -/
structure SmG (N : Nat) (es : List Edg) (d : List Int) : Prop where
  n6 : N ≤ 6
  sz : (endsL es).length ≤ 9
  dB : ∀ x ∈ d, -60 ≤ x ∧ x ≤ 60
theorem SmG.lok {N q : Nat} {es : List Edg} {d : List Int} (h : SmG N es d) (hok : EOk N es) (hc : Conn N (linkE es)) : LOk N q es (fun v => d.getD v 0) 60 30720 where
  c0 := by omega
  dB := fun v hv => by
    rw [List.getD_eq_getElem?_getD]
    rcases hx : d[v]? with _ | x
    · simp
    · have := h.dB x (List.mem_of_getElem? hx)
      simpa using this
  conn := hc
  big := fun far hF => by
    have hG : Gr N (linkE es) := linkE_gr fun y hy => by have := (hok.at_ y hy).2; omega
    have h1 := downX_half (far := far) hG
    have h2 : sumI (fun v => vlR N (linkE es) v) N = sumI (fun v : Nat => valE es v) N := sumI_eq fun v hv => (val_link v fun x hx => (hok.at_ x hx).1).symm
    have h3 := val_sum (n := N) (es := es) fun x hx => by have := (hok.at_ x hx).2; omega
    have h4 := h.sz
    have h5 := P2_mono (downX_nn (far := far) hG 0) (show downX N (linkE es) far 0 ≤ 9 by omega)
    have h6 : P2 9 = 512 := rfl
    omega
  M1 := by omega
theorem LInv.sok {N q : Nat} {es : List Edg} {D s : Nat → Int} (hO : LOk N q es D 60 30720) (h6 : N ≤ 6) (hq : q < N) (hG : Gr N (linkE es)) {far : Nat → Nat} (hF : Far N q (linkE es) far) {K : Nat} (hK : K ≤ N) (h : LInv N q (linkE es) far D 60 K 0 s) : SOk N q es D s 30720 where
  n6 := h6
  M1 := by omega
  eB := fun v hv hne => by
    have h1 := h.hi v hv (hF.pos v hv hne)
    have h2 := hO.big far hF
    omega
  eQ := by
    have h1 := h.mid q hq hF.q0
    have h2 := hO.big far hF
    omega
  sB := fun v hv => by
    have h1 := h.sb v hv
    have h2 := hO.big far hF
    have h3 : ((K - 0 : Nat) : Int) * (60 * P2 (downX N (linkE es) far 0)) ≤ ((K - 0 : Nat) : Int) * 30720 := Int.mul_le_mul_of_nonneg_left h2 (by omega)
    have h4 : ((K - 0 : Nat) : Int) * 30720 ≤ 6 * 30720 := Int.mul_le_mul_of_nonneg_right (by omega) (by omega)
    omega
  conn := hO.conn

set_option maxRecDepth 100000 in
set_option maxHeartbeats 2000000 in
theorem redgiven_any (n : Int) (es : List Edg) (oe : Option Addr) (c : Nat) (F : Foot) (w : World) (hs : SliceR edgR 3 F w oe es) (hc : es.length ≤ c) (hc2 : es.length ≤ 9223372036854775807)
    (f : List Nat) (hU : Hid (gErr n es = 0 → Uf f (eL es))) (d : List Int) (od : Option Addr) (cd : Nat) (G : Foot) (hd : SliceR intR 1 G w od d) (hdc : d.length ≤ cd) (hdl : d.length ≤ 9223372036854775807) :
    Calls Tryz.prog 102 #[.agg #[.int .i64 n, .slice oe es.length c], .int .i64 0, .slice od d.length cd] w (ErrPost w (tErr n es f d)) := by
  have hb0 := bnew (Below.refl w.heap.size w) (.cells #[.int .i64 n, .slice oe es.length c] 24)
  have bxx := Box.new w [.int .i64 n, .slice oe es.length c] 24
  have HK := hide (conn_any n es oe c F _ (hs.below edgR_ok hb0) hc hc2 f hU)
  have HD := hide (hd.below intR_ok hb0)
  have HB := hide hb0
  have HX := hide bxx
  clear hs hd hb0 bxx
  go_enter Tryz.func102, Tryz.ntmps102
  go_wp2_with fail
  refine HK.out.mono ?_
  rintro e w2 ⟨rfl, hb2⟩
  have HB2 := hide (below_then HB.out hb2)
  have bx2 := HX.out.below hb2
  have d0 := bx2.cell 0
  have d1 := bx2.cell 1
  simp only [List.getElem?_cons_zero, List.getElem?_cons_succ] at d0 d1
  have HC := hide (dcheck_any n d od cd G w2 (HD.out.below intR_ok hb2) hdc hdl)
  clear hb2 bx2
  by_cases hV : gErr n es = 0
  · have hn := (gErr_zero hV).1
    rw [hV]
    by_cases hp : partsN n es f = 1
    · have HJ : Hid (tErr n es f d = dErr n d) := by show _ = _; unfold tErr jErr; rw [if_pos hV, if_pos hp]; exact if_pos rfl
      have hq : (partsN n es f == 1) = true := by simpa using hp
      have q0 : decide (n ≤ (0 : Int)) = false := by simp; omega
      have q1 : ¬ n ≤ 0 := by omega
      rw [hq]
      clear hV hp hq
      go_wp2_with fail
      refine HC.out.mono ?_
      rintro e w3 ⟨rfl, h3⟩
      go_wp2_with fail
      go_ret
      exact ⟨ret_int HJ.out.symm, below_then HB2.out h3⟩
    · have HJ : Hid (tErr n es f d = 13) := by show _ = _; unfold tErr jErr; rw [if_pos hV, if_neg hp]; rfl
      have hq : (partsN n es f == 1) = false := by simpa using hp
      rw [hq]
      clear hV hp hq
      go_wp2_with fail
      go_ret
      exact ⟨ret_int HJ.out.symm, HB2.out⟩
  · have HJ : Hid (tErr n es f d = gErr n es) := by show _ = _; unfold tErr jErr; rw [if_neg hV]; exact if_neg hV
    have hq : (gErr n es != 0) = true := by simpa using hV
    go_wp2_with fail
    go_ret
    exact ⟨ret_int HJ.out.symm, HB2.out⟩
/-- What Reduce hands back. -/
def RedPost (w : World) (N : Nat) (es : List Edg) (d : List Int) (err : Int) (e : Ending) (w' : World) : Prop :=
  (err ≠ 0 → e = .returned (.tuple #[.slice none 0 0, .slice none 0 0, .int .i64 err])) ∧
  (err = 0 → ∃ gd cd gs rest r, e = .returned (.tuple #[.slice (some ⟨gd, 0, none⟩) N cd, .slice (some ⟨gs, 0, none⟩) N N, .int .i64 0]) ∧ Row1 (Value.int .i64) w' gd 3 (lst N r) rest ∧ (Winn N (linkE es) (fun v => d.getD v 0) ↔ 0 ≤ r 0) ∧ ∀ v, v < N → -1048576 ≤ r v ∧ r v ≤ 1048576) ∧
  Below w.heap.size w w'
set_option maxRecDepth 100000 in
set_option maxHeartbeats 2000000 in
theorem reduce_any (n : Int) (es : List Edg) (oe : Option Addr) (c : Nat) (F : Foot) (w : World) (hs : SliceR edgR 3 F w oe es) (hc : es.length ≤ c) (hc2 : es.length ≤ 1000)
    (f : List Nat) (hU : Hid (gErr n es = 0 → Uf f (eL es))) (d : List Int) (od : Option Addr) (cd : Nat) (G : Foot) (hd : SliceR intR 1 G w od d) (hdc : d.length ≤ cd) (hdl : d.length ≤ 1000) (hS : Hid (tErr n es f d = 0 → SmG n.toNat es d)) :
    Calls Tryz.prog 70 #[.agg #[.int .i64 n, .slice oe es.length c], .int .i64 0, .slice od d.length cd] w (RedPost w n.toNat es d (tErr n es f d)) := by
  have hb0 := bnew (Below.refl w.heap.size w) (.cells #[.int .i64 n, .slice oe es.length c] 24)
  have bxx := Box.new w [.int .i64 n, .slice oe es.length c] 24
  have HK := hide (redgiven_any n es oe c F _ (hs.below edgR_ok hb0) hc (by omega) f hU d od cd G (hd.below intR_ok hb0) hdc (by omega))
  have HD := hide (hd.below intR_ok hb0)
  have HE := hide (hs.below edgR_ok hb0)
  have HB := hide hb0
  have HX := hide bxx
  clear hs hd hb0 bxx
  go_enter Tryz.func70, Tryz.ntmps70
  go_wp2_with fail
  refine HK.out.mono ?_
  rintro e w2 ⟨rfl, hb2⟩
  have HB2 := hide (below_then HB.out hb2)
  have bx2 := HX.out.below hb2
  have d0 := bx2.cell 0
  have d1 := bx2.cell 1
  simp only [List.getElem?_cons_zero, List.getElem?_cons_succ] at d0 d1
  have HE2 := hide (HE.out.below edgR_ok hb2)
  have HD2 := hide (HD.out.below intR_ok hb2)
  clear hb2 bx2
  by_cases hV : tErr n es f d = 0
  · have hj : jErr n es f = 0 := by
      unfold tErr at hV
      split at hV
      · rename_i h; exact h
      · rename_i h; exact absurd hV h
    have hg := jErr_g hj
    have hn := (gErr_zero hg).1
    obtain ⟨N, rfl⟩ := Int.eq_ofNat_of_zero_le (show 0 ≤ n by omega)
    rw [Int.toNat_natCast] at hS ⊢
    have hSm := hS.out hV
    have hdN : d.length = N := by
      unfold tErr at hV
      rw [if_pos hj] at hV
      unfold dErr at hV
      split at hV
      · split at hV
        · rename_i h; omega
        · exact absurd hV (by omega)
      · exact absurd hV (by omega)
    have hok := EOk.of hg hc2
    have hconn := conn_link hU.out hj
    have h12 : 1 ≤ N ∧ N ≤ 12 := by omega
    have hG : Hid (Gr N (linkE es)) := linkE_gr fun y hy => by have := (hok.at_ y hy).2; omega
    have hLO := hSm.lok (q := 0) hok hconn
    have HBG := hide (begin_any (B := w2.heap.size) (EdgesBelow.of HE2.out) (Nat.le_refl _) hok h12 (show 0 < N by omega) d od cd G HD2.out hdc hdN (c := c))
    have HLO := hide hLO
    have HSM := hide hSm
    rw [hdN] at HBG ⊢
    have HV := hide hV
    rw [hV]
    clear hV hj hg hSm hok hconn hLO hdN
    go_wp2_with fail
    refine HBG.out.mono ?_
    rintro e w3 ⟨L, rfl, hM3, hb3, hl1, hl2, hl3⟩
    have HB3 := hide hb3
    have HLD := hide (lend_any hM3 HLO.out)
    have hq3 := hM3.num.2.1
    clear hb3 hM3
    go_wp2_with fail
    refine HLD.out.mono ?_
    rintro e w4 ⟨rfl, far, K, s, hF, hKN, hI, hM4, hFk4⟩
    have hSO := hI.sok HLO.out HSM.out.n6 hq3 hG.out hF hKN
    have HST := hide (settle_any hM4 hSO)
    have HSO := hide hSO
    have HF4 := hide hFk4
    clear hF hI hM4 hFk4 hSO
    go_wp2_with fail
    refine HST.out.mono ?_
    rintro e w5 ⟨rfl, t, hIt, hRe, hM5, hFk5⟩
    obtain ⟨k1, k2, k3⟩ := HSO.out.bnd hG.out hq3 hIt
    have HRS := hide (result_any hM5 (fun v hv => ⟨Int.le_trans (by omega) (k1 v hv).1, Int.le_trans (k1 v hv).2 (by omega)⟩) (fun v hv => by
      have h1 := k3 v hv
      have h2 := HSO.out.sB 0 hq3
      have h3 := hIt.q0
      have h4 := HSO.out.M1
      show _ ≤ (s v + t v) - (s 0 + t 0) ∧ (s v + t v) - (s 0 + t 0) ≤ _
      omega) (fun v hv => by have := k3 v hv; show _ ≤ s v + t v ∧ s v + t v ≤ _; omega))
    have HW : Hid (Winn N (linkE es) (fun v => d.getD v 0) ↔ 0 ≤ app N (linkE es) (fun v => d.getD v 0) (fun w => s w + t w) 0) := by
      have h1 := redu_win hG.out hq3 (fun v hv hne => hIt.pay v hv hne) hRe
      show _ ↔ _
      rw [← app_app, ← h1, Winn.moved, Winn.moved]
    have HF5 := hide (HF4.out.trans hFk5)
    have HK1 := hide k1
    clear hIt hRe hM5 hFk5 k1 k2 k3
    go_wp2_with fail
    refine HRS.out.mono ?_
    rintro e w6 ⟨rfl, hM6, hFk6⟩
    have HM6 := hide hM6
    have HF6 := hide (HF5.out.trans hFk6)
    clear hM6 hFk6
    go_wp2_with fail
    go_ret3
    refine ⟨fun h => absurd HV.out h, fun _ => ⟨L.gd, L.cd, L.gs, L.rest, _, rfl, HM6.out.rd, HW.out, fun v hv => ⟨Int.le_trans (by omega) (HK1.out v hv).1, Int.le_trans (HK1.out v hv).2 (by omega)⟩⟩, ?_⟩
    have h5 := HB2.out.size
    exact (HB2.out.trans (HB3.out.mono h5)).trans (HF6.out.1.mono h5)
  · have hq : (tErr n es f d != 0) = true := by simpa using hV
    have HV := hide hV
    clear hV
    go_wp2_with fail
    go_ret3
    exact ⟨fun _ => rfl, fun h => absurd h HV.out, HB2.out⟩
theorem results_tmp4 {fn : Func} {t u v z : Tmp} (h : fn.results = #[.tmp t, .tmp u, .tmp v, .tmp z]) (tmps : Array Value) (P : Program) (w : World) :
    (results fn tmps).run P w = .ok (.tuple #[tmps.getD t undef, tmps.getD u undef, tmps.getD v undef, tmps.getD z undef]) w := by
  simp [results, h]
/-- What Winnable hands back. -/
def WinPost (w : World) (N : Nat) (es : List Edg) (d : List Int) (err : Int) (e : Ending) (w' : World) : Prop :=
  ∃ b rv sv, e = .returned (.tuple #[.bool b, rv, sv, .int .i64 err]) ∧ (err = 0 → (b = true ↔ Winn N (linkE es) (fun v => d.getD v 0))) ∧ Below w.heap.size w w'
set_option maxRecDepth 100000 in
set_option maxHeartbeats 2000000 in
theorem winnable_any (n : Int) (es : List Edg) (oe : Option Addr) (c : Nat) (F : Foot) (w : World) (hs : SliceR edgR 3 F w oe es) (hc : es.length ≤ c) (hc2 : es.length ≤ 1000)
    (f : List Nat) (hU : Hid (gErr n es = 0 → Uf f (eL es))) (d : List Int) (od : Option Addr) (cd : Nat) (G : Foot) (hd : SliceR intR 1 G w od d) (hdc : d.length ≤ cd) (hdl : d.length ≤ 1000) (hS : Hid (tErr n es f d = 0 → SmG n.toNat es d)) :
    Calls Tryz.prog 29 #[.agg #[.int .i64 n, .slice oe es.length c], .slice od d.length cd] w (WinPost w n.toNat es d (tErr n es f d)) := by
  have hb0 := bnew (Below.refl w.heap.size w) (.cells #[.int .i64 n, .slice oe es.length c] 24)
  have HK := hide (reduce_any n es oe c F _ (hs.below edgR_ok hb0) hc hc2 f hU d od cd G (hd.below intR_ok hb0) hdc hdl hS)
  have HB := hide hb0
  clear hs hd hb0
  go_enter Tryz.func29, Tryz.ntmps29
  go_wp2_with fail
  refine HK.out.mono ?_
  rintro e w2 ⟨h1, h2, hb2⟩
  have HB2 := hide (below_then HB.out hb2)
  clear hb2
  by_cases hV : tErr n es f d = 0
  · obtain ⟨gd, c2, gs, rest, r, rfl, hrow, hw, hrb⟩ := h2 hV
    have hN : 0 < n.toNat := by
      have hj : jErr n es f = 0 := by
        unfold tErr at hV
        split at hV
        · rename_i h; exact h
        · rename_i h; exact absurd hV h
      have := (gErr_zero (jErr_g hj)).1
      omega
    have c0 : w2.cell? ⟨gd, 0, none⟩ = some (.int .i64 (r 0)) := hrow.cell (lst_get r hN)
    have hr0 := hrb 0 hN
    have hN1 : (0 : Int) < (n.toNat : Int) := by omega
    generalize n.toNat = N at *
    have HW := hide hw
    have HV := hide hV
    clear h1 h2 hrow hw hrb hV
    obtain ⟨b, hb⟩ : ∃ b, b = decide (0 ≤ r 0) := ⟨_, rfl⟩
    go_wp2_with fail
    refine bodyPost_ret (results_tmp4 rfl _ _ _) rfl ?_
    exact ⟨_, _, _, by rw [HV.out]; rfl, fun _ => by rw [HW.out]; simp, HB2.out⟩
  · have h3 := h1 hV
    subst h3
    have hq : (tErr n es f d != 0) = true := by simpa using hV
    have HV := hide hV
    clear hV h1 h2
    go_wp2_with fail
    refine bodyPost_ret (results_tmp4 rfl _ _ _) rfl ?_
    exact ⟨_, _, _, rfl, fun h => absurd h HV.out, HB2.out⟩
end Go.Proofs.YtpgopmmobbemcaaGreat

set_option linter.unusedVariables false
set_option linter.unusedSimpArgs false
set_option linter.unnecessarySimpa false
namespace Go.Proofs.YtpgopmmobbemcaaGreat
open Go.RowKit

theorem stepsJ_len (s : List Int) (v : Nat) : (stepsJ s v 2).length ≤ 2 := by
  unfold stepsJ
  exact Nat.le_trans (List.length_filterMap_le _ _) (by simp)
theorem stepsUp_len (s : List Int) : ∀ v, (stepsUp s v).length ≤ 2 * v
  | 0 => by simp [stepsUp]
  | v + 1 => by
    have h1 := stepsUp_len s v
    have h2 := stepsJ_len s v
    rw [stepsUp_succ, List.length_append]
    omega
theorem candL_len : ∀ {l : List (List Int)}, (∀ s ∈ l, s.length ≤ 12) → (candL l).length ≤ 24 * l.length
  | [], _ => by simp [candL]
  | s :: r, h => by
    have ih := candL_len (l := r) fun x hx => h x (by simp [hx])
    have h1 := stepsUp_len s s.length
    have h2 := h s (by simp)
    have e : candL (s :: r) = stepsUp s s.length ++ candL r := by simp [candL, stepsS, stepsUp]
    rw [e, List.length_append, List.length_cons]
    omega
theorem foldC_len (good : List Int → Bool) : ∀ (cs : List (List Int)) (st : List (List Int) × List (List Int)), (cs.foldl (addC good) st).2.length ≤ st.2.length + cs.length
  | [], st => by simp
  | c :: r, st => by
    have ih := foldC_len good r (addC good st c)
    have h1 : (addC good st c).2.length ≤ st.2.length + 1 := by
      unfold addC
      split
      · omega
      · simp only; split <;> simp
    rw [List.foldl_cons, List.length_cons]
    omega
theorem lay_ok {N : Nat} {owe : List Int → Int} {most limit : Int} : ∀ (n : Nat), ∀ s ∈ layS N owe most limit n, s.length = N ∧ ∀ y ∈ s, -(n : Int) ≤ y ∧ y ≤ n
  | 0, s, hs => by
    have e : s = List.replicate N 0 := by simpa [layS] using hs
    subst e
    exact ⟨by simp, fun y hy => by have := (List.mem_replicate.1 hy).2; omega⟩
  | n + 1, s, hs => by
    obtain ⟨⟨t, ht, hst⟩, _⟩ := more_mem.1 (show s ∈ (moreS (goodS owe most limit ((n : Int) + 1)) (layS N owe most limit n)).2 from hs)
    obtain ⟨h1, h2⟩ := lay_ok n t ht
    obtain ⟨v, k, hv, hk, _, rfl⟩ := steps_mem.1 hst
    refine ⟨by rw [nudS_len]; exact h1, fun y hy => ?_⟩
    unfold nudS at hy
    have hg : -(n : Int) ≤ t.getD v 0 ∧ t.getD v 0 ≤ n := by
      rw [List.getD_eq_getElem?_getD, List.getElem?_eq_getElem hv]
      exact h2 _ (List.getElem_mem hv)
    rcases List.mem_or_eq_of_mem_set hy with h | h
    · have := h2 y h; push_cast; omega
    · push_cast; omega
theorem lay_len {N : Nat} (h12 : N ≤ 12) {owe : List Int → Int} {most limit : Int} : ∀ n, (layS N owe most limit n).length ≤ 24 ^ n
  | 0 => by simp [layS]
  | n + 1 => by
    have ih := lay_len h12 (owe := owe) (most := most) (limit := limit) n
    have h1 := foldC_len (goodS owe most limit ((n : Int) + 1)) (candL (layS N owe most limit n)) ([], [])
    have h2 := candL_len (l := layS N owe most limit n) fun s hs => by have := (lay_ok n s hs).1; omega
    show (moreS (goodS owe most limit ((n : Int) + 1)) (layS N owe most limit n)).2.length ≤ _
    unfold moreS
    rw [Nat.pow_succ]
    simp at h1
    omega
theorem lay_small {N : Nat} (h12 : N ≤ 12) {owe : List Int → Int} {most limit : Int} {n : Nat} (h8 : n ≤ 8) : (layS N owe most limit n).length ≤ 110075314176 := by
  have h1 := lay_len h12 (owe := owe) (most := most) (limit := limit) n
  have h2 : 24 ^ n ≤ 24 ^ 8 := Nat.pow_le_pow_right (by omega) h8
  omega
/-- The search, layer by layer. -/
def solF (N : Nat) (owe : List Int → Int) (most limit : Int) : Nat → Nat → List Int × Int × Int
  | 0, _ => ([], 0, 12)
  | fuel + 1, n => match (layS N owe most limit n).foldl (winStep (winsO owe) cmpL) none with
    | some s => (s, n, 0)
    | none => solF N owe most limit fuel (n + 1)
def solveR (n : Int) (es : List Edg) (f : List Nat) (d : List Int) (limit : Int) (b : Bool) : List Int × Int × Int :=
  if tErr n es f d ≠ 0 then ([], 0, tErr n es f d) else if limit < 0 ∨ 8 < limit then ([], 0, 2) else if b = false then ([], 0, 6) else solF n.toNat (oweS es d) (grtE es n.toNat) limit (limit.toNat + 1) 0
end Go.Proofs.YtpgopmmobbemcaaGreat

set_option linter.unusedVariables false
set_option linter.unusedSimpArgs false
set_option linter.unnecessarySimpa false
namespace Go.Proofs.YtpgopmmobbemcaaGreat
open Go.RowKit

def SolPost (w : World) (r : List Int × Int × Int) (e : Ending) (w' : World) : Prop :=
  ∃ oa c, e = .returned (.tuple #[.slice oa r.1.length c, .int .i64 r.2.1, .int .i64 r.2.2]) ∧ r.1.length ≤ c ∧ SliceR intR 1 All w' oa r.1 ∧ Below w.heap.size w w'
theorem SolPost.none {w w' : World} {x y : Int} (h : Below w.heap.size w w') : SolPost w ([], x, y) (.returned (.tuple #[.slice none 0 0, .int .i64 x, .int .i64 y])) w' :=
  ⟨Option.none, 0, rfl, by simp, fun i x hx => by simp at hx, h⟩
def SolvePost (w : World) (n : Int) (es : List Edg) (f : List Nat) (d : List Int) (limit : Int) (e : Ending) (w' : World) : Prop :=
  ∃ b : Bool, (tErr n es f d = 0 → (b = true ↔ Winn n.toNat (linkE es) (fun v => d.getD v 0))) ∧ SolPost w (solveR n es f d limit b) e w'
theorem lay0 {N : Nat} (hN : N ≤ 12) {Zs : Array Value} (hZ : Zs.toList = List.replicate N (.int .i64 0)) (w : World) : SliceR (slcR intR 1) 1 All ((w.alloc (.cells Zs 3)).alloc (.cells #[.slice (some ⟨w.heap.size, 0, none⟩) N N] 26)) (some ⟨w.heap.size + 1, 0, none⟩) [List.replicate N 0] := by
  have hr := (row_new hZ w).new (.cells #[.slice (some ⟨w.heap.size, 0, none⟩) N N] 26)
  have hs : SliceR intR 1 All ((w.alloc (.cells Zs 3)).alloc (.cells #[.slice (some ⟨w.heap.size, 0, none⟩) N N] 26)) (some ⟨w.heap.size, 0, none⟩) (List.replicate N 0) := hr.ints (fun y hy => by have := (List.mem_replicate.1 hy).2; subst this; unfold I64; omega) trivial
  have bx := Box.new (w.alloc (.cells Zs 3)) [.slice (some ⟨w.heap.size, 0, none⟩) N N] 26
  intro i x hx
  match i, hx with
  | 0, hx =>
    simp at hx
    subst hx
    refine ⟨w.heap.size + 1, 0, [.slice (some ⟨w.heap.size, 0, none⟩) N N], rfl, trivial, ⟨_, N, by simp, by simp, by simp; omega, hs⟩, fun j v hj => ?_⟩
    match j, hj with
    | 0, hj =>
      simp at hj
      subst hj
      have := bx.cell 0
      rw [alloc_size'] at this
      simpa using this
    | j + 1, hj => simp at hj
  | i + 1, hx => simp at hx
set_option maxRecDepth 100000 in
set_option maxHeartbeats 8000000 in
theorem solve_any (n : Int) (es : List Edg) (oe : Option Addr) (c : Nat) (F : Foot) (w : World) (hs : SliceR edgR 3 F w oe es) (hc : es.length ≤ c) (hc2 : es.length ≤ 1000)
    (f : List Nat) (hU : Hid (gErr n es = 0 → Uf f (eL es))) (d : List Int) (od : Option Addr) (cd : Nat) (G : Foot) (hd : SliceR intR 1 G w od d) (hdc : d.length ≤ cd) (hdl : d.length ≤ 1000) (hS : Hid (tErr n es f d = 0 → SmG n.toNat es d)) (limit : Int) (hlim : I64 limit) :
    Calls Tryz.prog 20 #[.agg #[.int .i64 n, .slice oe es.length c], .slice od d.length cd, .int .i64 limit] w (SolvePost w n es f d limit) := by
  have hb0 := bnew (Below.refl w.heap.size w) (.cells #[.int .i64 n, .slice oe es.length c] 24)
  have bxx := Box.new w [.int .i64 n, .slice oe es.length c] 24
  have HK := hide (dgiven_any n es oe c F _ (hs.below edgR_ok hb0) hc (by omega) f hU d od cd G (hd.below intR_ok hb0) hdc (by omega))
  have HWI : Hid (∀ u, Below w.heap.size w u → Calls Tryz.prog 29 #[.agg #[.int .i64 n, .slice oe es.length c], .slice od d.length cd] u (WinPost u n.toNat es d (tErr n es f d))) := fun u hu => winnable_any n es oe c F u (hs.below edgR_ok hu) hc hc2 f hU d od cd G (hd.below intR_ok hu) hdc hdl hS
  have HD := hide hd
  have HS := hide hs
  have HB := hide hb0
  have HX := hide bxx
  clear hs hd hb0 bxx
  go_enter Tryz.func20, Tryz.ntmps20
  go_wp2_with fail
  refine HK.out.mono ?_
  rintro e w2 ⟨rfl, hb2⟩
  have HB2 := hide (below_then HB.out hb2)
  have HX2 := hide (HX.out.below hb2)
  clear hb2
  by_cases hV : tErr n es f d = 0
  case neg =>
    have hR : Hid (solveR n es f d limit false = ([], 0, tErr n es f d)) := if_pos hV
    have hq : (tErr n es f d != 0) = true := by simpa using hV
    have HV := hide hV
    go_wp2_with fail
    go_ret3
    exact ⟨false, fun h => absurd h HV.out, by rw [hR.out]; exact SolPost.none HB2.out⟩
  obtain ⟨N, rfl, hT⟩ := tErr_ok hV
  have HT := hide hT
  have h12 := hT.n12
  have hdN := hT.len
  have HOK := hide (EOk.of hT.g hc2)
  by_cases hl0 : limit < 0 ∨ 8 < limit
  case pos =>
    have hR : Hid (∀ b, solveR N es f d limit b = ([], 0, 2)) := fun b => by unfold solveR; rw [if_neg (fun h => h hV), if_pos hl0]
    have HWN : Hid (∃ b : Bool, (b = true ↔ Winn N (linkE es) (fun v => d.getD v 0))) := by
      by_cases h : Winn N (linkE es) (fun v => d.getD v 0)
      · exact ⟨true, ⟨fun _ => h, fun _ => rfl⟩⟩
      · exact ⟨false, ⟨(fun h2 => by cases h2), fun h2 => absurd h2 h⟩⟩
    rw [hV]
    clear hV
    rcases Int.lt_or_le limit 0 with h1 | h1
    · clear hl0
      go_wp2_with fail
      go_ret3
      obtain ⟨b, hb⟩ := HWN.out
      exact ⟨b, fun _ => by rw [Int.toNat_natCast]; exact hb, by rw [hR.out]; exact SolPost.none HB2.out⟩
    · have h2 : 8 < limit := by omega
      clear hl0
      go_wp2_with fail
      go_ret3
      obtain ⟨b, hb⟩ := HWN.out
      exact ⟨b, fun _ => by rw [Int.toNat_natCast]; exact hb, by rw [hR.out]; exact SolPost.none HB2.out⟩
  have hl1 : 0 ≤ limit := by omega
  have hl2 : limit ≤ 8 := by omega
  have y0 := HX2.out.cell 0
  have y1 := HX2.out.cell 1
  simp only [List.getElem?_cons_zero, List.getElem?_cons_succ] at y0 y1
  have HWI2 := hide (HWI.out w2 HB2.out)
  rw [hdN] at HWI2 ⊢
  rw [hV] at HWI2 ⊢
  have HSV : Hid (∀ b, solveR N es f d limit b = if b = false then ([], 0, 6) else solF N (oweS es d) (grtE es N) limit (limit.toNat + 1) 0) := fun b => by unfold solveR; rw [if_neg (fun h => h hV), if_neg hl0, Int.toNat_natCast]
  have HDN := hide hdN
  rw [hdN] at hdc
  clear hV hT hl0 hdN
  go_wp2_with fail
  refine HWI2.out.mono ?_
  rintro e w3 ⟨b, rv, sv, rfl, hbw, hb3⟩
  have HBW := hide (hbw rfl)
  have HB3 := hide (below_then HB2.out hb3)
  have HX3 := hide (HX2.out.below hb3)
  replace y0 := (hb3.cell (World.block_lt_of_cell? _ _ y0)).trans y0
  replace y1 := (hb3.cell (World.block_lt_of_cell? _ _ y1)).trans y1
  clear hbw hb3
  rcases b with _ | _
  · have HWF : Hid (tErr N es f d = 0 → (false = true ↔ Winn (N : Int).toNat (linkE es) (fun v => d.getD v 0))) := fun _ => HBW.out
    clear HBW
    go_wp2_with fail
    go_ret3
    exact ⟨false, HWF.out, by rw [HSV.out, if_pos rfl]; exact SolPost.none HB3.out⟩
  have HWT : Hid (tErr N es f d = 0 → (true = true ↔ Winn (N : Int).toNat (linkE es) (fun v => d.getD v 0))) := fun _ => ⟨fun _ => HBW.out.1 rfl, fun _ => rfl⟩
  clear HBW
  have hR : Hid (solveR N es f d limit true = solF N (oweS es d) (grtE es N) limit (limit.toNat + 1) 0) := by show _ = _; rw [HSV.out, if_neg (by simp)]
  have HGR : Hid (∀ W, Below w.heap.size w W → Calls Tryz.prog 59 #[.agg #[.int .i64 N, .slice oe es.length c]] W fun e w' => e = .returned (.int .i64 (grtE es N)) ∧ Below W.heap.size W w') := fun W hW => greatest_any N es oe c F W (HS.out.below edgR_ok hW) hc hc2 HT.out.g
  have hgb := grtE_le (valE_bound HT.out.g hc2) N
  obtain ⟨gr, hgr⟩ : ∃ gr, gr = grtE es N := ⟨_, rfl⟩
  rw [← hgr] at HGR hgb hR
  clear hgr HSV HWI HWI2
  go_upto_region 11 with fail
  go_cut [14] (fun s14 wx => ∃ p, s14 = .pointer (some ⟨p, 0, none⟩) ∧ Hid (SCtx N es oe c d od cd p gr limit wx) ∧ Hid (Below w.heap.size w wx) ∧ Hid (wx.cell? ⟨w.heap.size, 0, none⟩ = some (.int .i64 N)))
  case first =>
    have HBZ := HB3
    go_region_held3 (fun w' => w'.cell? ⟨w.heap.size, 0, none⟩ = some (.int .i64 N) ∧ w'.cell? ⟨w.heap.size, 1, none⟩ = some (.slice oe es.length c)) (first | with_reducible exact ⟨y0, y1⟩ | with_reducible exact ⟨cell_next y0 _, cell_next y1 _⟩ | exact ⟨y0, y1⟩) (first
      | (go_at_call 59; refine (HGR.out _ (by first | with_reducible exact HBZ.out | with_reducible exact HBZ.out.drew)).mono ?_; rintro e w5 ⟨rfl, h5⟩; have y0 := (h5.cell (World.block_lt_of_cell? _ _ y0)).trans y0; have y1 := (h5.cell (World.block_lt_of_cell? _ _ y1)).trans y1; have HBZ := hide (show Below w.heap.size w w5 from below_then (by first | with_reducible exact HBZ.out | with_reducible exact HBZ.out.drew) h5); clear h5))
    all_goals
      go_wp2_with fail
      go_meet
      have hbz := HBZ.out.alloc HBZ.out.size (.cells #[.int .i64 N, .slice oe es.length c, .slice od N cd, .int .i64 gr, .int .i64 limit] 102)
      exact ⟨_, rfl, ⟨HOK.out, h12, (HS.out.below edgR_ok hbz).all edgR_ok (by decide), hc, (HD.out.below intR_ok hbz).all intR_ok (by decide), hdc, HDN.out, HT.out.dB, Box.new _ _ _⟩, hbz, cell_next y0 _⟩
  case rest =>
    obtain ⟨p, rfl, HC, HBc, HY0⟩ := hcut
    obtain ⟨Zs, hZs, hmk⟩ := mk_ints 26 3 Tryz.underlying26 (by kernel_rfl) N (by omega)
    have HZS := hide hZs
    have hy0 := HY0.out
    clear y0 y1 hZs
    go_wp2_with fail
    have HL0 : Hid (SliceR (slcR intR 1) 1 All ((wc.alloc (.cells Zs 3)).alloc (.cells #[.slice (some ⟨wc.heap.size, 0, none⟩) N N] 26)) (some ⟨wc.heap.size + 1, 0, none⟩) [List.replicate N 0]) := lay0 h12.2 HZS.out wc
    have HC0 : Hid (SCtx N es oe c d od cd p gr limit ((wc.alloc (.cells Zs 3)).alloc (.cells #[.slice (some ⟨wc.heap.size, 0, none⟩) N N] 26))) := (HC.out.below (bnew (Below.refl _ _) _)).below (bnew (Below.refl _ _) _)
    have HB0 : Hid (Below w.heap.size w ((wc.alloc (.cells Zs 3)).alloc (.cells #[.slice (some ⟨wc.heap.size, 0, none⟩) N N] 26))) := (HBc.out.alloc HBc.out.size _).alloc (by have := HBc.out.size; rw [alloc_size']; omega) _
    clear hmk hy0
    generalize (wc.alloc (.cells Zs 3)).alloc (.cells #[.slice (some ⟨wc.heap.size, 0, none⟩) N N] 26) = W0 at *
    obtain ⟨M, hM⟩ : ∃ M : Nat, M = limit.toNat + 1 := ⟨_, rfl⟩
    have hML : (M : Int) = limit + 1 := by omega
    have hM9 : M ≤ 9 := by omega
    rw [← hM] at hR
    clear hM
    obtain ⟨owe, howe⟩ : ∃ owe, owe = oweS es d := ⟨_, rfl⟩
    rw [← howe] at hR
    have HOWE := hide howe
    clear howe
    go_loopg [15, 16] M (fun gm lv nv wx => ∃ (k : Nat) (ol : Option Addr) (cl : Nat) (L : List (List Int)), k ≤ M ∧ gm = M - k ∧ nv = .int .i64 k ∧ lv = .slice ol L.length cl ∧ L.length ≤ cl ∧ Hid (L = layS N owe gr limit k) ∧ Hid (SliceR (slcR intR 1) 1 All wx ol L) ∧ Hid (SCtx N es oe c d od cd p gr limit wx) ∧ Hid (Below w.heap.size w wx) ∧ Hid (solF N owe gr limit M 0 = solF N owe gr limit (M - k) k))
    case atStart => exact ⟨0, _, 1, [List.replicate N 0], by omega, by omega, rfl, rfl, by simp, rfl, HL0, HC0, HB0, rfl⟩
    case round =>
      obtain ⟨k, ol, cl, L, hk, hgm, rfl, rfl, hLc, HLE, HLS, HCk, HBk, HSF⟩ := hrel
      have HGM := hide hgm
      clear hgm
      by_cases hlt : (k : Int) ≤ limit
      · have hk8 : k ≤ 8 := by omega
        have hkM : k < M := by omega
        have hLl : L.length ≤ 110075314176 := by rw [HLE.out]; exact lay_small h12.2 hk8
        have HLO : Hid (∀ s ∈ L, s.length = N ∧ ∀ y ∈ s, -50 ≤ y ∧ y ≤ 50) := fun s hs => by
          rw [HLE.out] at hs
          obtain ⟨h1, h2⟩ := lay_ok k s hs
          exact ⟨h1, fun y hy => by have := h2 y hy; omega⟩
        have HWN := hide (winner_any HCk.out L ol cl All HLS.out hLc (by omega) (fun s hs => ⟨(HLO.out s hs).1, fun y hy => by have := (HLO.out s hs).2 y hy; omega⟩))
        rw [← HOWE.out] at HWN
        have HST : Hid (solF N owe gr limit (M - k) k = match L.foldl (winStep (winsO owe) cmpL) Option.none with | some s => (s, (k : Int), 0) | Option.none => solF N owe gr limit (M - (k + 1)) (k + 1)) := by
          show _ = _
          rw [show M - k = (M - (k + 1)) + 1 by omega, HLE.out]
          rfl
        go_wp2_with fail
        refine HWN.out.mono ?_
        rintro e w5 ⟨v, rfl, hbest, hb5⟩
        have HB5 := hide (below_then HBk.out hb5)
        have HC5 := hide (HCk.out.below hb5)
        have HL5 := hide (HLS.out.below (slcR_ok intR_ok (by decide)) hb5)
        have HBEST := hide hbest
        clear hbest hb5
        cases hfo : L.foldl (winStep (winsO owe) cmpL) Option.none with
        | none =>
          rw [hfo] at HBEST HST
          have h5 : v = .slice none 0 0 := HBEST.out
          subst h5
          clear hfo
          have hq : (binOp .neq 26 (.slice none 0 0) (.slice none 0 0)).run Tryz.prog w5 = .ok (.bool false) w5 := run_neq_slice_nil_any w5 _ 3 none 0 0 0 0 Tryz.underlying26
          have HMO := hide (more_any HC5.out (by omega) (by omega) L ol cl All HL5.out hLc hLl HLO (k : Int) (by omega))
          rw [← HOWE.out] at HMO
          go_wp2_with fail
          refine HMO.out.mono ?_
          rintro e w6 ⟨oa, ca, rfl, hca, hsl, hb6⟩
          have HB6 := hide (below_then HB5.out hb6)
          have HC6 := hide (HC5.out.below hb6)
          have HL6 := hide hsl
          have HLN : Hid ((moreS (goodS owe gr limit ((k : Int) + 1)) L).2 = layS N owe gr limit (k + 1)) := by show _ = _; rw [HLE.out]; rfl
          have HSN : Hid (solF N owe gr limit M 0 = solF N owe gr limit (M - (k + 1)) (k + 1)) := by show _ = _; rw [HSF.out, HST.out]
          generalize (moreS (goodS owe gr limit ((k : Int) + 1)) L).2 = L2 at *
          clear hsl hb6
          go_wp2_with fail
          go_roundg (M - (k + 1))
          case rel => exact ⟨k + 1, oa, ca, L2, by omega, rfl, by go_num, rfl, hca, HLN, HL6, HC6, HB6, HSN⟩
          case measure => rw [HGM.out]; omega
        | some t =>
          rw [hfo] at HBEST HST
          obtain ⟨b5, o5, c5, h5, hc5, ht5, hs5⟩ := HBEST.out
          subst h5
          have HT5 := hide ht5
          have HS5 := hide hs5
          clear hfo ht5 hs5
          have hq : (binOp .neq 26 (.slice (some ⟨b5, o5, none⟩) N c5) (.slice none 0 0)).run Tryz.prog w5 = .ok (.bool true) w5 := run_neq_slice_nil_any w5 _ 3 (some ⟨b5, o5, none⟩) N c5 0 0 Tryz.underlying26
          go_wp2_with fail
          go_ret3
          refine ⟨true, fun h => ⟨fun _ => (HWT.out h).1 (by trivial), fun _ => rfl⟩, ?_⟩
          rw [hR.out, HSF.out, HST.out]
          exact ⟨_, c5, by rw [HT5.out]; rfl, by rw [HT5.out]; exact hc5, HS5.out, HB5.out⟩
      · have hkM : k = M := by omega
        have HSE : Hid (solF N owe gr limit M 0 = ([], 0, 12)) := by
          show _ = _
          rw [HSF.out, hkM, Nat.sub_self]
          rfl
        clear hkM
        go_wp2_with fail
        go_ret3
        exact ⟨true, fun h => ⟨fun _ => (HWT.out h).1 (by trivial), fun _ => rfl⟩, by rw [hR.out, HSE.out]; exact SolPost.none HBk.out⟩
end Go.Proofs.YtpgopmmobbemcaaGreat

namespace Go.Proofs
open Go.Shelf
def Tryz.lays189_ren : Go.Shelf.Ren := ⟨fun | 189 => 85 | 125 => 118 | 257 => 117 | 128 => 150 | 129 => 151 | 294 => 141 | 295 => 142 | 296 => 143 | 297 => 144 | 298 => 145 | 299 => 146 | 216 => 147 | 300 => 148 | 301 => 149 | 328 => 160 | 329 => 161 | 330 => 162 | 331 => 163 | 332 => 164 | 215 => 152 | 343 => 169 | n => n, fun | 28 => 25 | 3 => 3 | 46 => 146 | 0 => 0 | 51 => 168 | 53 => 171 | 4 => 4 | 183 => 185 | 182 => 184 | 131 => 189 | 5 => 5 | 9 => 9 | 218 => 201 | 222 => 205 | 228 => 211 | 229 => 53 | n => n, fun | n => n⟩
theorem Tryz.lays189 : Go.Proofs.Lays.n189 Tryz.prog Tryz.lays189_ren := {
  mixed := by kernel_rfl
  f125 := Tryz.func118.trans (congrArg some (by kernel_rfl))
  f128 := Tryz.func150.trans (congrArg some (by kernel_rfl))
  f129 := Tryz.func151.trans (congrArg some (by kernel_rfl))
  f189 := Tryz.func85.trans (congrArg some (by kernel_rfl))
  f215 := Tryz.func152.trans (congrArg some (by kernel_rfl))
  f216 := Tryz.func147.trans (congrArg some (by kernel_rfl))
  f257 := Tryz.func117.trans (congrArg some (by kernel_rfl))
  f294 := Tryz.func141.trans (congrArg some (by kernel_rfl))
  f295 := Tryz.func142.trans (congrArg some (by kernel_rfl))
  f296 := Tryz.func143.trans (congrArg some (by kernel_rfl))
  f297 := Tryz.func144.trans (congrArg some (by kernel_rfl))
  f298 := Tryz.func145.trans (congrArg some (by kernel_rfl))
  f299 := Tryz.func146.trans (congrArg some (by kernel_rfl))
  f300 := Tryz.func148.trans (congrArg some (by kernel_rfl))
  f301 := Tryz.func149.trans (congrArg some (by kernel_rfl))
  f328 := Tryz.func160.trans (congrArg some (by kernel_rfl))
  f329 := Tryz.func161.trans (congrArg some (by kernel_rfl))
  f330 := Tryz.func162.trans (congrArg some (by kernel_rfl))
  f331 := Tryz.func163.trans (congrArg some (by kernel_rfl))
  f332 := Tryz.func164.trans (congrArg some (by kernel_rfl))
  f343 := Tryz.func169.trans (congrArg some (by kernel_rfl))
  t0 := Tryz.underlying0
  a0 := Tryz.isAgg0
  z0 := Tryz.sizeOf0
  v0 := Tryz.zeroValue0
  t3 := Tryz.underlying3
  a3 := Tryz.isAgg3
  z3 := Tryz.sizeOf3
  v3 := Tryz.zeroValue3
  t4 := Tryz.underlying4
  a4 := Tryz.isAgg4
  z4 := Tryz.sizeOf4
  v4 := Tryz.zeroValue4
  t5 := Tryz.underlying5
  a5 := Tryz.isAgg5
  z5 := Tryz.sizeOf5
  v5 := Tryz.zeroValue5
  t9 := Tryz.underlying9
  a9 := Tryz.isAgg9
  z9 := Tryz.sizeOf9
  v9 := Tryz.zeroValue9
  t28 := Tryz.underlying25
  a28 := Tryz.isAgg25
  z28 := Tryz.sizeOf25
  v28 := Tryz.zeroValue25
  t46 := Tryz.underlying146
  a46 := Tryz.isAgg146
  z46 := Tryz.sizeOf146
  v46 := Tryz.zeroValue146
  t51 := Tryz.underlying168
  a51 := Tryz.isAgg168
  z51 := Tryz.sizeOf168
  v51 := Tryz.zeroValue168
  t53 := Tryz.underlying171
  a53 := Tryz.isAgg171
  z53 := Tryz.sizeOf171
  v53 := Tryz.zeroValue171
  t131 := Tryz.underlying189
  a131 := Tryz.isAgg189
  z131 := Tryz.sizeOf189
  v131 := Tryz.zeroValue189
  t182 := Tryz.underlying184
  a182 := Tryz.isAgg184
  z182 := Tryz.sizeOf184
  v182 := Tryz.zeroValue184
  t183 := Tryz.underlying185
  a183 := Tryz.isAgg185
  z183 := Tryz.sizeOf185
  v183 := Tryz.zeroValue185
  t218 := Tryz.underlying201
  a218 := Tryz.isAgg201
  z218 := Tryz.sizeOf201
  v218 := Tryz.zeroValue201
  t222 := Tryz.underlying205
  a222 := Tryz.isAgg205
  z222 := Tryz.sizeOf205
  v222 := Tryz.zeroValue205
  t228 := Tryz.underlying211
  a228 := Tryz.isAgg211
  z228 := Tryz.sizeOf211
  v228 := Tryz.zeroValue211
  t229 := Tryz.underlying53
  a229 := Tryz.isAgg53
  z229 := Tryz.sizeOf53
  v229 := Tryz.zeroValue53 }
open Go.Sort Go.RowKit in
theorem Tryz.slices_Sort_int (blk off cap : Nat) (zs : List Int) (w : World) (hH : Holds (Value.int .i64) w blk off zs.toArray) (hblk : blk < w.heap.size) (hsz : zs.length < 4611686018427387904) :
    Calls Tryz.prog 85 #[.slice (some ⟨blk, off, none⟩) zs.length cap] w fun e w' =>
      e = .returned (.tuple #[]) ∧ ∃ n os, w' = grow (putRow (Value.int .i64) (Sort.ahead w n) blk off (zs.mergeSort fun x y => decide (x ≤ y)).toArray) os := Any.slices_Sort_int Tryz.lays189 blk off cap zs w hH hblk hsz
open Go.RowKit Go.Sort in
/-- .. and plain. (LAID: no walk: one application.) -/
theorem Tryz.slices_Sort_int_none (p : Option Addr) (cap : Nat) (w : World) :
    Calls Tryz.prog 85 #[.slice p 0 cap] w fun e w' => e = .returned (.tuple #[]) ∧ w' = w := Any.slices_Sort_int_none Tryz.lays189 p cap w
end Go.Proofs

set_option linter.unusedVariables false
namespace Go.Proofs.YtpgopmmobbemcaaGreat
open Go.RowKit Go.Sort

theorem sortI_any (base : Nat) (e : TypeId) (v : Value) (xs : List Int) (w : World) (hown : OwnQ base e w v xs) (hlen : xs.length ≤ 1000000000) :
    Calls Tryz.prog 85 #[v] w fun e' w' => e' = .returned (.tuple #[]) ∧ OwnQ base e w' v (xs.mergeSort fun x y => decide (x ≤ y)) ∧ w.grownBy w' v.ownBlock := by
  have h0 := hown
  obtain ⟨g, o, cap, cur, rfl, h1, h2, h3, h4, h5, h6, h7⟩ := hown
  have hg : g < w.heap.size := (Array.getElem?_eq_some_iff.1 h2).1
  have hH : Holds (Value.int .i64) w g o xs.toArray := by
    intro j hj
    have hj' : j < xs.length := by simpa using hj
    refine ⟨?_, by simp [World.frozen?, h2]⟩
    rw [h0.get rfl j _ (List.getElem?_eq_getElem hj')]
    simp [hj']
  refine (Tryz.slices_Sort_int g o cap xs w hH hg (by omega)).mono ?_
  rintro e' w' ⟨rfl, n, os, rfl⟩
  generalize hts : (xs.mergeSort fun x y => decide (x ≤ y)) = ts
  have hl : ts.length = xs.length := by rw [← hts]; exact List.length_mergeSort _
  have hm : ∀ x ∈ ts, I64 x := fun x hx => h7 x (by rw [← hts] at hx; exact (List.mergeSort_perm xs _).mem_iff.1 hx)
  refine ⟨rfl, ⟨g, o, cap, putCells (Value.int .i64) o ts.toArray cur, by rw [hl], h1, ?_, by omega, h4, by simp [putCells]; exact h5, ?_, hm⟩, ?_⟩
  · rw [heap_grow_old _ _ (by simpa [putRow, mapBlock, Sort.ahead] using hg)]
    simp [putRow, mapBlock, Sort.ahead, Array.getElem?_modify, h2, onCells]
  · apply List.ext_getElem?
    intro j
    by_cases hj : j < ts.length
    · rw [List.getElem?_take_of_lt hj, List.getElem?_drop, Array.getElem?_toList]
      simp [putCells, hj, show o + j < cur.size by omega]
    · rw [List.getElem?_take_eq_none (by omega), List.getElem?_eq_none (by simp; omega)]
  · refine ⟨rfl, rfl, rfl, by simp [grow, putRow, mapBlock, Sort.ahead], fun k hk hne => ?_⟩
    rw [heap_grow_old _ _ (by simpa [putRow, mapBlock, Sort.ahead] using hk)]
    have : g ≠ k := fun e => hne (by simp [Value.ownBlock, e])
    simp [putRow, mapBlock, Sort.ahead, Array.getElem?_modify, this]

end Go.Proofs.YtpgopmmobbemcaaGreat

set_option linter.unusedVariables false
namespace Go.Proofs.YtpgopmmobbemcaaGreat
open Go.RowKit Go.Shelf

attribute [local go_sem] Oper.semAt_some

def upto {α : Type} (f : Nat → α) (k : Nat) : List α := (List.range k).map f
theorem upto_succ {α : Type} (f : Nat → α) (k : Nat) : upto f (k + 1) = upto f k ++ [f k] := by simp [upto, List.range_succ]
theorem upto_length {α : Type} (f : Nat → α) (k : Nat) : (upto f k).length = k := by simp [upto]
theorem upto_all (zs : List Int) : upto (fun j => zs[j]?.getD 0) zs.length = zs := by
  apply List.ext_getElem
  · simp [upto]
  · intro i h1 h2
    simp [upto, h2]
theorem upto_take (zs : List Int) {k : Nat} (hk : k ≤ zs.length) : upto (fun j => zs[j]?.getD 0) k = zs.take k := by
  apply List.ext_getElem
  · simp [upto, hk]
  · intro i h1 h2
    have : i < zs.length := by simp [upto] at h1; omega
    simp [upto, this]

/-- The slice value sv holds the ints zs, in a block below n₀; or there are none. -/
def IntsBelow (n₀ : Nat) (W : World) (sv : Value) (zs : List Int) : Prop :=
  (∃ a c, sv = .slice a 0 c ∧ zs = []) ∨ ∃ b off cap, sv = .slice (some ⟨b, off, none⟩) zs.length cap ∧ b < n₀ ∧ ∀ j, j < zs.length → W.cell? ⟨b, off + j, none⟩ = some (.int .i64 (zs[j]?.getD 0))
theorem IntsBelow.below {n₀ : Nat} {A B : World} (h : Below n₀ A B) {sv : Value} {zs : List Int} : IntsBelow n₀ A sv zs → IntsBelow n₀ B sv zs
  | .inl e => .inl e
  | .inr ⟨b, off, cap, e, hb, hc⟩ => .inr ⟨b, off, cap, e, hb, fun j hj => (h.cell (p := ⟨b, off + j, none⟩) hb).trans (hc j hj)⟩
theorem IntsBelow.mono {n₀ n₁ : Nat} {A : World} {sv : Value} {zs : List Int} (h : IntsBelow n₀ A sv zs) (hn : n₀ ≤ n₁) : IntsBelow n₁ A sv zs :=
  h.imp id fun ⟨b, off, cap, e, hb, hc⟩ => ⟨b, off, cap, e, by omega, hc⟩
theorem IntsBelow.of {F : Foot} {w : World} {oa : Option Addr} {c : Nat} {zs : List Int} (h : SliceR intR 1 F w oa zs) : IntsBelow w.heap.size w (.slice oa zs.length c) zs := by
  rcases Nat.eq_zero_or_pos zs.length with h0 | h0
  · have : zs = [] := List.eq_nil_of_length_eq_zero h0
    subst this
    exact .inl ⟨oa, c, rfl, rfl⟩
  · obtain ⟨x, _, _, _, b, off, rfl, _, hc0⟩ := h.int_at h0
    refine .inr ⟨b, off, c, rfl, World.block_lt_of_cell? _ _ hc0, fun j hj => ?_⟩
    obtain ⟨y, _, hy, _, b', off', he, _, hc⟩ := h.int_at hj
    injection he with he
    injection he with e1 e2
    subst e1 e2
    rw [hc, hy]
    rfl

def ApPost (w : World) (zs : List Int) (e : Ending) (W' : World) : Prop := ∃ v, e = .returned v ∧ W'.ownsRow w.heap.size 3 1 v zs.length (zs.map (Value.int .i64)) ∧ Below w.heap.size w W'

end Go.Proofs.YtpgopmmobbemcaaGreat

set_option linter.unusedVariables false
set_option linter.unusedSimpArgs false
namespace Go.Proofs.YtpgopmmobbemcaaGreat
open Go.RowKit

theorem OwnQ.of_row {base : Nat} {e : TypeId} {w : World} {v : Value} {zs : List Int} (h : w.ownsRow base e 1 v zs.length (zs.map (Value.int .i64))) (hz : ∀ x ∈ zs, I64 x) : (v = .slice none 0 0 ∧ zs = []) ∨ OwnQ base e w v zs := by
  rcases h.2 with ⟨rfl, hn⟩ | ⟨g, cap, cur, rfl, hg, hh, hle, hcm, hcs, htake⟩
  · exact .inl ⟨rfl, List.eq_nil_of_length_eq_zero hn⟩
  · exact .inr ⟨g, 0, cap, cur, rfl, hg, hh, hle, hcm, by omega, by simpa using htake, hz⟩

def SortedPost (w : World) (zs : List Int) (e : Ending) (w' : World) : Prop :=
  ∃ oa c, e = .returned (.slice oa zs.length c) ∧ zs.length ≤ c ∧ SliceR intR 1 All w' oa (zs.mergeSort fun x y => decide (x ≤ y)) ∧ Below w.heap.size w w'

def RevPost (base : Nat) (up : List Int) (v : Value) (w : World) (e' : Ending) (w' : World) : Prop :=
  e' = .returned (.tuple #[]) ∧ ∃ oa c ys, v = .slice oa ys.length c ∧ ys.length ≤ c ∧ ys.Perm up ∧ SliceR intR 1 All w' oa ys ∧ Below base w w'

end Go.Proofs.YtpgopmmobbemcaaGreat

set_option linter.unusedVariables false
set_option linter.unusedSimpArgs false
namespace Go.Proofs.YtpgopmmobbemcaaGreat
open Go.RowKit Go.Shelf

attribute [local go_sem] Oper.semAt_some

set_option maxRecDepth 100000 in
set_option maxHeartbeats 2000000 in
theorem values1S_in (F : Fence) (n : Nat) (h7 : F.fn 86) (hro : F.round = none) (hn : 1 ≤ n) (l Bs n₀ b off len cap : Nat) (zs : List Int) (hreach : len * 8 ≤ 140737488351232) (hb : b < n₀) (J Jx : List Int → World → Prop)
    (hY : ∀ pre x W, J pre W → pre.length < len → YieldAt F (n - 1) Tryz.prog l #[.int .i64 x] W fun e W' =>
      (e = .returned (.bool true) ∧ J (pre ++ [x]) W' ∧ Below n₀ W W') ∨ (e = .returned (.bool false) ∧ Jx (pre ++ [x]) W'))
    (W : World) (hBs : W.cell? ⟨Bs, 0, none⟩ = some (.slice (some ⟨b, off, none⟩) len cap)) (hc : ∀ j, j < len → W.cell? ⟨b, off + j, none⟩ = some (.int .i64 (zs[j]?.getD 0))) (h0 : J [] W) :
    CallsIn F n Tryz.prog 86 #[.func (.yield l) #[] #[], .pointer (some ⟨Bs, 0, none⟩)] W fun e W' => (∃ v, e = .returned v) ∧
      ((∃ ys, ys = upto (fun j => zs[j]?.getD 0) len ∧ J ys W') ∨ (∃ pre, (∃ k, k ≤ len ∧ pre = upto (fun j => zs[j]?.getD 0) k) ∧ Jx pre W')) := by
  refine callsIn_of_wp Tryz.func86 rfl h7 ?_ hro
  simp only [Tryz.ntmps86, List.size_toArray, List.length_cons, List.length_nil, Nat.reduceAdd, Nat.reduceSub, Array.replicate_succ, Array.replicate_zero, List.push_toArray, List.append_toArray, List.nil_append, List.cons_append]
  gi_wp2
  gi_loopw [7] (fun i wr => ∃ k : Nat, k ≤ len ∧ i = .int .i64 k ∧ J (upto (fun j => zs[j]?.getD 0) k) wr ∧ Below n₀ W wr)
    (fun i _ => len - (intOf i).toNat)
  case atStart => exact ⟨0, Nat.zero_le _, rfl, h0, Below.refl _ _⟩
  case round =>
    obtain ⟨k, hk, rfl, hJs, hnx⟩ := hrel
    have hcx : k < len → wr.cell? ⟨b, off + k, none⟩ = some (.int .i64 (zs[k]?.getD 0)) := fun h => (hnx.cell (p := ⟨b, off + k, none⟩) hb).trans (hc k h)
    by_cases hlt : k < len
    · obtain ⟨fn, tmps, assign, body, hy, hR⟩ := hY _ (zs[k]?.getD 0) wr hJs (by rw [upto_length]; exact hlt)
      have hcx' := hcx hlt
      gi_wp2
      refine hR.mono ?_
      rintro e W3 (⟨rfl, hJ3, hk3⟩ | ⟨rfl, hJx3⟩)
      · gi_wp2
        go_roundw
        case rel => exact ⟨k + 1, by omega, by simp, by rw [upto_succ]; exact hJ3, hnx.trans hk3⟩
        case measure => simp [intOf]; omega
      · gi_wp2
        refine bodyPost_ret (results_none rfl _ _ _) rfl ?_
        exact ⟨⟨_, rfl⟩, .inr ⟨_, ⟨k + 1, by omega, (upto_succ _ _).symm⟩, hJx3⟩⟩
    · obtain rfl : k = len := by omega
      gi_wp2
      go_end0
      exact ⟨⟨_, rfl⟩, .inl ⟨_, rfl, hJs⟩⟩


set_option maxRecDepth 100000 in
set_option maxHeartbeats 2000000 in
theorem values1S_nil_in (F : Fence) (n : Nat) (h7 : F.fn 86) (hro : F.round = none) (l Bs : Nat) (a : Option Addr) (c : Nat) (J : List Int → World → Prop) (W : World) (hBs : W.cell? ⟨Bs, 0, none⟩ = some (.slice a 0 c)) (h0 : J [] W) :
    CallsIn F n Tryz.prog 86 #[.func (.yield l) #[] #[], .pointer (some ⟨Bs, 0, none⟩)] W fun e W' => (∃ v, e = .returned v) ∧ J [] W' := by
  refine callsIn_of_wp Tryz.func86 rfl h7 ?_ hro
  simp only [Tryz.ntmps86, List.size_toArray, List.length_cons, List.length_nil, Nat.reduceAdd, Nat.reduceSub, Array.replicate_succ, Array.replicate_zero, List.push_toArray, List.append_toArray, List.nil_append, List.cons_append]
  gi_wp2
  gi_loopw [7] (fun i wr => i = .int .i64 0 ∧ J [] wr) (fun _ _ => 0)
  case atStart => exact ⟨rfl, h0⟩
  case round =>
    obtain ⟨rfl, hJs⟩ := hrel
    gi_wp2
    go_end0
    exact ⟨⟨_, rfl⟩, hJs⟩


theorem valuesS_stops (F : Fence) (n : Nat) (h7 : F.fn 86) (hro : F.round = none) (hn : 1 ≤ n) (Bs n₀ : Nat) (sv : Value) (zs : List Int) (hreach : zs.length * 8 ≤ 140737488351232) (w : World) (hBs : Bs < w.heap.size) (hn₀ : n₀ ≤ w.heap.size)
    (hc : w.cell? ⟨Bs, 0, none⟩ = some sv) (hI : IntsBelow n₀ w sv zs) :
    SeqStopsK F n Tryz.prog 86 #[.pointer (some ⟨Bs, 0, none⟩)] (fun x : Int => #[Value.int .i64 x]) (Below n₀) (fun ys => ys = zs) (fun pre => pre <+: zs) zs.length w := fun l J Jx W hW _ _ hY h0 => by
  have hc' := (hW.cell (p := ⟨Bs, 0, none⟩) hBs).trans hc
  rcases hI.below (hW.mono hn₀) with ⟨a, c, rfl, rfl⟩ | ⟨b, off, cap, rfl, hb, hcs⟩
  · exact (values1S_nil_in F n h7 hro l Bs a c J W hc' h0).mono fun e W' ⟨he, hj⟩ => ⟨he, .inl ⟨_, rfl, hj⟩⟩
  · refine (values1S_in F n h7 hro hn l Bs n₀ b off zs.length cap zs hreach hb J Jx hY W hc' hcs h0).mono ?_
    rintro e W' ⟨he, ⟨ys, rfl, hj⟩ | ⟨pre, ⟨k, hk, rfl⟩, hj⟩⟩
    · exact ⟨he, .inl ⟨_, upto_all zs, hj⟩⟩
    · exact ⟨he, .inr ⟨_, by rw [upto_take zs hk]; exact List.take_prefix _ _, hj⟩⟩


set_option maxRecDepth 100000 in
set_option maxHeartbeats 2000000 in
theorem appendSeqS_in (F : Fence) (n : Nat) (h3 : F.fn 116) (h7 : F.fn 86) (hro : F.round = none) (hn : 3 ≤ n) (Bs : Nat) (sv : Value) (zs : List Int) (hlen : zs.length ≤ 1000000) (w : World) (hBs : Bs < w.heap.size)
    (hc : w.cell? ⟨Bs, 0, none⟩ = some sv) (hI : IntsBelow w.heap.size w sv zs) :
    CallsIn F n Tryz.prog 116 #[.slice none 0 0, .func (.func 86) #[] #[.pointer (some ⟨Bs, 0, none⟩)]] w (ApPost w zs) := by
  have h1 : 1 ≤ n := by omega
  obtain ⟨i0, hi, hz0, hz1, hz2⟩ := info_parts intInfo
  refine callsIn_of_wp_marks Tryz.func116 rfl h3 ?_ hro
  simp only [Tryz.ntmps116, List.size_toArray, List.length_cons, List.length_nil, Nat.reduceAdd, Nat.reduceSub, Array.replicate_succ, Array.replicate_zero, List.push_toArray, List.append_toArray, List.nil_append, List.cons_append]
  gi_wp2
  have bO := Boxed.new w 25 (.slice none 0 0)
  have hB0 : Below w.heap.size w (w.alloc (.cells #[.slice none 0 0] 25)) := (Below.refl _ w).alloc (Nat.le_refl _) _
  refine wpIn_rangeFunc_ownG hro h1 (gf := 86) (lb := #[.pointer (some ⟨Bs, 0, none⟩)]) rfl h7 (enters_of Tryz.func86 (by kernel_rfl) rfl)
    (valuesS_stops F (n - 1) h7 hro (by omega) Bs w.heap.size sv zs (by omega) (w.alloc (.cells #[.slice none 0 0] 25)) (by simp; omega) (by simp) ((hB0.cell (p := ⟨Bs, 0, none⟩) hBs).trans hc) (hI.below hB0)) belowK_t (belowK_b (by simp)) (Below.refl _ _) (fun _ => rfl)
    (fun pre W => (∃ v, Boxed W w.heap.size 25 v ∧ W.ownsRow w.heap.size 3 1 v pre.length (pre.map (Value.int .i64)) ∧ True) ∧ Below w.heap.size w W)
    (fun _ _ _ => False)
    (OwnFrom.and (Own.from (holdsRow_own w.heap.size w.heap.size 25 3 1 (fun pre : List Int => pre.length) (fun pre => pre.map (Value.int .i64)) (fun pre v => True)) _) (ownFrom_below (Nat.le_refl _) (by simp)))
    (fun _ _ _ _ _ hs _ _ => hs)
    ⟨⟨_, bO, World.ownsRow_nil _ _ _ _, trivial⟩, hB0⟩
    (fun x => { tmps := #[.slice none 0 0, .func (.func 86) #[] #[.pointer (some ⟨Bs, 0, none⟩)], .pointer (some ⟨w.heap.size, 0, none⟩), undef, .slice none 0 0, .int .i64 x, .func (.func 86) #[] #[.pointer (some ⟨Bs, 0, none⟩)], .int .i64 x, undef, undef, undef, undef, undef], defers := [] }) ?assign ?body ?done ?stop
  case assign =>
    intro l x W K hK
    gi_wp2
    exact hK
  case body =>
    rintro l pre x W ⟨⟨v, hv, hrow, _⟩, hB⟩ hlt
    have hc := hv.cell
    gi_wp2_with (gi_at_builtin; refine wpListIn_append_own _ rfl _ _ 25 rfl w.heap.size 3 i0 (.int .i64 0) 1 8 Tryz.underlying25 hi hz0 hz1 hz2 rfl (by decide) _ _ _ rfl (hrow.alloc _) ⟨W.heap.size, 0, none⟩ 1 1 [.int .i64 x] rfl rfl (cell_one_new _ _ _) (by simp [Value.oneCell']) (by unfold maxLen; omega) (by omega) (by have := hB.size; simp; omega) ?_; intro v' w1 hown' hgrow _; obtain ⟨g', cap', rfl⟩ := ownsRow_succ hown'; obtain ⟨hv1, hv2, hr2, hk2, hb2⟩ := hv.appended (by decide) hrow hB.size (Nat.le_refl _) hown' hgrow; have hc1 := hv1.cell; have hf1 := hv1.frozen)
    exact ⟨hk2.from _, hb2, ⟨_, hv2, by simpa using hr2, trivial⟩, hB.trans hb2⟩
  case done =>
    rintro D ys W hD rfl ⟨⟨v, hv, hrow, _⟩, hB⟩ hK
    have hc := hv.cell
    gi_wp2
    refine ⟨by simp, .inl ⟨_, _, rfl, run_takeDeferred hK, ?_⟩⟩
    exact ⟨_, results_tmp rfl _ _ _, v, rfl, ownsRow_putObj hrow _ hK rfl, hB.trans (belowK_b (w := w) (Nat.le_refl _) W D _ _ (by simp at hD; omega) hK rfl rfl)⟩
  case stop =>
    rintro D c pre W _ _ h _
    exact h.elim


theorem valuesS_any (oa : Option Addr) (n c : Nat) (w : World) :
    Calls Tryz.prog 45 #[.slice oa n c] w fun e w' => e = .returned (.func (.func 86) #[] #[.pointer (some ⟨w.heap.size, 0, none⟩)]) ∧ w' = w.alloc (.cells #[.slice oa n c] 26) := by
  go_enter Tryz.func45, Tryz.ntmps45
  go_wp2_with fail
  go_ret
  exact ⟨rfl, rfl⟩


theorem appendSeqS_any (Bs : Nat) (sv : Value) (zs : List Int) (hlen : zs.length ≤ 1000000) (w : World) (hBs : Bs < w.heap.size) (hc : w.cell? ⟨Bs, 0, none⟩ = some sv) (hI : IntsBelow w.heap.size w sv zs) :
    Calls Tryz.prog 116 #[.slice none 0 0, .func (.func 86) #[] #[.pointer (some ⟨Bs, 0, none⟩)]] w (ApPost w zs) :=
  (callsIn_wide (n := 3)).1 (appendSeqS_in Go.Fence.wide 3 trivial trivial rfl (by omega) Bs sv zs hlen w hBs hc hI)

theorem collectS_any (Bs : Nat) (sv : Value) (zs : List Int) (hlen : zs.length ≤ 1000000) (w : World) (hBs : Bs < w.heap.size) (hc : w.cell? ⟨Bs, 0, none⟩ = some sv) (hI : IntsBelow w.heap.size w sv zs) :
    Calls Tryz.prog 84 #[.func (.func 86) #[] #[.pointer (some ⟨Bs, 0, none⟩)]] w (ApPost w zs) := by
  go_enter Tryz.func84, Tryz.ntmps84
  go_wp2_with fail
  refine (appendSeqS_any Bs sv zs hlen _ hBs hc hI).mono ?_
  rintro e w' ⟨v, rfl, ho, hb⟩
  go_wp2_with fail
  go_ret
  exact ⟨v, rfl, ho, hb⟩


theorem sortedVS_any (Bs : Nat) (sv : Value) (zs : List Int) (hz : ∀ x ∈ zs, I64 x) (hlen : zs.length ≤ 1000000) (w : World) (hBs : Bs < w.heap.size) (hc : w.cell? ⟨Bs, 0, none⟩ = some sv) (hI : IntsBelow w.heap.size w sv zs) :
    Calls Tryz.prog 44 #[.func (.func 86) #[] #[.pointer (some ⟨Bs, 0, none⟩)]] w (SortedPost w zs) := by
  go_enter Tryz.func44, Tryz.ntmps44
  go_wp2_with fail
  refine (collectS_any Bs sv zs hlen _ hBs hc hI).mono ?_
  rintro e w2 ⟨v, rfl, ho, hb⟩
  rcases OwnQ.of_row ho hz with ⟨rfl, rfl⟩ | hq
  · go_wp2_with fail
    refine (Tryz.slices_Sort_int_none none 0 w2).mono ?_
    rintro e w3 ⟨rfl, rfl⟩
    go_wp2_with fail
    go_ret
    exact ⟨none, 0, rfl, by simp, by simpa using SliceR.nil _ _ _ _ _, hb⟩
  · go_wp2_with fail
    refine (sortI_any _ _ _ _ _ hq (by omega)).mono ?_
    rintro e w3 ⟨rfl, hq2, hg⟩
    obtain ⟨oa, c, rfl, hc2, hs⟩ := hq2.slice
    go_wp2_with fail
    go_ret
    rw [List.length_mergeSort] at hc2
    exact ⟨oa, c, by simp, hc2, hs.all intR_ok (by omega), hb.grown hg hb.size fun k hk => (hq.block k hk).1⟩


end Go.Proofs.YtpgopmmobbemcaaGreat

set_option linter.unusedVariables false
set_option linter.unusedSimpArgs false
set_option linter.unnecessarySimpa false
namespace Go.Proofs.YtpgopmmobbemcaaGreat
open Go.RowKit

def cheapR (n : Int) (es : List Edg) (f : List Nat) (s : List Int) : List Int × Int × Int :=
  if tErr n es f s = 0 then (if dErr n (cheapS s) = 0 then (cheapS s, costS (cheapS s), 0) else ([], 0, 11)) else ([], 0, tErr n es f s)
def ScrPost (w : World) (r : List Int × Int × Int) (e : Ending) (w' : World) : Prop :=
  ∃ v, e = .returned (.tuple #[v, .int .i64 r.2.1, .int .i64 r.2.2]) ∧ OwnS intR 1 w.heap.size 3 Non w' v r.1 ∧ Below w.heap.size w w'
theorem raised_lst {N : Nat} {s : List Int} (hN : s.length = N) (m : Int) : lst N (fun v => s.getD v 0 - m) = raisedS s (-m) := by
  apply List.ext_getElem?
  intro i
  unfold raisedS
  rw [List.getElem?_map]
  by_cases hi : i < N
  · rw [lst_get _ hi, List.getD_eq_getElem?_getD, List.getElem?_eq_getElem (by omega)]
    rfl
  · rw [List.getElem?_eq_none (by rw [lst_len]; omega), List.getElem?_eq_none (by omega)]
    rfl
set_option maxRecDepth 100000 in
set_option maxHeartbeats 4000000 in
theorem cheapest_any (n : Int) (es : List Edg) (oe : Option Addr) (c : Nat) (F : Foot) (w : World) (hs : SliceR edgR 3 F w oe es) (hc : es.length ≤ c) (hc2 : es.length ≤ 1000)
    (f : List Nat) (hU : Hid (gErr n es = 0 → Uf f (eL es))) (d : List Int) (od : Option Addr) (cd : Nat) (G : Foot) (hd : SliceR intR 1 G w od d) (hdc : d.length ≤ cd) (hdl : d.length ≤ 9223372036854775807) :
    Calls Tryz.prog 13 #[.agg #[.int .i64 n, .slice oe es.length c], .slice od d.length cd] w (ScrPost w (cheapR n es f d)) := by
  have hb0 := bnew (Below.refl w.heap.size w) (.cells #[.int .i64 n, .slice oe es.length c] 24)
  have bxx := Box.new w [.int .i64 n, .slice oe es.length c] 24
  have HK := hide (dscripted_any n es oe c F _ (hs.below edgR_ok hb0) hc (by omega) f hU d od cd G (hd.below intR_ok hb0) hdc hdl)
  have HD := hide hd
  have HS := hide hs
  have HB := hide hb0
  have HX := hide bxx
  clear hs hd hb0 bxx
  go_enter Tryz.func13, Tryz.ntmps13
  go_wp2_with fail
  refine HK.out.mono ?_
  rintro e w2 ⟨rfl, hb2⟩
  have HB2 := hide (below_then HB.out hb2)
  have HX2 := hide (HX.out.below hb2)
  clear hb2
  by_cases hV : tErr n es f d = 0
  · obtain ⟨N, rfl, hT⟩ := tErr_ok hV
    have hR : Hid (cheapR N es f d = if dErr N (cheapS d) = 0 then (cheapS d, costS (cheapS d), 0) else ([], 0, 11)) := if_pos hV
    have HT := hide hT
    have h12 := hT.n12
    have hdN := hT.len
    have HVL := hide (valuesS_any od d.length cd w2)
    have HSO : Hid (∀ w3, w3 = w2.alloc (.cells #[.slice od d.length cd] 26) → Calls Tryz.prog 44 #[.func (.func 86) #[] #[.pointer (some ⟨w2.heap.size, 0, none⟩)]] w3 (SortedPost w3 d)) := fun w3 e => by
      subst e
      have hdw := HD.out.below intR_ok HB2.out
      refine sortedVS_any w2.heap.size (.slice od d.length cd) d (fun x hx => by have := HT.out.dB x hx; unfold I64; omega) (by omega) _ (by simp) ?_ ((IntsBelow.of hdw).below (bnew (Below.refl _ _) _) |>.mono (by simp))
      simpa using (Box.new w2 [.slice od d.length cd] 26).cell 0
    have HV := hide hV
    rw [hV]
    rw [hdN] at HVL HSO hdc ⊢
    clear hV hT hdl
    go_wp2_with fail
    refine HVL.out.mono ?_
    rintro e w3 ⟨rfl, hw3⟩
    have HB3 : Hid (Below w.heap.size w w3) := by rw [hw3]; exact HB2.out.alloc HB2.out.size _
    have HSO3 := hide (HSO.out w3 hw3)
    have HX3 : Hid (Box w3 w.heap.size [.int .i64 N, .slice oe es.length c] 24) := by rw [hw3]; exact HX2.out.next _
    clear hw3
    go_wp2_with fail
    refine HSO3.out.mono ?_
    rintro e w4 ⟨oa, c4, rfl, hc4, hs4, hb4⟩
    rw [hdN] at hc4 ⊢
    have HB4 := hide (below_then HB3.out hb4)
    have HX4 := hide (HX3.out.below hb4)
    have hml : (d.mergeSort fun x y => decide (x ≤ y)).length = N := by rw [List.length_mergeSort]; exact hdN
    obtain ⟨m, _, hm, _, bm, om, hoa, _, cm⟩ := hs4.int_at (i := N / 2) (by rw [hml]; omega)
    have hperm := List.mergeSort_perm d fun x y => decide (x ≤ y)
    have hmid : MidN d m := mid_sorted hperm ((List.pairwise_mergeSort (le := fun x y : Int => decide (x ≤ y)) (by intro a b c; simp; omega) (by intro a b; simp; omega) d).imp (by simp)) (by rw [hdN]; exact hm)
    have HCH : Hid (cheapS d = raisedS d (-m)) := cheap_mid hmid
    have hmb := HT.out.dB m (hperm.mem_iff.1 (List.mem_of_getElem? hm))
    subst hoa
    have hdw := HD.out.below intR_ok HB4.out
    have HDW := hide hdw
    have HDN := hide hdN
    clear hb4 hs4 hml hm hperm hmid hdw hdN
    obtain ⟨h2, hh2⟩ : ∃ h2 : Nat, h2 = N / 2 := ⟨_, rfl⟩
    have hh3 : 2 * h2 ≤ N ∧ N < 2 * h2 + 2 := by omega
    rw [← hh2] at cm
    clear hh2
    have hdiv : (N : Int).tdiv 2 = (h2 : Int) := by
      rw [Int.tdiv_eq_ediv_of_nonneg (by omega)]
      omega
    have hlt2 : (h2 : Int) < (N : Int) := by omega
    have hge2 : (0 : Int) ≤ (h2 : Int) := by omega
    have hwr : wrap64 (h2 : Int) = (h2 : Int) := by unfold wrap64; omega
    go_wp2_with (at_make; refine wpList_make_row (f := Value.int .i64) _ rfl _ _ 26 rfl 3 (0 : Int) 8 Tryz.underlying26 intInfo rfl .i64 .i64 _ _ N rfl rfl rfl rfl (by omega) (by unfold maxLen; omega) (fun w5 hrow5 hb5 hg5 => ?_))
    clear hdiv hwr cm
    have HR5 := hide hrow5
    have HB5 := hide (below_then HB4.out hb5)
    have HX5 := hide (HX4.out.below hb5)
    have HDW5 := hide (HDW.out.below intR_ok hb5)
    have hw4 := HB4.out.size
    have Hb5 := hide hb5
    have HML := hide hmb
    obtain ⟨g, hg⟩ : ∃ g, g = w4.heap.size := ⟨_, rfl⟩
    have HG := hide hg
    rw [← hg] at HR5 hw4 ⊢
    clear hrow5 hb5 hg5 hg hlt2 hge2
    go_loopg [11, 12, 33] N (fun gm _ _ iv wx => ∃ i : Nat, i ≤ N ∧ gm = N - i ∧ iv = .int .i64 i ∧ Hid (Row1 (Value.int .i64) wx g 3 (lst N fun v => if v < i then d.getD v 0 - m else 0) []) ∧ Hid (Below g w5 wx))
    case atStart =>
      refine ⟨0, by omega, by omega, rfl, ?_, Below.refl _ _⟩
      show Row1 _ _ _ _ _ _
      rw [show (lst N fun v => if v < 0 then d.getD v 0 - m else 0) = List.replicate N 0 from ?_]
      · exact HR5.out
      · apply List.ext_getElem?
        intro i
        by_cases hi : i < N
        · rw [lst_get _ hi, List.getElem?_replicate, if_pos hi, if_neg (Nat.not_lt_zero i)]
        · rw [List.getElem?_eq_none (by rw [lst_len]; omega), List.getElem?_eq_none (by simp; omega)]
    case round =>
      obtain ⟨i, hi, hgm, rfl, HRi, HBi⟩ := hrel
      have HGM := hide hgm
      clear hgm
      by_cases hlt : i < N
      · have HBW : Hid (Below w4.heap.size w4 wr) := by
          have h5 := HBi.out
          rw [HG.out] at h5
          exact Hb5.out.trans h5
        have l0 : wr.cell? ⟨g, i, none⟩ = some (.int .i64 0) := by
          have h5 := HRi.out.cell (lst_get (fun v => if v < i then d.getD v 0 - m else 0) hlt)
          simp only [Nat.lt_irrefl, if_false] at h5
          exact h5
        have fz := HRi.out.free i
        obtain ⟨x, _, hx, _, bd, od2, hod, _, cx⟩ := (HDW.out.below intR_ok HBW.out).int_at (i := i) (by rw [HDN.out]; exact hlt)
        have hxb := HT.out.dB x (List.mem_of_getElem? hx)
        have hml := HML.out
        have HP : Hid (Row1 (Value.int .i64) (wr.setCell ⟨g, i, none⟩ (.int .i64 (x - m))) g 3 (lst N fun v => if v < i + 1 then d.getD v 0 - m else 0) []) := by
          have h5 := HRi.out.put (i := i) (by rw [lst_len]; exact hlt) (x - m)
          rw [lst_set] at h5
          rw [lst_congr (g := updF (fun v => if v < i then d.getD v 0 - m else 0) i (x - m)) fun v hv => ?_]
          · exact h5
          · unfold updF
            by_cases e : v = i
            · subst e
              rw [if_pos (by omega), if_pos rfl, List.getD_eq_getElem?_getD, hx]
              rfl
            · rw [if_neg e]
              show _ = if v < i then d.getD v 0 - m else 0
              by_cases h : v < i
              · rw [if_pos h, if_pos (by omega)]
              · rw [if_neg h, if_neg (by omega)]
        have HQ : Hid (Below g w5 (wr.setCell ⟨g, i, none⟩ (.int .i64 (x - m)))) := HBi.out.setCell (Nat.le_refl _) _
        have hi0 : (0 : Int) ≤ i := by omega
        have hi1 : (i : Int) < N := by omega
        subst hod
        clear hx
        go_wp2_with fail
        go_roundg (N - (i + 1))
        case rel => exact ⟨i + 1, by omega, rfl, by go_num, HP, HQ⟩
        case measure => rw [HGM.out]; omega
      · have hie : i = N := by omega
        have HBW : Hid (Below w4.heap.size w4 wr) := by
          have h5 := HBi.out
          rw [HG.out] at h5
          exact Hb5.out.trans h5
        have HBWw : Hid (Below w.heap.size w wr) := below_then HB4.out HBW.out
        have hRN : Row1 (Value.int .i64) wr g 3 (cheapS d) [] := by
          rw [HCH.out, ← raised_lst HDN.out]
          have h5 := HRi.out
          rw [hie, lst_congr (g := fun v => d.getD v 0 - m) fun v hv => if_pos hv] at h5
          exact h5
        have hcl : (cheapS d).length = N := by rw [HCH.out]; unfold raisedS; rw [List.length_map]; exact HDN.out
        have hcb : ∀ x ∈ cheapS d, -2097152 ≤ x ∧ x ≤ 2097152 := fun x hx => by
          rw [HCH.out] at hx
          unfold raisedS at hx
          obtain ⟨y, hy, rfl⟩ := List.mem_map.1 hx
          have h5 := HT.out.dB y hy
          have h6 := HML.out
          omega
        have hsl : ∀ W, Below wr.heap.size wr W → SliceR intR 1 All W (some ⟨g, 0, none⟩) (cheapS d) := fun W hW => (hRN.below hW).ints (fun y hy => by have := hcb y hy; unfold I64; omega) trivial
        have hck := fcheckG_any N es oe c F wr (HS.out.below edgR_ok HBWw.out) hc (by omega) (cheapS d) (some ⟨g, 0, none⟩) N All (hsl wr (Below.refl _ _)) (by omega) (by omega)
        have hco : ∀ W, Below wr.heap.size wr W → Calls Tryz.prog 47 #[.slice (some ⟨g, 0, none⟩) N N] W fun e w' => e = .returned (.int .i64 (costS (cheapS d))) ∧ W = w' := fun W hW => by
          have h5 := cost_any (cheapS d) (some ⟨g, 0, none⟩) N All W (hsl W hW) (by omega) (by omega) (fun x hx => by have := hcb x hx; omega)
          rw [hcl] at h5
          exact h5
        rw [hcl] at hck
        have hfe : fErr N es (cheapS d) = dErr N (cheapS d) := if_pos HT.out.g
        rw [hfe] at hck
        have HCK := hide hck
        have HCO := hide hco
        have HRN := hide hRN
        have HCL := hide hcl
        have HCB := hide hcb
        have bx := (HX5.out.under HBi.out (by have := HX4.out.lt; have := HG.out; omega))
        have y0 := bx.cell 0
        have y1 := bx.cell 1
        simp only [List.getElem?_cons_zero, List.getElem?_cons_succ] at y0 y1
        clear hie hRN hcl hcb hsl hck hco hfe bx
        go_wp2_with fail
        refine HCK.out.mono ?_
        rintro e w6 ⟨rfl, hb6⟩
        have HB6 := hide (below_then HBWw.out hb6)
        have HRN6 := hide (HRN.out.below hb6)
        have HCO6 := hide (HCO.out w6 hb6)
        clear hb6
        by_cases hz : dErr N (cheapS d) = 0
        · have hR2 : Hid (cheapR N es f d = (cheapS d, costS (cheapS d), 0)) := by show _ = _; rw [hR.out, if_pos hz]
          rw [hz]
          clear hz
          go_wp2_with fail
          refine HCO6.out.mono ?_
          rintro e w7 ⟨rfl, rfl⟩
          go_wp2_with fail
          go_ret3
          refine ⟨_, by rw [hR2.out]; rfl, ?_, HB6.out⟩
          rw [hR2.out, ← HCL.out]
          exact HRN6.out.ownInts (fun x hx => by have := HCB.out x hx; unfold I64; omega) (by have := HB4.out.size; have := HG.out; omega) (by simp) (by unfold maxLen; have := HCL.out; omega)
        · have hR2 : Hid (cheapR N es f d = ([], 0, 11)) := by show _ = _; rw [hR.out, if_neg hz]
          have hq : (dErr N (cheapS d) != 0) = true := by simpa using hz
          clear hz
          go_wp2_with fail
          go_ret3
          exact ⟨_, by rw [hR2.out]; rfl, by rw [hR2.out]; exact OwnS.nil _ _ _ _ _ _, HB6.out⟩
  · have hR : Hid (cheapR n es f d = ([], 0, tErr n es f d)) := if_neg hV
    have hq : (tErr n es f d != 0) = true := by simpa using hV
    go_wp2_with fail
    go_ret3
    exact ⟨_, by rw [hR.out]; rfl, by rw [hR.out]; exact OwnS.nil _ _ _ _ _ _, HB2.out⟩
end Go.Proofs.YtpgopmmobbemcaaGreat

set_option linter.unusedVariables false
set_option linter.unusedSimpArgs false
set_option linter.unnecessarySimpa false
namespace Go.Proofs.YtpgopmmobbemcaaGreat
open Go.RowKit


/-- The order of two lists of the same length. -/
def ordE : List Int → List Int → Int
  | [], _ => 0
  | _, [] => 0
  | x :: l, y :: m => if x < y then -1 else if y < x then 1 else ordE l m
theorem ordE_zero : ∀ {l m : List Int}, l.length = m.length → (ordE l m = 0 ↔ l = m)
  | [], [], _ => by simp [ordE]
  | x :: l, y :: m, h => by
    have ih := ordE_zero (l := l) (m := m) (by simpa using h)
    unfold ordE
    by_cases h1 : x < y
    · rw [if_pos h1]; simp; omega
    · by_cases h2 : y < x
      · rw [if_neg h1, if_pos h2]; simp; omega
      · rw [if_neg h1, if_neg h2, ih]
        have : x = y := by omega
        simp [this]
  | [], _ :: _, h => by simp at h
  | _ :: _, [], h => by simp at h

set_option maxHeartbeats 400000 in
theorem order_any (l m : List Int) (oa ob : Option Addr) (c d : Nat) (F : Foot) (w : World) (hs : SliceR intR 1 F w oa l) (ht : SliceR intR 1 F w ob m) (hc : l.length ≤ c) (hc2 : l.length ≤ 9223372036854775807) (hlen : Hid (l.length = m.length)) :
    Calls Tryz.prog 78 #[.slice oa l.length c, .slice ob m.length d] w fun e w' => e = .returned (.int .i64 (ordE l m)) ∧ Below w.heap.size w w' := by
  go_enter Tryz.func78, Tryz.ntmps78
  go_wp2_with fail
  go_loopw [5] (fun i wr => ∃ k : Nat, k ≤ l.length ∧ i = .int .i64 k ∧ Hid (ordE l m = ordE (l.drop k) (m.drop k)) ∧ Below w.heap.size w wr) (fun i _ => l.length - (intOf i).toNat)
  case atStart => exact ⟨0, by omega, rfl, rfl, Below.refl _ _⟩
  case round =>
    obtain ⟨k, hk, rfl, HE, hb⟩ := hrel
    by_cases hlt : k < l.length
    · obtain ⟨x, hd, _, _, b, off, rfl, _, c0⟩ := (hs.below intR_ok hb).int_at hlt
      have hlt2 : k < m.length := by rw [← hlen.out]; exact hlt
      obtain ⟨x', hd', _, _, b', off', rfl, _, c0'⟩ := (ht.below intR_ok hb).int_at hlt2
      have HE2 : Hid (ordE l m = if x < x' then -1 else if x' < x then 1 else ordE (l.drop (k + 1)) (m.drop (k + 1))) := by show _ = _; rw [HE.out, hd, hd']; rfl
      clear hd hd' hs ht
      by_cases hx : x < x'
      · have q1 : decide (x < x') = true := by simp [hx]
        have HR : Hid (ordE l m = -1) := by show _ = _; rw [HE2.out, if_pos hx]
        clear hx
        go_wp2_with fail
        go_quiet (fail)
        go_wp2_with fail
        go_ret
        exact ⟨ret_int HR.out.symm, below_drewN hb _⟩
      · have q1 : decide (x < x') = false := by simp; omega
        by_cases hx2 : x' < x
        · have q2 : decide (x' < x) = true := by simp [hx2]
          have HR : Hid (ordE l m = 1) := by show _ = _; rw [HE2.out, if_neg hx, if_pos hx2]
          clear hx hx2
          go_wp2_with fail
          go_quiet (fail)
          go_wp2_with fail
          go_quiet (fail)
          go_wp2_with fail
          go_ret
          exact ⟨ret_int HR.out.symm, below_drewN (below_drewN hb _) _⟩
        · have q2 : decide (x' < x) = false := by simp; omega
          have HR : Hid (ordE l m = ordE (l.drop (k + 1)) (m.drop (k + 1))) := by show _ = _; rw [HE2.out, if_neg hx, if_neg hx2]
          clear hx hx2
          go_wp2_with fail
          go_quiet (fail)
          go_wp2_with fail
          go_quiet (fail)
          go_wp2_with fail
          go_roundw
          case rel => exact ⟨k + 1, by omega, by go_num, HR, by first | exact below_drewN hb _ | exact below_drewN (below_drewN hb _) _⟩
          case measure => simp [intOf]; omega
    · have hke : k = l.length := by omega
      have HR : Hid (ordE l m = 0) := by show _ = _; rw [HE.out, hke, List.drop_length]; unfold ordE; rfl
      clear hke
      go_wp2_with fail
      go_ret
      exact ⟨ret_int HR.out.symm, hb⟩

theorem same_any (l m : List Int) (oa ob : Option Addr) (c d : Nat) (F : Foot) (w : World) (hs : SliceR intR 1 F w oa l) (ht : SliceR intR 1 F w ob m) (hc : l.length ≤ c) (hc2 : l.length ≤ 9223372036854775807) :
    Calls Tryz.prog 38 #[.slice oa l.length c, .slice ob m.length d] w fun e w' => e = .returned (.bool (decide (l = m))) ∧ Below w.heap.size w w' := by
  by_cases hlen : l.length = m.length
  · have hl' : ((l.length : Int) != m.length) = false := by simp [hlen]
    have hO := order_any l m oa ob c d F w hs ht hc hc2 hlen
    by_cases hz : ordE l m = 0
    · have HZ : Hid (decide (l = m) = true) := decide_eq_true ((ordE_zero hlen).1 hz)
      rw [hz] at hO
      replace hlen := hide hlen
      clear hz
      go_enter Tryz.func38, Tryz.ntmps38
      go_wp2_with fail
      refine hO.mono ?_
      rintro e w' ⟨rfl, hb⟩
      go_wp2_with fail
      go_ret
      exact ⟨ret_bool HZ.out.symm, hb⟩
    · have HZ : Hid (decide (l = m) = false) := decide_eq_false fun h => hz ((ordE_zero hlen).2 h)
      have q1 : (ordE l m == 0) = false := by simpa using hz
      replace hlen := hide hlen
      clear hz
      go_enter Tryz.func38, Tryz.ntmps38
      go_wp2_with fail
      refine hO.mono ?_
      rintro e w' ⟨rfl, hb⟩
      go_wp2_with fail
      go_ret
      exact ⟨ret_bool HZ.out.symm, hb⟩
  · have hl' : ((l.length : Int) != m.length) = true := by simp; omega
    have HL : Hid (decide (l = m) = false) := decide_eq_false fun h => hlen (by rw [h])
    clear hlen
    go_enter Tryz.func38, Tryz.ntmps38
    go_wp2_with fail
    go_ret
    exact ⟨ret_bool HL.out.symm, Below.refl _ _⟩
theorem sameS_any (l m : List Int) (oa ob : Option Addr) (c d : Nat) (F : Foot) (w : World) (hs : SliceR intR 1 F w oa l) (ht : SliceR intR 1 F w ob m) (hc : l.length ≤ c) (hc2 : l.length ≤ 9223372036854775807) :
    Calls Tryz.prog 15 #[.slice oa l.length c, .slice ob m.length d] w fun e w' => e = .returned (.bool (decide (l = m))) ∧ Below w.heap.size w w' := by
  have hO := same_any l m oa ob c d F w hs ht hc hc2
  go_enter Tryz.func15, Tryz.ntmps15
  go_wp2_with fail
  refine hO.mono ?_
  rintro e w' ⟨rfl, hb⟩
  go_wp2_with fail
  go_ret
  exact ⟨rfl, hb⟩

end Go.Proofs.YtpgopmmobbemcaaGreat

set_option linter.unusedVariables false
set_option linter.unusedSimpArgs false
set_option linter.unnecessarySimpa false
namespace Go.Proofs.YtpgopmmobbemcaaGreat
open Go.RowKit

def triE : List Edg := [⟨0, 1, 1⟩, ⟨0, 2, 1⟩, ⟨1, 2, 1⟩]

theorem i64_s {x : Int} (h : 0 ≤ x ∧ x ≤ 100) : I64 x := by unfold I64; omega
theorem triE_lit (B : Nat) (w : World) (hB : B ≤ w.heap.size) : SliceR edgR 3 (Ge B) (w.alloc (.cells #[.int .i64 0, .int .i64 1, .int .i64 1, .int .i64 0, .int .i64 2, .int .i64 1, .int .i64 1, .int .i64 2, .int .i64 1] 123)) (some ⟨w.heap.size, 0, none⟩) triE :=
  SliceR.lit (F := Ge B) edgR_ok w 123 [[.int .i64 0, .int .i64 1, .int .i64 1], [.int .i64 0, .int .i64 2, .int .i64 1], [.int .i64 1, .int .i64 2, .int .i64 1]] _ (fun i y hy => by
    match i, hy with
    | 0, hy => simp [triE] at hy; subst hy; exact ⟨_, rfl, rfl, i64_s (by decide), i64_s (by decide), i64_s (by decide)⟩
    | 1, hy => simp [triE] at hy; subst hy; exact ⟨_, rfl, rfl, i64_s (by decide), i64_s (by decide), i64_s (by decide)⟩
    | 2, hy => simp [triE] at hy; subst hy; exact ⟨_, rfl, rfl, i64_s (by decide), i64_s (by decide), i64_s (by decide)⟩
    | i + 3, hy => simp [triE] at hy) rfl (fun _ h => h) hB

set_option maxRecDepth 100000 in
theorem tri18_any (w : World) : Calls Tryz.prog 42 #[] w fun e w' => ∃ g, e = .returned (.agg #[.int .i64 3, .slice (some ⟨g, 0, none⟩) 3 3]) ∧ SliceR edgR 3 (Ge w.heap.size) w' (some ⟨g, 0, none⟩) triE ∧ Below w.heap.size w w' := by
  go_enter Tryz.func42, Tryz.ntmps42
  go_wp2_with fail
  have hb := (Box.new w [.int .i64 3, .slice (some ⟨w.heap.size + 1, 0, none⟩) 3 3] 24).next (.cells #[.int .i64 0, .int .i64 1, .int .i64 1, .int .i64 0, .int .i64 2, .int .i64 1, .int .i64 1, .int .i64 2, .int .i64 1] 123)
  have hl := triE_lit w.heap.size (w.alloc (.cells #[.int .i64 3, .slice (some ⟨w.heap.size + 1, 0, none⟩) 3 3] 24)) (by simp)
  rw [World.size_alloc] at hl
  refine bodyPost_ret (results_cell_row rfl _ _ w.heap.size 24 #[.int .i64 3, .slice (some ⟨w.heap.size + 1, 0, none⟩) 3 3] (0, 0) _ rfl hb Tryz.underlying24 rfl (by kernel_rfl)) rfl ?_
  exact ⟨_, rfl, hl, bnew (bnew (Below.refl _ _) _) _⟩

end Go.Proofs.YtpgopmmobbemcaaGreat

set_option linter.unusedVariables false
set_option linter.unusedSimpArgs false
set_option linter.unnecessarySimpa false
namespace Go.Proofs.YtpgopmmobbemcaaGreat
open Go.RowKit

theorem t43_d : tErr 3 triE (forest triE) [-1, 0, 2] = 0 := by decide +kernel
theorem t43_d2 : tErr 3 triE (forest triE) [-1, 0, 1] = 0 := by decide +kernel
theorem t43_debt : debtR 3 triE (forest triE) [-1, 0, 2] = (1, 1, 0) := by decide +kernel
theorem t43_cheap : cheapR 3 triE (forest triE) [-1, -1, 0] = ([0, 0, 1], 1, 0) := by decide +kernel
theorem t43_sol : solveR 3 triE (forest triE) [-1, 0, 2] 3 true = ([0, 0, 1], 1, 0) := by decide +kernel
theorem t43_sol2 : solveR 3 triE (forest triE) [-1, 0, 1] 8 false = ([], 0, 6) := by decide +kernel
theorem gRun_tri (k : Nat) : gRun 3 triE [0] (k + 3) 0 (fun v => [-1, 0, 2].getD v 0) (fun _ => 0) = (true, [-1, -1, 0], 0) := by
  have h : ∀ k, gRun 3 triE [0] (k + 3) 0 (fun v => [-1, 0, 2].getD v 0) (fun _ => 0) = gRun 3 triE [0] (k + 3) 0 (fun v => [-1, 0, 2].getD v 0) (fun _ => 0) := fun _ => rfl
  rfl
theorem gRun_tri2 (k : Nat) : gRun 3 triE [0] (k + 4) 0 (fun v => [-1, 0, 1].getD v 0) (fun _ => 0) = (false, [-1, -1, -1], 0) := by rfl
theorem t43_gre : greedyR 1048576 3 triE (forest triE) [-1, 0, 2] [0] = (true, [-1, -1, 0], 0) := by
  unfold greedyR
  rw [if_neg (by rw [t43_d]; simp), if_neg (by decide)]
  exact gRun_tri 1048573
theorem t43_gre2 : greedyR 1048576 3 triE (forest triE) [-1, 0, 1] [0] = (false, [-1, -1, -1], 0) := by
  unfold greedyR
  rw [if_neg (by rw [t43_d2]; simp), if_neg (by decide)]
  exact gRun_tri2 1048572
theorem t43_win : Winn 3 (linkE triE) (fun v => [-1, 0, 2].getD v 0) := ⟨fun v => if v = 2 then 1 else 0, by decide +kernel⟩
theorem t43_win2 : ¬ Winn 3 (linkE triE) (fun v => [-1, 0, 1].getD v 0) := by
  rintro ⟨s, hs⟩
  have h0 := hs 0 (by omega)
  have h1 := hs 1 (by omega)
  have h2 := hs 2 (by omega)
  have e : ∀ v w, v < 3 → w < 3 → linkE triE v w = if v = w then 0 else 1 := fun v w hv hw => (by decide +kernel : ∀ v, v < 3 → ∀ w, w < 3 → linkE triE v w = if v = w then 0 else 1) v hv w hw
  simp only [app, sumI, e 0 0 (by omega) (by omega), e 0 1 (by omega) (by omega), e 0 2 (by omega) (by omega), e 1 0 (by omega) (by omega), e 1 1 (by omega) (by omega), e 1 2 (by omega) (by omega), e 2 0 (by omega) (by omega), e 2 1 (by omega) (by omega), e 2 2 (by omega) (by omega)] at h0 h1 h2
  simp at h0 h1 h2
  omega
end Go.Proofs.YtpgopmmobbemcaaGreat

set_option linter.unusedVariables false
set_option linter.unusedSimpArgs false
set_option linter.unnecessarySimpa false
namespace Go.Proofs.YtpgopmmobbemcaaGreat
open Go.RowKit

theorem i64_t {x : Int} (h : -100 ≤ x ∧ x ≤ 100) : I64 x := by unfold I64; omega
/-- What awake leans on between its calls. -/
structure T43 (g bx gd : Nat) (W : World) : Prop where
  es : SliceR edgR 3 All W (some ⟨g, 0, none⟩) triE
  ds : SliceR intR 1 All W (some ⟨gd, 0, none⟩) [-1, 0, 2]
  box : Box W bx [.int .i64 3, .slice (some ⟨g, 0, none⟩) 3 3] 24
theorem T43.below {g bx gd : Nat} {W W' : World} (c : T43 g bx gd W) (hb : Below W.heap.size W W') : T43 g bx gd W' :=
  ⟨c.es.below edgR_ok hb, c.ds.below intR_ok hb, c.box.below hb⟩
/-- A list that a call gave. -/
def GivenL (W : World) (v : Value) (l : List Int) : Prop := ∃ oa c, v = .slice oa l.length c ∧ l.length ≤ c ∧ SliceR intR 1 All W oa l
theorem OwnS.givenL {B : Nat} {W : World} {rv : Value} {l : List Int} (h : OwnS intR 1 B 3 Non W rv l) : GivenL W rv l := by
  obtain ⟨oa, c, e, hc, hs⟩ := h.slice intR_ok
  exact ⟨oa, c, e, hc, hs.all intR_ok (by decide)⟩
theorem GivenL.below {W W' : World} {v : Value} {l : List Int} (h : GivenL W v l) (hb : Below W.heap.size W W') : GivenL W' v l := by
  obtain ⟨oa, c, e, hc, hs⟩ := h
  exact ⟨oa, c, e, hc, hs.below intR_ok hb⟩
theorem hU43 : Hid (gErr 3 triE = 0 → Uf (forest triE) (eL triE)) := forest_ok 3 triE
section
variable {g bx gd : Nat} {W : World} (C : T43 g bx gd W)
include C
theorem tri43_debt : Calls Tryz.prog 23 #[.agg #[.int .i64 3, .slice (some ⟨g, 0, none⟩) 3 3], .slice (some ⟨gd, 0, none⟩) 3 3] W (Int3Post W (1, 1, 0)) := by
  have h5 := debt_any 3 triE (some ⟨g, 0, none⟩) 3 All W C.es (by decide) (by decide) (forest triE) hU43 [-1, 0, 2] (some ⟨gd, 0, none⟩) 3 All C.ds (by decide) (by decide)
  rw [t43_debt] at h5
  exact h5
theorem tri43_solve : Calls Tryz.prog 20 #[.agg #[.int .i64 3, .slice (some ⟨g, 0, none⟩) 3 3], .slice (some ⟨gd, 0, none⟩) 3 3, .int .i64 3] W fun e w' => ∃ v, e = .returned (.tuple #[v, .int .i64 1, .int .i64 0]) ∧ GivenL w' v [0, 0, 1] ∧ Below W.heap.size W w' := by
  refine (solve_any 3 triE (some ⟨g, 0, none⟩) 3 All W C.es (by decide) (by decide) (forest triE) hU43 [-1, 0, 2] (some ⟨gd, 0, none⟩) 3 All C.ds (by decide) (by decide) (fun _ => ⟨by decide, by decide, by decide⟩) 3 (i64_t (by decide))).mono ?_
  rintro e w' ⟨b, hb, oa, c, rfl, hc, hs, hbb⟩
  have hbt : b = true := (hb t43_d).2 t43_win
  subst hbt
  rw [t43_sol] at hc hs ⊢
  exact ⟨_, rfl, ⟨oa, c, rfl, hc, hs⟩, hbb⟩
theorem tri43_solve2 (oa : Option Addr) (hd : SliceR intR 1 All W oa [-1, 0, 1]) : Calls Tryz.prog 20 #[.agg #[.int .i64 3, .slice (some ⟨g, 0, none⟩) 3 3], .slice oa 3 3, .int .i64 8] W fun e w' => ∃ v, e = .returned (.tuple #[v, .int .i64 0, .int .i64 6]) ∧ Below W.heap.size W w' := by
  refine (solve_any 3 triE (some ⟨g, 0, none⟩) 3 All W C.es (by decide) (by decide) (forest triE) hU43 [-1, 0, 1] oa 3 All hd (by decide) (by decide) (fun _ => ⟨by decide, by decide, by decide⟩) 8 (i64_t (by decide))).mono ?_
  rintro e w' ⟨b, hb, oa, c, rfl, hc, hs, hbb⟩
  have hbt : b = false := by
    cases b with
    | false => rfl
    | true => exact absurd ((hb t43_d2).1 rfl) t43_win2
  subst hbt
  rw [t43_sol2]
  exact ⟨_, rfl, hbb⟩
theorem tri43_greedy (op : Option Addr) (hp : SliceR intR 1 All W op [0]) : Calls Tryz.prog 17 #[.agg #[.int .i64 3, .slice (some ⟨g, 0, none⟩) 3 3], .slice (some ⟨gd, 0, none⟩) 3 3, .slice op 1 1] W fun e w' => ∃ v, e = .returned (.tuple #[.bool true, v, .int .i64 0]) ∧ GivenL w' v [-1, -1, 0] ∧ Below W.heap.size W w' := by
  refine (greedy_any 3 triE (some ⟨g, 0, none⟩) 3 All W C.es (by decide) (by decide) (forest triE) hU43 [-1, 0, 2] (some ⟨gd, 0, none⟩) 3 All C.ds (by decide) (by decide) [0] op 1 All hp (by decide) (by decide)).mono ?_
  rintro e w' ⟨v, rfl, ho, hb⟩
  rw [t43_gre] at ho ⊢
  exact ⟨v, rfl, ho.givenL, hb⟩
theorem tri43_greedy2 (oa op : Option Addr) (hd : SliceR intR 1 All W oa [-1, 0, 1]) (hp : SliceR intR 1 All W op [0]) : Calls Tryz.prog 17 #[.agg #[.int .i64 3, .slice (some ⟨g, 0, none⟩) 3 3], .slice oa 3 3, .slice op 1 1] W fun e w' => ∃ v, e = .returned (.tuple #[.bool false, v, .int .i64 0]) ∧ GivenL w' v [-1, -1, -1] ∧ Below W.heap.size W w' := by
  refine (greedy_any 3 triE (some ⟨g, 0, none⟩) 3 All W C.es (by decide) (by decide) (forest triE) hU43 [-1, 0, 1] oa 3 All hd (by decide) (by decide) [0] op 1 All hp (by decide) (by decide)).mono ?_
  rintro e w' ⟨v, rfl, ho, hb⟩
  rw [t43_gre2] at ho ⊢
  exact ⟨v, rfl, ho.givenL, hb⟩
theorem tri43_cheap (oa : Option Addr) (c : Nat) (hc : 3 ≤ c) (hd : SliceR intR 1 All W oa [-1, -1, 0]) : Calls Tryz.prog 13 #[.agg #[.int .i64 3, .slice (some ⟨g, 0, none⟩) 3 3], .slice oa 3 c] W fun e w' => ∃ v, e = .returned (.tuple #[v, .int .i64 1, .int .i64 0]) ∧ GivenL w' v [0, 0, 1] ∧ Below W.heap.size W w' := by
  refine (cheapest_any 3 triE (some ⟨g, 0, none⟩) 3 All W C.es (by decide) (by decide) (forest triE) hU43 [-1, -1, 0] oa c All hd hc (by decide)).mono ?_
  rintro e w' ⟨v, rfl, ho, hb⟩
  rw [t43_cheap] at ho ⊢
  exact ⟨v, rfl, ho.givenL, hb⟩
end
theorem same_lit (l m : List Int) (oa ob : Option Addr) (c d : Nat) (W : World) (hc : l.length ≤ c) (hl : l.length ≤ 9223372036854775807) (hs : SliceR intR 1 All W oa l) (hm : SliceR intR 1 All W ob m) {j k : Nat} (hj : j = l.length) (hk : k = m.length) :
    Calls Tryz.prog 15 #[.slice oa j c, .slice ob k d] W fun e w' => e = .returned (.bool (decide (l = m))) ∧ Below W.heap.size W w' := by
  subst hj hk
  exact sameS_any l m oa ob c d All W hs hm hc hl
theorem ints_l (W : World) (l : List Int) (hl : ∀ x ∈ l, -100 ≤ x ∧ x ≤ 100) (cs : Array Value) (hcs : cs = (l.map (Value.int .i64)).toArray) : SliceR intR 1 All (W.alloc (.cells cs 3)) (some ⟨W.heap.size, 0, none⟩) l := by
  subst hcs
  exact ints_lit (F := All) (G := All) W 3 l (fun x hx => i64_t (hl x hx)) trivial
set_option maxRecDepth 100000 in
set_option maxHeartbeats 4000000 in
theorem awake43_any (w : World) : Calls Tryz.prog 12 #[] w fun e w' => e = .returned (.bool true) ∧ Below w.heap.size w w' := by
  go_enter Tryz.func12, Tryz.ntmps12
  go_wp2_with fail
  refine (tri18_any _).mono ?_
  rintro e w1 ⟨g, rfl, hE, hb1⟩
  obtain ⟨W2, hW2⟩ : ∃ W2, (w1.alloc (.cells #[.int .i64 (-1), .int .i64 0, .int .i64 2] 3)).alloc (.cells #[.int .i64 3, .slice (some ⟨g, 0, none⟩) 3 3] 24) = W2 := ⟨_, rfl⟩
  have hb12 : Below w1.heap.size w1 W2 := by rw [← hW2]; exact bnew (bnew (Below.refl _ _) _) _
  have C2 : T43 g (w1.heap.size + 1) w1.heap.size W2 := by
    refine ⟨(hE.all edgR_ok (by decide)).below edgR_ok hb12, ?_, ?_⟩
    · rw [← hW2]
      exact (ints_l w1 [-1, 0, 2] (by decide) _ rfl).below intR_ok (bnew (Below.refl _ _) _)
    · have := Box.new (w1.alloc (.cells #[.int .i64 (-1), .int .i64 0, .int .i64 2] 3)) [.int .i64 3, .slice (some ⟨g, 0, none⟩) 3 3] 24
      rw [← hW2]
      simpa using this
  have HC := hide C2
  have hB2 := hide (hb1.trans (hb12.mono hb1.size))
  have d0 := C2.box.cell 0
  have d1 := C2.box.cell 1
  simp only [List.getElem?_cons_zero, List.getElem?_cons_succ] at d0 d1
  clear hE hb1 hb12 C2
  go_wp2_with fail
  clear d0 d1 hW2
  refine (tri43_debt HC.out).mono ?_
  rintro e W3 ⟨rfl, hb⟩
  have HC := hide (HC.out.below hb)
  have hB2 := hide (hB2.out.trans (hb.mono hB2.out.size))
  have d0 := HC.out.box.cell 0
  have d1 := HC.out.box.cell 1
  simp only [List.getElem?_cons_zero, List.getElem?_cons_succ] at d0 d1
  clear hb
  go_wp2_with fail
  clear d0 d1
  refine (tri43_solve HC.out).mono ?_
  rintro e W4 ⟨sv, rfl, hgs, hb⟩
  obtain ⟨oS, cS, rfl, hcS, hsS⟩ := hgs
  have HSS := hide hsS
  have HC := hide (HC.out.below hb)
  have hB2 := hide (hB2.out.trans (hb.mono hB2.out.size))
  have d0 := HC.out.box.cell 0
  have d1 := HC.out.box.cell 1
  simp only [List.getElem?_cons_zero, List.getElem?_cons_succ] at d0 d1
  clear hb hsS
  go_wp2_with fail
  clear d0 d1
  have hbq := bnew (Below.refl W4.heap.size W4) (.cells #[.int .i64 0] 3)
  refine (tri43_greedy (HC.out.below hbq) _ (ints_l W4 [0] (by decide) _ rfl)).mono ?_
  rintro e W5 ⟨tv, rfl, hgt, hb⟩
  obtain ⟨oT, cT, rfl, hcT, hsT⟩ := hgt
  replace hb := hbq.trans (hb.mono hbq.size)
  have HST := hide hsT
  have HSS := hide (HSS.out.below intR_ok hb)
  have HC := hide (HC.out.below hb)
  have hB2 := hide (hB2.out.trans (hb.mono hB2.out.size))
  have d0 := HC.out.box.cell 0
  have d1 := HC.out.box.cell 1
  simp only [List.getElem?_cons_zero, List.getElem?_cons_succ] at d0 d1
  clear hb hsT hbq
  go_wp2_with fail
  clear d0 d1
  have hbq := bnew (Below.refl W5.heap.size W5) (.cells #[.int .i64 0, .int .i64 0, .int .i64 1] 3)
  refine (same_lit [0, 0, 1] [0, 0, 1] oS _ cS _ _ hcS (by decide) (HSS.out.below intR_ok hbq) (ints_l W5 [0, 0, 1] (by decide) _ rfl) rfl rfl).mono ?_
  rintro e W6 ⟨rfl, hb⟩
  replace hb := hbq.trans (hb.mono hbq.size)
  have HSS := hide (HSS.out.below intR_ok hb)
  have HST := hide (HST.out.below intR_ok hb)
  have HC := hide (HC.out.below hb)
  have hB2 := hide (hB2.out.trans (hb.mono hB2.out.size))
  have d0 := HC.out.box.cell 0
  have d1 := HC.out.box.cell 1
  simp only [List.getElem?_cons_zero, List.getElem?_cons_succ] at d0 d1
  clear hb hbq
  go_wp2_with fail
  clear d0 d1
  have hbq := bnew (Below.refl W6.heap.size W6) (.cells #[.int .i64 (-1), .int .i64 (-1), .int .i64 0] 3)
  refine (same_lit [-1, -1, 0] [-1, -1, 0] oT _ cT _ _ hcT (by decide) (HST.out.below intR_ok hbq) (ints_l W6 [-1, -1, 0] (by decide) _ rfl) rfl rfl).mono ?_
  rintro e W7 ⟨rfl, hb⟩
  replace hb := hbq.trans (hb.mono hbq.size)
  have HSS := hide (HSS.out.below intR_ok hb)
  have HST := hide (HST.out.below intR_ok hb)
  have HC := hide (HC.out.below hb)
  have hB2 := hide (hB2.out.trans (hb.mono hB2.out.size))
  have d0 := HC.out.box.cell 0
  have d1 := HC.out.box.cell 1
  simp only [List.getElem?_cons_zero, List.getElem?_cons_succ] at d0 d1
  clear hb hbq
  go_wp2_with fail
  clear d0 d1
  refine (tri43_cheap HC.out oT cT hcT HST.out).mono ?_
  rintro e W8 ⟨cv, rfl, hgc, hb⟩
  obtain ⟨oC, cC, rfl, hcC, hsC⟩ := hgc
  have HSC := hide hsC
  have HSS := hide (HSS.out.below intR_ok hb)
  have HC := hide (HC.out.below hb)
  have hB2 := hide (hB2.out.trans (hb.mono hB2.out.size))
  have d0 := HC.out.box.cell 0
  have d1 := HC.out.box.cell 1
  simp only [List.getElem?_cons_zero, List.getElem?_cons_succ] at d0 d1
  clear hb hsC HST
  go_wp2_with fail
  clear d0 d1
  have hbq := bnew (bnew (Below.refl W8.heap.size W8) (.cells #[.int .i64 (-1), .int .i64 0, .int .i64 1] 3)) (.cells #[.int .i64 0] 3)
  have hz2 := ints_l (W8.alloc (.cells #[.int .i64 (-1), .int .i64 0, .int .i64 1] 3)) [0] (by decide) _ rfl
  rw [alloc_size'] at hz2
  refine (tri43_greedy2 (HC.out.below hbq) _ _ ((ints_l W8 [-1, 0, 1] (by decide) _ rfl).below intR_ok (bnew (Below.refl _ _) _)) hz2).mono ?_
  rintro e W9 ⟨uv, rfl, hgu, hb⟩
  obtain ⟨oU, cU, rfl, hcU, hsU⟩ := hgu
  replace hb := hbq.trans (hb.mono hbq.size)
  have HSU := hide hsU
  have HSC := hide (HSC.out.below intR_ok hb)
  have HSS := hide (HSS.out.below intR_ok hb)
  have HC := hide (HC.out.below hb)
  have hB2 := hide (hB2.out.trans (hb.mono hB2.out.size))
  have d0 := HC.out.box.cell 0
  have d1 := HC.out.box.cell 1
  simp only [List.getElem?_cons_zero, List.getElem?_cons_succ] at d0 d1
  clear hb hbq hsU hz2
  go_wp2_with fail
  clear d0 d1
  have hbq := bnew (Below.refl W9.heap.size W9) (.cells #[.int .i64 (-1), .int .i64 0, .int .i64 1] 3)
  refine (tri43_solve2 (HC.out.below hbq) _ (ints_l W9 [-1, 0, 1] (by decide) _ rfl)).mono ?_
  rintro e W10 ⟨xv, rfl, hb⟩
  replace hb := hbq.trans (hb.mono hbq.size)
  have HSU := hide (HSU.out.below intR_ok hb)
  have HSC := hide (HSC.out.below intR_ok hb)
  have HSS := hide (HSS.out.below intR_ok hb)
  have HC := hide (HC.out.below hb)
  have hB2 := hide (hB2.out.trans (hb.mono hB2.out.size))
  have d0 := HC.out.box.cell 0
  have d1 := HC.out.box.cell 1
  simp only [List.getElem?_cons_zero, List.getElem?_cons_succ] at d0 d1
  clear hb hbq d0 d1
  go_wp2_with fail
  refine (same_lit [0, 0, 1] [0, 0, 1] oC oS cC cS _ hcC (by decide) HSC.out HSS.out rfl rfl).mono ?_
  rintro e W11 ⟨rfl, hb⟩
  have HSU := hide (HSU.out.below intR_ok hb)
  have hB2 := hide (hB2.out.trans (hb.mono hB2.out.size))
  clear hb
  go_wp2_with fail
  have hbq := bnew (Below.refl W11.heap.size W11) (.cells #[.int .i64 (-1), .int .i64 (-1), .int .i64 (-1)] 3)
  refine (same_lit [-1, -1, -1] [-1, -1, -1] oU _ cU _ _ hcU (by decide) (HSU.out.below intR_ok hbq) (ints_l W11 [-1, -1, -1] (by decide) _ rfl) rfl rfl).mono ?_
  rintro e W12 ⟨rfl, hb⟩
  replace hb := hbq.trans (hb.mono hbq.size)
  have hB2 := hide (hB2.out.trans (hb.mono hB2.out.size))
  clear hb hbq
  go_wp2_with fail
  go_ret
  exact ⟨by first | rfl | trivial, hB2.out⟩
end Go.Proofs.YtpgopmmobbemcaaGreat

set_option linter.unusedVariables false
set_option linter.unusedSimpArgs false
namespace Go.Proofs.YtpgopmmobbemcaaGreat
open Go.RowKit

structure Mv where
  v : Int
  b : Bool
  deriving DecidableEq
def dmvR : Rep Mv := fun _ _ cs x => cs = [.int .i64 x.v, .bool x.b] ∧ I64 x.v
theorem dmvR_ok : RepOk dmvR 2 where
  len := by rintro F w cs x ⟨rfl, _⟩; rfl
  one := by rintro F w cs x ⟨rfl, _⟩ u hu; simp at hu; rcases hu with rfl | rfl <;> rfl
  keep := by rintro F w w' cs x h _; exact h
  wide := by rintro F F' w cs x h _; exact h
theorem SliceR.dmv_at {F : Foot} {w : World} {oa : Option Addr} {xs : List Mv} (h : SliceR dmvR 2 F w oa xs) {i : Nat} (hi : i < xs.length) :
    ∃ t l, xs.drop i = ⟨t, l⟩ :: xs.drop (i + 1) ∧ xs[i]? = some ⟨t, l⟩ ∧ I64 t ∧ ∃ b off, oa = some ⟨b, off, none⟩ ∧ F b ∧ w.cell? ⟨b, off + i * 2, none⟩ = some (.int .i64 t) ∧ w.cell? ⟨b, off + i * 2 + 1, none⟩ = some (.bool l) := by
  obtain ⟨⟨t, l⟩, h1, h2, b, off, cs, h3, h4, ⟨rfl, h5⟩, h6⟩ := h.at hi
  exact ⟨t, l, h1, h2, h5, b, off, h3, h4, by simpa using h6 0 _ rfl, by simpa using h6 1 _ rfl⟩
/-- The moves of a script whose first vertex is i. -/
def mvFrom : Nat → List Int → List Mv
  | _, [] => []
  | i, k :: r => List.replicate (magI k).toNat ⟨i, decide (k < 0)⟩ ++ mvFrom (i + 1) r
theorem mvFrom_app : ∀ (l m : List Int) (i : Nat), mvFrom i (l ++ m) = mvFrom i l ++ mvFrom (i + l.length) m
  | [], m, i => by simp [mvFrom]
  | k :: r, m, i => by
    rw [List.cons_append, mvFrom, mvFrom_app r m (i + 1), mvFrom, List.append_assoc, List.length_cons]
    rw [show i + 1 + r.length = i + (r.length + 1) by omega]
theorem mvFrom_len : ∀ (s : List Int) (i : Nat), ((mvFrom i s).length : Int) = costS s
  | [], _ => rfl
  | k :: r, i => by
    have h1 := mvFrom_len r (i + 1)
    have h2 : 0 ≤ magI k := by unfold magI; omega
    rw [mvFrom, List.length_append, List.length_replicate]
    show _ = magI k + costS r
    push_cast
    omega
theorem mvFrom_take {s : List Int} {k : Nat} {x : Int} (h : s[k]? = some x) : mvFrom 0 (s.take (k + 1)) = mvFrom 0 (s.take k) ++ List.replicate (magI x).toNat ⟨k, decide (x < 0)⟩ := by
  have hk : k < s.length := (List.getElem?_eq_some_iff.1 h).1
  rw [List.take_add_one, h, mvFrom_app]
  simp only [Option.toList_some, List.length_take, mvFrom, List.append_nil]
  congr 3
  omega
/-- What each vertex does in some moves. -/
def sumM : List Mv → Nat → Int
  | [], _ => 0
  | x :: r, u => (if x.v = (u : Int) then (if x.b = true then -1 else 1) else 0) + sumM r u
theorem sumM_app : ∀ (l m : List Mv) (u : Nat), sumM (l ++ m) u = sumM l u + sumM m u
  | [], m, u => by simp [sumM]
  | x :: r, m, u => by
    rw [List.cons_append, sumM, sumM_app r m u, sumM]
    omega
theorem sumM_bnd : ∀ (l : List Mv) (u : Nat), -(l.length : Int) ≤ sumM l u ∧ sumM l u ≤ l.length
  | [], u => by simp [sumM]
  | x :: r, u => by
    have := sumM_bnd r u
    rw [sumM, List.length_cons]
    push_cast
    split
    · split <;> omega
    · omega
theorem sumM_take {l : List Mv} {k : Nat} {x : Mv} (h : l[k]? = some x) (u : Nat) : sumM (l.take (k + 1)) u = sumM (l.take k) u + (if x.v = (u : Int) then (if x.b = true then -1 else 1) else 0) := by
  rw [List.take_add_one, h, sumM_app]
  simp [sumM]
end Go.Proofs.YtpgopmmobbemcaaGreat

set_option linter.unusedVariables false
set_option linter.unusedSimpArgs false
namespace Go.Proofs.YtpgopmmobbemcaaGreat
open Go.RowKit

theorem dmvSizeN : (Tryz.prog.info? 81).map (·.size) = some 2 := by kernel_rfl
theorem dmvInfoN : (Tryz.prog.info? 81).map (fun i => (i.zero, i.size, i.bytes)) = some (some (.agg #[.int .i64 0, .bool false]), 2, 16) := by kernel_rfl
theorem pats_oneM (x : Int) (y : Bool) (n : Nat) : ∀ v ∈ pats (.int .i64 x) (.bool y) n, v.oneCell' = true := fun v hv => by
  unfold pats at hv
  obtain ⟨j, _, rfl⟩ := List.mem_map.1 hv
  unfold pat
  split <;> rfl
/-- A row of n outputs, of which the first m are ⟨x, y⟩. -/
def RowPM (w : World) (g n : Nat) (x : Int) (y : Bool) (m : Nat) : Prop := ∃ cur : List Value, w.heap[g]? = some (.cells cur.toArray 81 (0, 0)) ∧ cur.length = 2 * n ∧ ∀ j, j < 2 * m → cur[j]? = some (pat (.int .i64 x) (.bool y) j)

theorem copy_firstM {w w1 : World} {n c b off : Nat} {x : Int} {y : Bool} {zs : List Value} (hown : w1.ownsRow w.heap.size 81 2 (.slice (some ⟨w.heap.size, 0, none⟩) n n) n zs) (hg : w.grownBy w1 none)
    (cx : w.cell? ⟨b, off, none⟩ = some (.int .i64 x)) (cy : w.cell? ⟨b, off + 1, none⟩ = some (.bool y)) :
    ∃ (m : Nat) (w2 : World), Hid (m = min n 1) ∧ (Builtin.copy_ #[61, 61] 3 #[.slice (some ⟨w.heap.size, 0, none⟩) n n, .slice (some ⟨b, off, none⟩) 1 c]).run Tryz.prog w1 = .ok (.int .i64 m) w2 ∧ RowPM w2 w.heap.size n x y m ∧ Below w.heap.size w w2 := by
  obtain ⟨hl, hv⟩ := hown
  have hb1 : Below w.heap.size w w1 := (Below.refl w.heap.size w).grown hg (Nat.le_refl _) fun k hk => by cases hk
  rcases hv with ⟨he, _⟩ | ⟨g, cap, cur, he, _, hh, _, _, hcs, _⟩
  · cases he
  · injection he with h1 h2 h3
    injection h1 with h1
    injection h1 with h1
    subst h1 h3
    rcases Nat.eq_zero_or_pos n with h0 | h0
    · subst h0
      have hrun : (Builtin.copy_ #[61, 61] 3 #[.slice (some ⟨w.heap.size, 0, none⟩) 0 0, .slice (some ⟨b, off, none⟩) 1 c]).run Tryz.prog w1 = .ok (goInt ((0 : Nat) : Int)) (w1.setRow w.heap.size (splice cur.toList 0 []).toArray) :=
        run_copy_at (P := Tryz.prog) w1 61 61 3 81 w.heap.size 0 0 0 2 0 ⟨b, off, none⟩ 1 c cur 81 [] Tryz.underlying61 dmvSizeN hh (by simp) rfl (fun j v hj => by simp at hj) (by simp) (by simp)
      refine ⟨0, _, rfl, hrun, ⟨_, setRow_heap w1 _ _ _ _ _ hh, ?_, fun j hj => by omega⟩, below_setRow hb1 (Nat.le_refl _) _⟩
      simpa [splice] using hcs
    · have hcell : w1.cell? ⟨b, off, none⟩ = some (.int .i64 x) := (hb1.cell (World.block_lt_of_cell? _ _ cx)).trans cx
      have hcell2 : w1.cell? ⟨b, off + 1, none⟩ = some (.bool y) := (hb1.cell (World.block_lt_of_cell? _ _ cy)).trans cy
      have hcs' : cur.size = 2 * n := by rw [hcs]; omega
      have hrun : (Builtin.copy_ #[61, 61] 3 #[.slice (some ⟨w.heap.size, 0, none⟩) n n, .slice (some ⟨b, off, none⟩) 1 c]).run Tryz.prog w1 = .ok (goInt ((1 : Nat) : Int)) (w1.setRow w.heap.size (splice cur.toList 0 [.int .i64 x, .bool y]).toArray) :=
        run_copy_at (P := Tryz.prog) w1 61 61 3 81 w.heap.size 0 n n 2 1 ⟨b, off, none⟩ 1 c cur 81 [.int .i64 x, .bool y] Tryz.underlying61 dmvSizeN hh (by show 1 = min 1 n; omega) rfl (fun j v hj => by
          match j, hj with
          | 0, hj => simp at hj; subst hj; simpa [Addr.add] using hcell
          | 1, hj => simp at hj; subst hj; simpa [Addr.add] using hcell2) (by rw [hcs']; simp; omega) (by intro v hv; simp at hv; rcases hv with rfl | rfl <;> rfl)
      refine ⟨1, _, by show _ = _; omega, hrun, ⟨_, setRow_heap w1 _ _ _ _ _ hh, ?_, ?_⟩, below_setRow hb1 (Nat.le_refl _) _⟩
      · rw [length_splice _ _ _ (by simp; omega)]; simpa using hcs'
      · intro j hj
        match j, hj with
        | 0, _ => simp [splice, pat]
        | 1, _ => simp [splice, pat]

set_option maxRecDepth 100000 in
set_option maxHeartbeats 4000000 in
theorem repeatM_any (x : Mv) (n c : Nat) (oa : Option Addr) (F : Foot) (w : World) (hn : n ≤ 4096) (hs : SliceR dmvR 2 F w oa [x]) :
    Calls Tryz.prog 72 #[.slice oa 1 c, .int .i64 n] w fun e w' => ∃ v, e = .returned v ∧ OwnS dmvR 2 w.heap.size 81 Non w' v (List.replicate n x) ∧ Below w.heap.size w w' := by
  obtain ⟨x1, y1, _, hx', ix, b, off, rfl, _, cx, cy⟩ := hs.dmv_at (i := 0) (by simp)
  simp at hx'
  subst hx'
  rw [Nat.zero_mul, Nat.add_zero] at cx cy
  obtain ⟨i, hi, hz, hsz, hby⟩ := info_parts dmvInfoN
  have IX := hide ix
  have HI := hide (And.intro hi (And.intro hz (And.intro hsz hby)))
  clear hi hz hsz hby ix
  have hd1 : decide ((n : Int) < 0) = false := by simp
  have hd2 : decide (9223372036854775807 < (n : Int)) = false := by simp; omega
  go_enter Tryz.func72, Tryz.ntmps72
  go_wp2_with (first
    | (go_at_call 109; refine (mul_one n (by omega) _).mono ?_; rintro e w' ⟨rfl, rfl⟩)
    | (at_make; refine wpList_make_full _ rfl _ _ 61 rfl w.heap.size 81 i _ 2 Tryz.underlying61 HI.out.1 HI.out.2.1 HI.out.2.2.1 .i64 .i64 _ _ n rfl rfl rfl rfl (by rw [HI.out.2.2.2]; omega) (by unfold maxLen; omega) (Nat.le_refl _) (fun w1 hown hgrow => ?_)
       obtain ⟨m0, w2, HM0, hcp, hrow, hbw⟩ := copy_firstM (c := c) hown hgrow cx cy
       clear hown hgrow))
  clear hcp cx cy
  go_loopw [8] (fun v wr => ∃ m : Nat, v = .int .i64 m ∧ m ≤ n ∧ (n = 0 ∨ 0 < m) ∧ RowPM wr w.heap.size n x1 y1 m ∧ Below w.heap.size w wr) (fun v _ => n - (intOf v).toNat)
  case atStart => exact ⟨m0, rfl, by have := HM0.out; omega, by have := HM0.out; omega, hrow, hbw⟩
  case round =>
    obtain ⟨m, rfl, hmn, hm0, ⟨cur, hcur, hcl, hcx⟩, hb⟩ := hrel
    by_cases hlt : m < n
    · have hm1 : 0 < m := by omega
      have hnm : ¬ n = m := by omega
      obtain ⟨q, hq⟩ : ∃ q, q = min m (n - m) := ⟨_, rfl⟩
      have hq1 : 0 < q := by omega
      have hq2 : m + q ≤ n := by omega
      have hqm : q ≤ m := by omega
      have hwr : IntKind.i64.wrap ((m : Int) + (q : Int)) = (m : Int) + q := IntWalk.i64_in _ (by omega)
      have HQ := hide hq
      have HCUR := hide hcur
      have HCX := hide hcx
      have HCL := hide hcl
      clear hq hcur hcx hcl hrow hbw
      go_wp2_with fail
      go_region_law (refine step_copy_at rfl (.tmp 41) (.tmp 44) 61 61 rfl 81 2 Tryz.underlying61 dmvSizeN w.heap.size (m * 2) (n - m) (n - m) ⟨w.heap.size, 0, none⟩ m n (by simp [Act.eval, Act.put]) (by simp [Act.eval, Act.put]) cur 81 HCUR.out q (by have := HQ.out; show q = min m (n - m); exact this) (pats (.int .i64 x1) (.bool y1) (q * 2)) (by rw [pats_len]) (fun j v hj => by
        obtain ⟨hjq, hv⟩ := pats_at hj
        subst hv
        rw [show (Addr.mk w.heap.size 0 none).add j = ⟨w.heap.size, j, none⟩ from by unfold Addr.add; split <;> simp_all]
        change wr.cell? ⟨w.heap.size, j, none⟩ = _
        rw [cell_of_row wr w.heap.size j _ _ _ HCUR.out]
        simpa using HCX.out j (by omega)) (by rw [pats_len]; have := HCL.out; omega) (pats_oneM x1 y1 _) w.heap.size w hb.drew (Nat.le_refl _) ?_; intro w4 hg4 hb4)
      all_goals
        simp [Act.put]
        go_roundw
        case rel =>
          refine ⟨_, _, _, _, _, _, _, _, _, _, _, _, _, _, ⟨m + q, by go_num, by omega, .inr (by omega), ⟨_, hg4.out, by rw [length_splice _ _ _ (by rw [pats_len]; have := HCL.out; omega)]; exact HCL.out, ?_⟩, hb4⟩, rfl⟩
          intro j hj
          unfold splice
          have hcl := HCL.out
          by_cases h : j < m * 2
          · rw [List.getElem?_append_left (by simp; omega), List.getElem?_take_of_lt h]
            exact HCX.out j (by omega)
          · have htl : (cur.take (m * 2)).length = m * 2 := by rw [List.length_take]; omega
            rw [List.getElem?_append_right (by omega), htl, List.getElem?_append_left (by rw [pats_len]; omega), pats_get (by omega)]
            unfold pat
            have : (j - m * 2) % 2 = j % 2 := by omega
            rw [this]
        case measure => simp [intOf]; omega
    · have hmn2 : m = n := by omega
      subst hmn2
      have HCUR := hide hcur
      have HCX := hide hcx
      have HCL := hide hcl
      clear hcur hcx hcl
      go_wp2_with fail
      go_ret
      have hcl := HCL.out
      refine ⟨_, rfl, ⟨cur, ⟨by rw [List.length_replicate, hcl]; omega, .inr ⟨w.heap.size, m, _, by simp, Nat.le_refl _, HCUR.out, by simp, by unfold maxLen; omega, by rw [List.size_toArray, hcl]; omega, by rw [List.length_replicate]; exact List.take_of_length_le (by rw [hcl]; omega)⟩⟩, ?_, ?_⟩, hb⟩
      · intro u hu
        obtain ⟨j, hj, rfl⟩ := List.mem_iff_getElem.1 hu
        have h1 := HCX.out j (by omega)
        rw [List.getElem?_eq_getElem hj] at h1
        injection h1 with h1
        rw [h1]
        unfold pat
        split <;> rfl
      · intro j y hy
        have hj : j < m := by have := (List.getElem?_eq_some_iff.1 hy).1; simpa using this
        rw [List.getElem?_replicate, if_pos hj] at hy
        injection hy with hy
        subst hy
        refine ⟨?_, IX.out⟩
        unfold chunk
        have e0 := HCX.out (j * 2) (by omega)
        have e1 := HCX.out (j * 2 + 1) (by omega)
        unfold pat at e0 e1
        rw [if_pos (by omega)] at e0
        rw [if_neg (by omega)] at e1
        apply List.ext_getElem?
        intro k
        rw [List.getElem?_take]
        split
        · rename_i hk
          rw [List.getElem?_drop]
          match k, hk with
          | 0, _ => simpa using e0
          | 1, _ => simpa using e1
        · rw [List.getElem?_eq_none (by simp; omega)]

end Go.Proofs.YtpgopmmobbemcaaGreat

set_option linter.unusedVariables false
set_option linter.unusedSimpArgs false
set_option linter.unnecessarySimpa false
namespace Go.Proofs.YtpgopmmobbemcaaGreat
open Go.RowKit

def movesR (n : Int) (es : List Edg) (f : List Nat) (s : List Int) : List Mv × Int :=
  if tErr n es f s ≠ 0 then ([], tErr n es f s) else if 4096 < costS s then ([], 12) else (mvFrom 0 s, 0)
def MvsPost (t : TypeId) (w : World) (r : List Mv × Int) (e : Ending) (w' : World) : Prop :=
  ∃ v, e = .returned (.tuple #[v, .int .i64 r.2]) ∧ OwnS dmvR 2 w.heap.size t Non w' v r.1 ∧ Below w.heap.size w w'
theorem cost_pre {s : List Int} {k : Nat} {x : Int} (hx : s[k]? = some x) : costS (s.take k) + magI x ≤ costS s := by
  have hk : k < s.length := (List.getElem?_eq_some_iff.1 hx).1
  have h1 : s = s.take k ++ (x :: s.drop (k + 1)) := by
    have h2 := List.drop_eq_getElem_cons hk
    rw [List.getElem?_eq_getElem hk] at hx
    injection hx with hx
    rw [hx] at h2
    rw [← h2, List.take_append_drop]
  have h3 := costS_nn (s.drop (k + 1))
  have h4 : costS s = costS (s.take k) + (magI x + costS (s.drop (k + 1))) := by
    conv => lhs; rw [h1]
    rw [costS_app]
    rfl
  omega
set_option maxRecDepth 100000 in
set_option maxHeartbeats 4000000 in
theorem dmoves_any (n : Int) (es : List Edg) (oe : Option Addr) (c : Nat) (F : Foot) (w : World) (hs : SliceR edgR 3 F w oe es) (hc : es.length ≤ c) (hc2 : es.length ≤ 1000)
    (f : List Nat) (hU : Hid (gErr n es = 0 → Uf f (eL es))) (s : List Int) (os : Option Addr) (cs : Nat) (S : Foot) (hS : SliceR intR 1 S w os s) (hsc : s.length ≤ cs) (hsl : s.length ≤ 9223372036854775807) :
    Calls Tryz.prog 33 #[.agg #[.int .i64 n, .slice oe es.length c], .slice os s.length cs] w (MvsPost 81 w (movesR n es f s)) := by
  have hb0 := bnew (Below.refl w.heap.size w) (.cells #[.int .i64 n, .slice oe es.length c] 24)
  have HK := hide (dscripted_any n es oe c F _ (hs.below edgR_ok hb0) hc (by omega) f hU s os cs S (hS.below intR_ok hb0) hsc hsl)
  have HSS := hide hS
  have HB := hide hb0
  clear hs hS hb0
  go_enter Tryz.func33, Tryz.ntmps33
  go_wp2_with fail
  refine HK.out.mono ?_
  rintro e w2 ⟨rfl, hb2⟩
  have HB2 := hide (below_then HB.out hb2)
  clear hb2
  by_cases hV : tErr n es f s = 0
  case neg =>
    have hR : Hid (movesR n es f s = ([], tErr n es f s)) := if_pos hV
    have hq : (tErr n es f s != 0) = true := by simpa using hV
    go_wp2_with fail
    go_ret2
    exact ⟨_, by rw [hR.out]; rfl, by rw [hR.out]; exact OwnS.nil _ _ _ _ _ _, HB2.out⟩
  have hRR : Hid (movesR n es f s = if 4096 < costS s then ([], 12) else (mvFrom 0 s, 0)) := if_neg (fun h => h hV)
  obtain ⟨hn12, hsN0, hsB⟩ := dErr_len (tErr_d hV)
  have hs12 : s.length ≤ 12 := by omega
  have HSB := hide hsB
  have HCO := hide (cost_any s os cs S w2 (HSS.out.below intR_ok HB2.out) hsc (by omega) (fun k hk => by have := hsB k hk; omega))
  rw [hV]
  clear hV hsN0 hsB
  go_wp2_with fail
  refine HCO.out.mono ?_
  rintro e w3 ⟨rfl, hw3⟩
  subst hw3
  by_cases h4 : 4096 < costS s
  · have hR : Hid (movesR n es f s = ([], 12)) := by show _ = _; rw [hRR.out, if_pos h4]
    go_wp2_with fail
    go_ret2
    exact ⟨_, by rw [hR.out]; rfl, by rw [hR.out]; exact OwnS.nil _ _ _ _ _ _, HB2.out⟩
  have hR : Hid (movesR n es f s = (mvFrom 0 s, 0)) := by show _ = _; rw [hRR.out, if_neg h4]
  have HC4 := hide h4
  obtain ⟨C, hC⟩ : ∃ C, C = costS s := ⟨_, rfl⟩
  have HC : Hid (C = costS s) := hC
  rw [← hC] at h4 ⊢
  have hCn : 0 ≤ C := by rw [hC]; exact costS_nn s
  clear hRR HCO hC
  go_wp2_with fail
  go_loopg [7, 8, 9, 21] s.length (fun gm mv _ _ iv wx => ∃ k : Nat, k ≤ s.length ∧ gm = s.length - k ∧ iv = .int .i64 k ∧ Hid (OwnS dmvR 2 w.heap.size 81 Non wx mv (mvFrom 0 (s.take k))) ∧ Hid (Below w.heap.size w wx))
  case atStart => exact ⟨0, by omega, by omega, rfl, OwnS.nil _ _ _ _ _ _, HB2⟩
  case round =>
    obtain ⟨k, hk, hgm, rfl, HO, HBr⟩ := hrel
    have HGM := hide hgm
    clear hgm
    by_cases hlt : k < s.length
    · obtain ⟨x, hdr, hget, ix, b, off, hod, _, c0⟩ := (HSS.out.below intR_ok HBr.out).int_at hlt
      subst hod
      have hxb := HSB.out x (List.mem_of_getElem? hget)
      have HTK := hide (mvFrom_take hget)
      obtain ⟨m, hm⟩ : ∃ m : Nat, m = (magI x).toNat := ⟨_, rfl⟩
      have hmx : magI x = (m : Int) := by have := magI_nn x; omega
      have hpre := cost_pre hget
      rw [hmx, ← HC.out] at hpre
      have hp0 := mvFrom_len (s.take k) 0
      obtain ⟨X, hX⟩ : ∃ X, X = mvFrom 0 (s.take k) := ⟨_, rfl⟩
      rw [← hX] at HO hp0 HTK
      rw [← hm] at HTK
      have hXl : X.length + m ≤ 4096 := by have := HC4.out; rw [← HC.out] at this; omega
      have HMG : Hid (∀ W, Calls Tryz.prog 73 #[.int .i64 x] W fun e w' => e = .returned (.int .i64 (m : Int)) ∧ W = w') := fun W => by
        have h5 := magnitude_any x (by omega) W
        rw [hmx] at h5
        exact h5
      obtain ⟨bb, hbb⟩ : ∃ bb, bb = decide (x < 0) := ⟨_, rfl⟩
      have hq : decide (x < 0) = bb := hbb.symm
      rw [← hbb] at HTK
      have HL1 : Hid (SliceR dmvR 2 All (wr.alloc (.cells #[.int .i64 k, .bool bb] 81)) (some ⟨wr.heap.size, 0, none⟩) [⟨(k : Int), bb⟩]) := lit1 (F := All) dmvR_ok wr 81 [.int .i64 k, .bool bb] ⟨(k : Int), bb⟩ ⟨rfl, by show I64 (k : Int); unfold I64; omega⟩ (fun _ _ => trivial) trivial
      have hmb : m ≤ 4096 := by omega
      clear hdr hget hm hmx hp0 hX hbb hpre
      go_wp2_with (first
        | (go_at_call 73; refine (HMG.out _).mono ?_; rintro e w5 ⟨rfl, rfl⟩)
        | (go_at_call 72; refine (repeatM_any ⟨(k : Int), bb⟩ m 1 (some ⟨wr.heap.size, 0, none⟩) All _ hmb HL1.out).mono ?_; rintro e w6 ⟨v6, rfl, ho6, hb6⟩; obtain ⟨o6, c6, hv6, hc6, hs6⟩ := ho6.slice dmvR_ok; rw [List.length_replicate] at hv6 hc6; subst hv6; have HS6 := hide hs6; have HB6 := hide hb6; clear ho6 hs6 hb6 hc6)
        | (at_builtin; refine wpList_append_rep rfl (.tmp 26) (.tmp 34) 61 rfl w.heap.size 81 _ 2 16 Tryz.underlying61 dmvInfoN rfl (by decide) dmvR_ok Non _ _ X (by simp [Act.eval, Act.put]) ((HO.out.new dmvR_ok _).below dmvR_ok HB6.out) o6 c6 (List.replicate m ⟨(k : Int), bb⟩) (by rw [List.length_replicate]; simp [Act.eval, Act.put]) HS6.out (fun _ _ h => h) (fun _ h => h.elim) (by rw [List.length_replicate]; omega) (by rw [List.length_replicate]; omega) (by have := HB6.out.size; have := HBr.out.size; simp only [World.size_alloc] at *; omega) ?_; intro v' w8 ho8 hb8 hg8; have HO8 := hide ho8; have HB8 := hide hb8; clear ho8 hb8 hg8))
      go_roundg (s.length - (k + 1))
      case rel => exact ⟨k + 1, by omega, rfl, by go_num, by rw [HTK.out]; exact HO8.out, (HBr.out.alloc HBr.out.size _).trans ((HB6.out.mono (by have := HBr.out.size; simp only [World.size_alloc]; omega)).trans HB8.out)⟩
      case measure => rw [HGM.out]; omega
    · have hke : s.take k = s := List.take_of_length_le (by omega)
      have HO2 : Hid (OwnS dmvR 2 w.heap.size 81 Non wr u7 (mvFrom 0 s)) := by
        have h5 := HO.out
        rw [hke] at h5
        exact h5
      clear hke HO
      go_wp2_with fail
      go_ret2
      exact ⟨_, by rw [hR.out]; rfl, by rw [hR.out]; exact HO2.out, HBr.out⟩
end Go.Proofs.YtpgopmmobbemcaaGreat

set_option linter.unusedVariables false
set_option linter.unusedSimpArgs false
set_option linter.unnecessarySimpa false
namespace Go.Proofs.YtpgopmmobbemcaaGreat
open Go.RowKit

def verifyR (n : Int) (es : List Edg) (f : List Nat) (d s : List Int) : Int × Int :=
  if tErr n es f d ≠ 0 then (0, tErr n es f d) else if fErr n es s ≠ 0 then (0, fErr n es s) else if 0 < oweS es d s then (0, 16) else (costS s, 0)
def Int2Post (w : World) (r : Int × Int) (e : Ending) (w' : World) : Prop := e = .returned (.tuple #[.int .i64 r.1, .int .i64 r.2]) ∧ Below w.heap.size w w'
end Go.Proofs.YtpgopmmobbemcaaGreat

set_option linter.unusedVariables false
set_option linter.unusedSimpArgs false
set_option linter.unnecessarySimpa false
namespace Go.Proofs.YtpgopmmobbemcaaGreat
open Go.RowKit

def applyR (n : Int) (es : List Edg) (d s : List Int) : List Int × Int :=
  if fErr n es d ≠ 0 then ([], fErr n es d) else if fErr n es s ≠ 0 then ([], fErr n es s) else if outB (movedL s es d) = true then ([], 11) else (movedL s es d, 0)
def DivPost (w : World) (r : List Int × Int) (e : Ending) (w' : World) : Prop :=
  ∃ oa c, e = .returned (.tuple #[.slice oa r.1.length c, .int .i64 r.2]) ∧ r.1.length ≤ c ∧ SliceR intR 1 All w' oa r.1 ∧ Below w.heap.size w w'
theorem DivPost.none {w w' : World} {x : Int} (h : Below w.heap.size w w') : DivPost w ([], x) (.returned (.tuple #[.slice none 0 0, .int .i64 x])) w' := ⟨Option.none, 0, rfl, by simp, fun i x hx => by simp at hx, h⟩
theorem fErr_parts {n : Int} {es : List Edg} {d : List Int} (h : fErr n es d = 0) : gErr n es = 0 ∧ dErr n d = 0 := by
  unfold fErr at h
  split at h
  · rename_i hg; exact ⟨hg, h⟩
  · rename_i hg; exact absurd h hg
set_option maxRecDepth 100000 in
set_option maxHeartbeats 4000000 in
theorem fapply_any (n : Int) (es : List Edg) (oe : Option Addr) (c : Nat) (F : Foot) (w : World) (hs : SliceR edgR 3 F w oe es) (hc : es.length ≤ c) (hc2 : es.length ≤ 1000)
    (d : List Int) (od : Option Addr) (cd : Nat) (G : Foot) (hd : SliceR intR 1 G w od d) (hdc : d.length ≤ cd) (hdl : d.length ≤ 9223372036854775807)
    (s : List Int) (os : Option Addr) (cs : Nat) (S : Foot) (hS : SliceR intR 1 S w os s) (hsc : s.length ≤ cs) (hsl : s.length ≤ 9223372036854775807) :
    Calls Tryz.prog 39 #[.agg #[.int .i64 n, .slice oe es.length c], .slice od d.length cd, .slice os s.length cs] w (DivPost w (applyR n es d s)) := by
  have hb0 := bnew (Below.refl w.heap.size w) (.cells #[.int .i64 n, .slice oe es.length c] 24)
  have bxx := Box.new w [.int .i64 n, .slice oe es.length c] 24
  have HK := hide (fgivenG_any n es oe c F _ (hs.below edgR_ok hb0) hc (by omega) d od cd G (hd.below intR_ok hb0) hdc hdl)
  have HD := hide hd
  have HS := hide hs
  have HSS := hide hS
  have HB := hide hb0
  have HX := hide bxx
  clear hs hd hS hb0 bxx
  go_enter Tryz.func39, Tryz.ntmps39
  go_wp2_with fail
  refine HK.out.mono ?_
  rintro e w2 ⟨rfl, hb2⟩
  have HB2 := hide (below_then HB.out hb2)
  have HX2 := hide (HX.out.below hb2)
  have y0 := HX2.out.cell 0
  have y1 := HX2.out.cell 1
  simp only [List.getElem?_cons_zero, List.getElem?_cons_succ] at y0 y1
  clear hb2
  by_cases hV : fErr n es d = 0
  case neg =>
    have hR : Hid (applyR n es d s = ([], fErr n es d)) := if_pos hV
    have hq : (fErr n es d != 0) = true := by simpa using hV
    go_wp2_with fail
    go_ret2
    rw [hR.out]
    exact DivPost.none HB2.out
  have HFC := hide (fcheckG_any n es oe c F w2 (HS.out.below edgR_ok HB2.out) hc (by omega) s os cs S (HSS.out.below intR_ok HB2.out) hsc hsl)
  have HRR : Hid (applyR n es d s = if fErr n es s ≠ 0 then ([], fErr n es s) else if outB (movedL s es d) = true then ([], 11) else (movedL s es d, 0)) := if_neg (fun h => h hV)
  obtain ⟨hg, hdd⟩ := fErr_parts hV
  rw [hV]
  clear hV
  go_wp2_with fail
  refine HFC.out.mono ?_
  rintro e w3 ⟨rfl, hb3⟩
  have HB3 := hide (below_then HB2.out hb3)
  have HX3 := hide (HX2.out.below hb3)
  clear hb3 y0 y1
  have y0 := HX3.out.cell 0
  have y1 := HX3.out.cell 1
  simp only [List.getElem?_cons_zero, List.getElem?_cons_succ] at y0 y1
  by_cases hF : fErr n es s = 0
  case neg =>
    have hR : Hid (applyR n es d s = ([], fErr n es s)) := by show _ = _; rw [HRR.out, if_pos hF]
    have hq : (fErr n es s != 0) = true := by simpa using hF
    clear hg hdd
    go_wp2_with fail
    go_ret2
    rw [hR.out]
    exact DivPost.none HB3.out
  have hR : Hid (applyR n es d s = if outB (movedL s es d) = true then ([], 11) else (movedL s es d, 0)) := by show _ = _; rw [HRR.out, if_neg (fun h => h hF)]
  obtain ⟨_, hsd⟩ := fErr_parts hF
  obtain ⟨hn12, hdn, hdb⟩ := dErr_len hdd
  obtain ⟨_, hsn, hsb⟩ := dErr_len hsd
  have HMV := hide (fmoved_any n es oe c F w3 (HS.out.below edgR_ok HB3.out) hc hc2 d od cd G (HD.out.below intR_ok HB3.out) hdc (by omega) s os cs S (HSS.out.below intR_ok HB3.out) (by omega) hg hdn (fun y hy => by have := hsb y hy; omega) hdb)
  have HML : Hid ((movedL s es d).length = d.length) := moved_len _ _ _
  have HMI : Hid (∀ y ∈ movedL s es d, I64 y) := fun y hy => by
    have hve : ∀ x ∈ es, (0 ≤ x.m ∧ x.m ≤ 50) ∧ x.a.toNat < d.length ∧ x.b.toNat < d.length := fun x hx => by
      have := (gErr_zero hg).2.1 x hx
      omega
    have h1 := moved_bound (s := s) (fun y hy => by have := hsb y hy; omega) hve hdb es.length (by omega) y (by rw [List.take_length]; exact hy)
    unfold I64
    omega
  have hdl9 : d.length ≤ 12 := by omega
  rw [hF]
  clear hF hg hdd hsd hdn hsn hsb hdb HRR
  go_wp2_with fail
  refine HMV.out.mono ?_
  rintro e w4 ⟨g, cap, rest, rfl, hcap, hgl, hr, hb4⟩
  have HB4 := hide (below_then HB3.out hb4)
  have HSM : Hid (SliceR intR 1 All w4 (some ⟨g, 0, none⟩) (movedL s es d)) := hr.ints (fun y hy => HMI.out y hy) trivial
  have HBO : Hid (Calls Tryz.prog 80 #[.slice (some ⟨g, 0, none⟩) d.length cap] w4 fun e w' => e = .returned (if outB (movedL s es d) = true then .tuple #[.slice none 0 0, .int .i64 11] else .tuple #[.slice (some ⟨g, 0, none⟩) d.length cap, .int .i64 0]) ∧ w4 = w') := by
    have h5 := bounded_any (movedL s es d) (some ⟨g, 0, none⟩) cap All w4 HSM.out (by rw [HML.out]; exact hcap) (by rw [HML.out]; omega)
    rw [HML.out] at h5
    exact h5
  clear hr hb4 y0 y1 hgl
  by_cases ho : outB (movedL s es d) = true
  · have hR2 : Hid (applyR n es d s = ([], 11)) := by show _ = _; rw [hR.out, if_pos ho]
    rw [if_pos ho] at HBO
    clear ho
    go_wp2_with fail
    refine HBO.out.mono ?_
    rintro e w5 ⟨rfl, hw5⟩
    subst hw5
    go_wp2_with fail
    go_ret2
    rw [hR2.out]
    exact DivPost.none HB4.out
  · have hR2 : Hid (applyR n es d s = (movedL s es d, 0)) := by show _ = _; rw [hR.out, if_neg ho]
    rw [if_neg ho] at HBO
    clear ho
    go_wp2_with fail
    refine HBO.out.mono ?_
    rintro e w5 ⟨rfl, hw5⟩
    subst hw5
    go_wp2_with fail
    go_ret2
    rw [hR2.out]
    exact ⟨_, cap, by simp only [HML.out]; rfl, by simp only [HML.out]; exact hcap, HSM.out, HB4.out⟩
end Go.Proofs.YtpgopmmobbemcaaGreat

set_option linter.unusedVariables false
set_option linter.unusedSimpArgs false
namespace Go.Proofs.YtpgopmmobbemcaaGreat
open Go.RowKit

end Go.Proofs.YtpgopmmobbemcaaGreat

set_option linter.unusedVariables false
set_option linter.unusedSimpArgs false
set_option linter.unnecessarySimpa false
namespace Go.Proofs.YtpgopmmobbemcaaGreat
open Go.RowKit

/-- The valences. -/
def valsL (es : List Edg) (n : Nat) : Nat → List Int
  | 0 => []
  | k + 1 => valsL es n k ++ [valU es (k : Int) n]
end Go.Proofs.YtpgopmmobbemcaaGreat

set_option linter.unusedVariables false
set_option linter.unusedSimpArgs false
set_option linter.unnecessarySimpa false
namespace Go.Proofs.YtpgopmmobbemcaaGreat
open Go.RowKit

/-- The table up to row v, column w. -/
def tabP (es : List Edg) (n v w : Nat) : List (List Int) := (List.range n).map fun i => lst n fun j => if (i < v ∨ (i = v ∧ j < w)) ∧ i ≠ j then betw es i j else 0
theorem RTab.rebase {B B' : Nat} {tw : Value} {rs : List Rw} {W : World} (h : RTab B tw rs W) (hb : B' ≤ B) : RTab B' tw rs W :=
  ⟨h.tab.rebase hb, fun r hr => ⟨(h.row r hr).1, by have := (h.row r hr).2.1; omega, (h.row r hr).2.2⟩, h.inj⟩
end Go.Proofs.YtpgopmmobbemcaaGreat

set_option linter.unusedVariables false
set_option linter.unusedSimpArgs false
namespace Go.Proofs.YtpgopmmobbemcaaGreat
open Go.RowKit

end Go.Proofs.YtpgopmmobbemcaaGreat

set_option linter.unusedVariables false
set_option linter.unusedSimpArgs false
namespace Go.Proofs.YtpgopmmobbemcaaGreat
open Go.RowKit

section
variable {P : Program} {Q : Exit → Act → World → Prop} {md : Region.Mode} {S : World → Prop}

/-- What is left to do behind the others. -/
def TailQ (P : Program) (ops : Array Oper) (Q : Exit → Act → World → Prop) (last : Oper) : Exit → Act → World → Prop
  | .normal, a, w => wpList P ops Q [last] a w
  | e, a, w => Q e a w
/-- Each operation waits only for earlier ones; each but the last is waited for; no guards. -/
def tailOk (md : Region.Mode) (l : List Oper) (last : Oper) : Bool :=
  ((List.range (l.length + 1)).all fun i => (preOf md (l ++ [last]).toArray i).all fun p => decide (p < i)) &&
  ((List.range l.length).all fun j => (List.range (l.length + 1)).any fun k => decide (j < k) && (preOf md (l ++ [last]).toArray k).contains j) &&
  (l.all fun o => o.guard.isNone) && last.guard.isNone
end
end Go.Proofs.YtpgopmmobbemcaaGreat

set_option linter.unusedVariables false
set_option linter.unusedSimpArgs false
set_option linter.unnecessarySimpa false
namespace Go.Proofs.YtpgopmmobbemcaaGreat
open Go.RowKit

/-- What reaches v from the first u vertices. -/
def mvU (es : List Edg) (s : List Int) (v : Nat) : Nat → Int
  | 0 => 0
  | u + 1 => mvU es s v u + if v = u then 0 else betw es v u * (s.getD u 0 - s.getD v 0)
/-- The divisor under way: row v, up to u. -/
def mvP (es : List Edg) (s : List Int) (D : Nat → Int) (N v u : Nat) : Nat → Int := fun i => if i < v then D i + mvU es s i N else if i = v then D i + mvU es s i u else D i
end Go.Proofs.YtpgopmmobbemcaaGreat

set_option linter.unusedVariables false
set_option linter.unusedSimpArgs false
namespace Go.Proofs.YtpgopmmobbemcaaGreat
open Go.RowKit

def paidL (d : List Int) : Bool := d.all fun k => decide (0 ≤ k)
/-- The first vertex in debt, or -1. -/
def debtorL : List Int → Nat → Int
  | [], _ => -1
  | k :: r, i => if k < 0 then i else debtorL r (i + 1)
def totL : List Int → Int
  | [] => 0
  | k :: r => k + totL r
end Go.Proofs.YtpgopmmobbemcaaGreat

set_option linter.unusedVariables false
set_option linter.unusedSimpArgs false
set_option linter.unnecessarySimpa false
namespace Go.Proofs.YtpgopmmobbemcaaGreat
open Go.RowKit

end Go.Proofs.YtpgopmmobbemcaaGreat

/-
  The reference's counts on graphs: Between, Valence, Degree, Size, Half, At, Holds.
  The reference's Size, Half, At, Valence, Degree.
  The reference's error of the list of a vertex: around.
  The degree is the number of half-edges: plain Lean.
  The reference's Reached: the vertices that are connected with one.
  The reference's Parts, Connected, Joined.
  The reference's Connected and Joined.
  The reference's Check of ribbon graphs, and ribbon.Check.
  Rotor configurations: Check of the program and of the reference.
  slices.Clone of ints.
  A board: the rotors with the vertices to which the half-edges lead; a step.
-/
import Derived.Test.YtopldbnlehjlpaaAl2
import Derived.BigQuiet
import Derived.Deep.RegionHeld3
import Derived.RangeFuncBox

set_option linter.unusedVariables false
set_option linter.unusedSimpArgs false
set_option linter.unnecessarySimpa false
namespace Go.Proofs.Ytopldbnlehjlpaa
open Go.RowKit

set_option maxRecDepth 100000 in
set_option maxHeartbeats 4000000 in
theorem betw_any (n : Int) (es : List Edg) (oe : Option Addr) (c : Nat) (F : Foot) (w : World) (hs : SliceR edgR 3 F w oe es) (hc : es.length ≤ c) (hc2 : es.length ≤ 9223372036854775807) (a b : Int) :
    Calls Try.prog 33 #[.agg #[.int .i64 n, .slice oe es.length c], .int .i64 a, .int .i64 b] w (ErrPost w (betw es a b)) := by
  rcases Int.lt_trichotomy a b with hab | hab | hab
  · have hmin : min a b = a := by omega
    have hmax : max a b = b := by omega
    go_enter Try.func33, Try.ntmps33
    go_wp2_with fail
    have hb0 := box_refl w (.cells #[.int .i64 n, .slice oe es.length c] 24)
    go_loopw [7] (fun iv wr => ∃ k : Nat, k ≤ es.length ∧ iv = .int .i64 k ∧ Hid (betw es a b = betw (es.drop k) a b) ∧ Below (w.heap.size + 1) (w.alloc (.cells #[.int .i64 n, .slice oe es.length c] 24)) wr) (fun iv _ => es.length - (intOf iv).toNat)
    case atStart => exact ⟨0, by omega, rfl, rfl, hb0⟩
    case round =>
      obtain ⟨k, hk, rfl, HB, hb⟩ := hrel
      have d1 := box_cell hb 1
      simp at d1
      clear hb0
      by_cases hlt : k < es.length
      · obtain ⟨x, y, m, hd, hget, _, _, _, bl, off, hoa, _, c0, c1, c2⟩ := (hs.below edgR_ok (below_box hb)).edg_at hlt
        subst hoa
        have hbl := World.block_lt_of_cell? _ _ c0
        simp only at hbl
        have hsz := box_lt hb
        have HS := HB.out
        rw [hd, betw] at HS
        simp only [hmin, hmax] at HS
        have HS := hide HS
        clear hd hget
        by_cases hx : x = a
        · by_cases hy : y = b
          · have HR : Hid (betw es a b = m) := by show _ = _; rw [HS.out, if_pos ⟨hx, hy⟩]
            have q1 : (x == a) = true := by simp [hx]
            have q2 : (y == b) = true := by simp [hy]
            have HX := hide (And.intro hx hy)
            clear hx hy
            go_wp2_with fail
            go_ret
            exact ⟨ret_int HR.out.symm, below_box (box_new hb (by simp) _)⟩
          · have HR : Hid (betw es a b = betw (es.drop (k + 1)) a b) := by show _ = _; rw [HS.out, if_neg (fun h => hy h.2)]
            have q1 : (x == a) = true := by simp [hx]
            have q2 : (y == b) = false := by simp [hy]
            have HX := hide (And.intro hx hy)
            clear hx hy
            go_wp2_with fail
            go_roundw
            case rel => exact ⟨k + 1, by omega, by go_num, HR, box_new hb (by simp) _⟩
            case measure => simp [intOf]; omega
        · have HR : Hid (betw es a b = betw (es.drop (k + 1)) a b) := by show _ = _; rw [HS.out, if_neg (fun h => hx h.1)]
          have q1 : (x == a) = false := by simp [hx]
          have HX := hide hx
          clear hx
          go_wp2_with fail
          go_roundw
          case rel => exact ⟨k + 1, by omega, by go_num, HR, box_new hb (by simp) _⟩
          case measure => simp [intOf]; omega
      · have HR : Hid (betw es a b = 0) := by
          show _ = _
          rw [HB.out, List.drop_of_length_le (by omega)]
          rfl
        go_wp2_with fail
        go_ret
        exact ⟨ret_int HR.out.symm, below_box hb⟩
  · subst hab
    have hmin : min a a = a := by omega
    have hmax : max a a = a := by omega
    go_enter Try.func33, Try.ntmps33
    go_wp2_with fail
    have hb0 := box_refl w (.cells #[.int .i64 n, .slice oe es.length c] 24)
    go_loopw [7] (fun iv wr => ∃ k : Nat, k ≤ es.length ∧ iv = .int .i64 k ∧ Hid (betw es a a = betw (es.drop k) a a) ∧ Below (w.heap.size + 1) (w.alloc (.cells #[.int .i64 n, .slice oe es.length c] 24)) wr) (fun iv _ => es.length - (intOf iv).toNat)
    case atStart => exact ⟨0, by omega, rfl, rfl, hb0⟩
    case round =>
      obtain ⟨k, hk, rfl, HB, hb⟩ := hrel
      have d1 := box_cell hb 1
      simp at d1
      clear hb0
      by_cases hlt : k < es.length
      · obtain ⟨x, y, m, hd, hget, _, _, _, bl, off, hoa, _, c0, c1, c2⟩ := (hs.below edgR_ok (below_box hb)).edg_at hlt
        subst hoa
        have hbl := World.block_lt_of_cell? _ _ c0
        simp only at hbl
        have hsz := box_lt hb
        have HS := HB.out
        rw [hd, betw] at HS
        simp only [hmin, hmax] at HS
        have HS := hide HS
        clear hd hget
        by_cases hx : x = a
        · by_cases hy : y = a
          · have HR : Hid (betw es a a = m) := by show _ = _; rw [HS.out, if_pos ⟨hx, hy⟩]
            have q1 : (x == a) = true := by simp [hx]
            have q2 : (y == a) = true := by simp [hy]
            have HX := hide (And.intro hx hy)
            clear hx hy
            go_wp2_with fail
            go_ret
            exact ⟨ret_int HR.out.symm, below_box (box_new hb (by simp) _)⟩
          · have HR : Hid (betw es a a = betw (es.drop (k + 1)) a a) := by show _ = _; rw [HS.out, if_neg (fun h => hy h.2)]
            have q1 : (x == a) = true := by simp [hx]
            have q2 : (y == a) = false := by simp [hy]
            have HX := hide (And.intro hx hy)
            clear hx hy
            go_wp2_with fail
            go_roundw
            case rel => exact ⟨k + 1, by omega, by go_num, HR, box_new hb (by simp) _⟩
            case measure => simp [intOf]; omega
        · have HR : Hid (betw es a a = betw (es.drop (k + 1)) a a) := by show _ = _; rw [HS.out, if_neg (fun h => hx h.1)]
          have q1 : (x == a) = false := by simp [hx]
          have HX := hide hx
          clear hx
          go_wp2_with fail
          go_roundw
          case rel => exact ⟨k + 1, by omega, by go_num, HR, box_new hb (by simp) _⟩
          case measure => simp [intOf]; omega
      · have HR : Hid (betw es a a = 0) := by
          show _ = _
          rw [HB.out, List.drop_of_length_le (by omega)]
          rfl
        go_wp2_with fail
        go_ret
        exact ⟨ret_int HR.out.symm, below_box hb⟩
  · have hmin : min a b = b := by omega
    have hmax : max a b = a := by omega
    go_enter Try.func33, Try.ntmps33
    go_wp2_with fail
    have hb0 := box_refl w (.cells #[.int .i64 n, .slice oe es.length c] 24)
    go_loopw [7] (fun iv wr => ∃ k : Nat, k ≤ es.length ∧ iv = .int .i64 k ∧ Hid (betw es a b = betw (es.drop k) a b) ∧ Below (w.heap.size + 1) (w.alloc (.cells #[.int .i64 n, .slice oe es.length c] 24)) wr) (fun iv _ => es.length - (intOf iv).toNat)
    case atStart => exact ⟨0, by omega, rfl, rfl, hb0⟩
    case round =>
      obtain ⟨k, hk, rfl, HB, hb⟩ := hrel
      have d1 := box_cell hb 1
      simp at d1
      clear hb0
      by_cases hlt : k < es.length
      · obtain ⟨x, y, m, hd, hget, _, _, _, bl, off, hoa, _, c0, c1, c2⟩ := (hs.below edgR_ok (below_box hb)).edg_at hlt
        subst hoa
        have hbl := World.block_lt_of_cell? _ _ c0
        simp only at hbl
        have hsz := box_lt hb
        have HS := HB.out
        rw [hd, betw] at HS
        simp only [hmin, hmax] at HS
        have HS := hide HS
        clear hd hget
        by_cases hx : x = b
        · by_cases hy : y = a
          · have HR : Hid (betw es a b = m) := by show _ = _; rw [HS.out, if_pos ⟨hx, hy⟩]
            have q1 : (x == b) = true := by simp [hx]
            have q2 : (y == a) = true := by simp [hy]
            have HX := hide (And.intro hx hy)
            clear hx hy
            go_wp2_with fail
            go_ret
            exact ⟨ret_int HR.out.symm, below_box (box_new hb (by simp) _)⟩
          · have HR : Hid (betw es a b = betw (es.drop (k + 1)) a b) := by show _ = _; rw [HS.out, if_neg (fun h => hy h.2)]
            have q1 : (x == b) = true := by simp [hx]
            have q2 : (y == a) = false := by simp [hy]
            have HX := hide (And.intro hx hy)
            clear hx hy
            go_wp2_with fail
            go_roundw
            case rel => exact ⟨k + 1, by omega, by go_num, HR, box_new hb (by simp) _⟩
            case measure => simp [intOf]; omega
        · have HR : Hid (betw es a b = betw (es.drop (k + 1)) a b) := by show _ = _; rw [HS.out, if_neg (fun h => hx h.1)]
          have q1 : (x == b) = false := by simp [hx]
          have HX := hide hx
          clear hx
          go_wp2_with fail
          go_roundw
          case rel => exact ⟨k + 1, by omega, by go_num, HR, box_new hb (by simp) _⟩
          case measure => simp [intOf]; omega
      · have HR : Hid (betw es a b = 0) := by
          show _ = _
          rw [HB.out, List.drop_of_length_le (by omega)]
          rfl
        go_wp2_with fail
        go_ret
        exact ⟨ret_int HR.out.symm, below_box hb⟩

theorem holds_any (x : Int) (l : List Int) (oa : Option Addr) (c : Nat) (F : Foot) (w : World) (hs : SliceR intR 1 F w oa l) (hc : l.length ≤ c) (hc2 : l.length ≤ 9223372036854775807) :
    Calls Try.prog 94 #[.slice oa l.length c, .int .i64 x] w fun e w' => e = .returned (.bool (decide (x ∈ l))) ∧ w = w' := by
  go_enter Try.func94, Try.ntmps94
  go_wp2_with fail
  go_loop [5] (fun i => ∃ k : Nat, k ≤ l.length ∧ i = .int .i64 k ∧ Hid (x ∉ l.take k)) (fun i => l.length - (intOf i).toNat)
  case atStart => exact ⟨0, by omega, rfl, by show _ ∉ _; simp⟩
  case round =>
    obtain ⟨k, hk, rfl, HE⟩ := hrel
    by_cases hlt : k < l.length
    · obtain ⟨y, hd, hget, _, b, off, hoa, _, c0⟩ := hs.int_at hlt
      subst hoa
      by_cases hxy : x = y
      · have hm : Hid (decide (x ∈ l) = true) := by show _ = _; simp; rw [hxy]; exact List.mem_of_getElem? hget
        have hq2 : (y == x) = true := by simp [hxy]
        have HXY := hide hxy
        clear hd hget hxy
        go_wp2_with fail
        go_ret
        exact ⟨ret_bool hm.out.symm, rfl⟩
      · have hm : Hid (x ∉ l.take (k + 1)) := by
          show _ ∉ _
          rw [List.take_add_one, hget]
          have := HE.out
          simp [hxy]
          exact this
        have hq2 : (y == x) = false := by simp; exact fun h => hxy h.symm
        have HXY := hide hxy
        clear hd hget hxy
        go_wp2_with fail
        go_round
        case rel => exact ⟨k + 1, by omega, by go_num, hm⟩
        case measure => simp [intOf]; omega
    · have hm : Hid (decide (x ∈ l) = false) := by
        have := HE.out
        rw [List.take_of_length_le (by omega)] at this
        show _ = _
        simp [this]
      go_wp2_with fail
      go_ret
      exact ⟨ret_bool hm.out.symm, rfl⟩

end Go.Proofs.Ytopldbnlehjlpaa

set_option linter.unusedVariables false
set_option linter.unusedSimpArgs false
set_option linter.unnecessarySimpa false
namespace Go.Proofs.Ytopldbnlehjlpaa
open Go.RowKit

set_option maxRecDepth 100000 in
theorem rsize_any (n : Int) (es : List Edg) (oe : Option Addr) (c : Nat) (F : Foot) (w : World) (hs : SliceR edgR 3 F w oe es) (hc : es.length ≤ c) (hc2 : es.length ≤ 1000) (hm : Hid (∀ x ∈ es, x.m ≤ 50)) :
    Calls Try.prog 101 #[.agg #[.int .i64 n, .slice oe es.length c]] w (ErrPost w ((endsL es).length : Nat)) := by
  go_enter Try.func101, Try.ntmps101
  go_wp2_with fail
  have hb0 := box_refl w (.cells #[.int .i64 n, .slice oe es.length c] 24)
  refine (rgends_any n es oe c F _ (hs.below edgR_ok (below_box hb0)) hc hc2 hm).mono ?_
  rintro e w2 ⟨v, rfl, ho, hb2⟩
  obtain ⟨ov, cv, rfl, _, _⟩ := ho.slice prR_ok
  have hx := below_box (hb2.mono (B' := w.heap.size + 1) (by simp))
  clear ho hb2
  go_wp2_with fail
  go_ret
  exact ⟨rfl, hx⟩

set_option maxRecDepth 100000 in
theorem rhalf_any (n : Int) (es : List Edg) (oe : Option Addr) (c : Nat) (F : Foot) (w : World) (hs : SliceR edgR 3 F w oe es) (hc : es.length ≤ c) (hc2 : es.length ≤ 1000) (hm : Hid (∀ x ∈ es, x.m ≤ 50)) :
    Calls Try.prog 92 #[.agg #[.int .i64 n, .slice oe es.length c]] w (ErrPost w (2 * (endsL es).length : Nat)) := by
  have hcap : (endsL es).length ≤ 50000 := by have := endsL_len hm.out; omega
  go_enter Try.func92, Try.ntmps92
  go_wp2_with fail
  have hb0 := box_refl w (.cells #[.int .i64 n, .slice oe es.length c] 24)
  refine (rsize_any n es oe c F _ (hs.below edgR_ok (below_box hb0)) hc hc2 hm).mono ?_
  rintro e w2 ⟨rfl, hb2⟩
  have hx := below_box (hb2.mono (B' := w.heap.size + 1) (by simp))
  clear hb2
  go_wp2_with fail
  go_ret
  exact ⟨by go_num, hx⟩

set_option maxRecDepth 100000 in
set_option maxHeartbeats 1000000 in
theorem rat_any (n : Int) (es : List Edg) (oe : Option Addr) (c : Nat) (F : Foot) (w : World) (hs : SliceR edgR 3 F w oe es) (hc : es.length ≤ c) (hc2 : es.length ≤ 1000) (hm : Hid (∀ x ∈ es, x.m ≤ 50))
    (h : Nat) (hh : h < 2 * (endsL es).length) : Calls Try.prog 93 #[.agg #[.int .i64 n, .slice oe es.length c], .int .i64 h] w (ErrPost w (hv (endsL es) h)) := by
  have hcap : (endsL es).length ≤ 50000 := by have := endsL_len hm.out; omega
  go_enter Try.func93, Try.ntmps93
  go_wp2_with fail
  have hb0 := box_refl w (.cells #[.int .i64 n, .slice oe es.length c] 24)
  refine (rgends_any n es oe c F _ (hs.below edgR_ok (below_box hb0)) hc hc2 hm).mono ?_
  rintro e w2 ⟨v, rfl, ho, hb2⟩
  obtain ⟨ov, cv, rfl, _, hsl⟩ := ho.slice prR_ok
  have hx := below_box (hb2.mono (B' := w.heap.size + 1) (by simp))
  clear ho hb2 hb0
  generalize endsL es = l at *
  obtain ⟨q, hq⟩ : ∃ q, q = h / 2 := ⟨_, rfl⟩
  have hq1 : ((h : Int)).tdiv 2 = (q : Int) := by rw [Int.tdiv_eq_ediv_of_nonneg (by omega)]; omega
  have hql : q < l.length := by omega
  have hwq : wrap64 (q : Int) = (q : Int) := by unfold wrap64; omega
  obtain ⟨a, b, hd, hget, _, _, bl, off, hoa, _, c0, c1⟩ := hsl.pr_at (i := q) (by omega)
  subst hoa
  have hgd : l.getD q (0, 0) = (a, b) := by rw [List.getD_eq_getElem?_getD, hget]; rfl
  by_cases hr : h % 2 = 0
  · have HR : Hid (hv l h = a) := by show _ = _; rw [hv, if_pos hr, ← hq, hgd]
    have hr1 : ((h : Int)).tmod 2 = 0 := by rw [Int.tmod_eq_emod_of_nonneg (by omega)]; omega
    clear hd hget hgd hq hr
    go_wp2_with fail
    go_ret
    exact ⟨ret_int HR.out.symm, hx⟩
  · have HR : Hid (hv l h = b) := by show _ = _; rw [hv, if_neg hr, ← hq, hgd]
    have hr1 : ((h : Int)).tmod 2 = 1 := by rw [Int.tmod_eq_emod_of_nonneg (by omega)]; omega
    clear hd hget hgd hq hr
    go_wp2_with fail
    go_ret
    exact ⟨ret_int HR.out.symm, hx⟩

/-- The edges from the vertices below u to v. -/
def valU (es : List Edg) (v : Int) : Nat → Int
  | 0 => 0
  | u + 1 => valU es v u + (if (u : Int) = v then 0 else betw es u v)
theorem betw_range {es : List Edg} (h : ∀ x ∈ es, 0 ≤ x.m ∧ x.m ≤ 50) (a b : Int) : 0 ≤ betw es a b ∧ betw es a b ≤ 50 := by
  induction es with
  | nil => simp [betw]
  | cons x r ih =>
    unfold betw
    split
    · exact h x (by simp)
    · exact ih fun y hy => h y (by simp [hy])
theorem valU_range {es : List Edg} (h : ∀ x ∈ es, 0 ≤ x.m ∧ x.m ≤ 50) (v : Int) : ∀ u, 0 ≤ valU es v u ∧ valU es v u ≤ 50 * u
  | 0 => by simp [valU]
  | u + 1 => by
    have h1 := valU_range h v u
    have h2 := betw_range h u v
    unfold valU
    split <;> omega

set_option maxRecDepth 100000 in
set_option maxHeartbeats 1000000 in
theorem val_any (n : Nat) (hn : n ≤ 12) (es : List Edg) (oe : Option Addr) (c : Nat) (F : Foot) (w : World) (hs : SliceR edgR 3 F w oe es) (hc : es.length ≤ c) (hc2 : es.length ≤ 1000) (hm : Hid (∀ x ∈ es, 0 ≤ x.m ∧ x.m ≤ 50)) (v : Int) :
    Calls Try.prog 65 #[.agg #[.int .i64 n, .slice oe es.length c], .int .i64 v] w (ErrPost w (valU es v n)) := by
  go_enter Try.func65, Try.ntmps65
  go_wp2_with fail
  have hb0 := box_refl w (.cells #[.int .i64 n, .slice oe es.length c] 24)
  go_loopw [5, 6] (fun sv iv wr => ∃ k : Nat, k ≤ n ∧ iv = .int .i64 k ∧ sv = .int .i64 (valU es v k) ∧ Below (w.heap.size + 1) (w.alloc (.cells #[.int .i64 n, .slice oe es.length c] 24)) wr) (fun _ iv _ => n - (intOf iv).toNat)
  case atStart => exact ⟨0, by omega, rfl, rfl, hb0⟩
  case round =>
    clear hb0
    obtain ⟨k, hk, rfl, rfl, hb⟩ := hrel
    have d0 := box_cell hb 0
    have d1 := box_cell hb 1
    simp at d0 d1
    have hvr := valU_range hm.out v k
    have hbr := betw_range hm.out k v
    by_cases hlt : k < n
    · by_cases hkv : (k : Int) = v
      · have HR : Hid (valU es v (k + 1) = valU es v k) := by show _ = _; rw [valU, if_pos hkv, Int.add_zero]
        have q1 : ((k : Int) != v) = false := by simp [hkv]
        have HK := hide hkv
        clear hkv
        generalize valU es v k = s at hvr HR
        go_wp2_with fail
        go_roundw
        case rel => exact ⟨k + 1, by omega, by go_num, by rw [HR.out], hb⟩
        case measure => simp [intOf]; omega
      · have HR : Hid (valU es v (k + 1) = valU es v k + betw es k v) := by show _ = _; rw [valU, if_neg hkv]
        have q1 : ((k : Int) != v) = true := by simp [hkv]
        have HK := hide hkv
        have hcall := betw_any n es oe c F wr (hs.below edgR_ok (below_box hb)) hc (by omega) k v
        clear hkv
        generalize valU es v k = s at hvr HR
        generalize betw es k v = t at hbr HR hcall
        go_wp2_with fail
        refine hcall.mono ?_
        rintro e w4 ⟨rfl, hb4⟩
        have HB := hide (hb.trans (hb4.mono (box_lt hb)))
        clear hb4
        go_wp2_with fail
        go_roundw
        case rel => exact ⟨k + 1, by omega, by go_num, by rw [HR.out], HB.out⟩
        case measure => simp [intOf]; omega
    · have : k = n := by omega
      subst this
      go_wp2_with fail
      go_ret
      exact ⟨rfl, below_box hb⟩

def degU (n : Nat) (es : List Edg) (v : Int) : Int := valU es v n + 2 * betw es v v
set_option maxRecDepth 100000 in
set_option maxHeartbeats 2000000 in
theorem deg_any (n : Nat) (hn : n ≤ 12) (es : List Edg) (oe : Option Addr) (c : Nat) (F : Foot) (w : World) (hs : SliceR edgR 3 F w oe es) (hc : es.length ≤ c) (hc2 : es.length ≤ 1000) (hm : Hid (∀ x ∈ es, 0 ≤ x.m ∧ x.m ≤ 50)) (v : Int) :
    Calls Try.prog 38 #[.agg #[.int .i64 n, .slice oe es.length c], .int .i64 v] w (ErrPost w (degU n es v)) := by
  have hvr := valU_range hm.out v n
  have hbr := betw_range hm.out v v
  go_enter Try.func38, Try.ntmps38
  go_wp2_with fail
  have hb := box_refl w (.cells #[.int .i64 n, .slice oe es.length c] 24)
  have d0 : (w.alloc (.cells #[.int .i64 n, .slice oe es.length c] 24)).cell? ⟨w.heap.size, 0, none⟩ = some (.int .i64 n) := box_cell hb 0
  have d1 : (w.alloc (.cells #[.int .i64 n, .slice oe es.length c] 24)).cell? ⟨w.heap.size, 1, none⟩ = some (.slice oe es.length c) := box_cell hb 1
  have HD : Hid (degU n es v = valU es v n + 2 * betw es v v) := rfl
  have hcv := fun W (h : SliceR edgR 3 F W oe es) => val_any n hn es oe c F W h hc hc2 hm v
  have hcb := fun W (h : SliceR edgR 3 F W oe es) => betw_any n es oe c F W h hc (by omega) v v
  generalize valU es v n = s at hvr HD hcv
  generalize betw es v v = t at hbr HD hcb
  go_region_held3 (fun w' => w'.cell? ⟨w.heap.size, 0, none⟩ = some (.int .i64 n) ∧ w'.cell? ⟨w.heap.size, 1, none⟩ = some (.slice oe es.length c)) (first | exact ⟨d0, d1⟩) (first
    | (go_at_call 65; refine (hcv _ (hs.below edgR_ok (below_box hb))).mono ?_; rintro e w5 ⟨rfl, h5⟩; have d0 := (h5.cell (World.block_lt_of_cell? _ _ d0)).trans d0; have d1 := (h5.cell (World.block_lt_of_cell? _ _ d1)).trans d1; have hb := box_then hb (by simp) h5)
    | (go_at_call 65; refine (hcv _ (hs.below edgR_ok (below_box hb.drew))).mono ?_; rintro e w5 ⟨rfl, h5⟩; have d0 := (h5.cell (World.block_lt_of_cell? _ _ d0)).trans d0; have d1 := (h5.cell (World.block_lt_of_cell? _ _ d1)).trans d1; have hb := box_then hb.drew (by simp) h5)
    | (go_at_call 33; refine (hcb _ (hs.below edgR_ok (below_box hb))).mono ?_; rintro e w5 ⟨rfl, h5⟩; have d0 := (h5.cell (World.block_lt_of_cell? _ _ d0)).trans d0; have d1 := (h5.cell (World.block_lt_of_cell? _ _ d1)).trans d1; have hb := box_then hb (by simp) h5)
    | (go_at_call 33; refine (hcb _ (hs.below edgR_ok (below_box hb.drew))).mono ?_; rintro e w5 ⟨rfl, h5⟩; have d0 := (h5.cell (World.block_lt_of_cell? _ _ d0)).trans d0; have d1 := (h5.cell (World.block_lt_of_cell? _ _ d1)).trans d1; have hb := box_then hb.drew (by simp) h5))
  all_goals
    go_wp2_with fail
    go_ret
    refine ⟨ret_int ?_, below_box hb⟩
    rw [HD.out]
    rw [IntWalk.i64_in (2 * t) (by omega), IntWalk.i64_in _ (by omega)]

end Go.Proofs.Ytopldbnlehjlpaa

set_option linter.unusedVariables false
set_option linter.unusedSimpArgs false
set_option linter.unnecessarySimpa false
namespace Go.Proofs.Ytopldbnlehjlpaa
open Go.RowKit

theorem SliceR.drew1 {α : Type} {R : Rep α} {sz : Nat} {F : Foot} {w : World} {oa : Option Addr} {xs : List α} (h : SliceR R sz F w oa xs) (ok : RepOk R sz) : SliceR R sz F w.drew oa xs := h.keep ok fun _ _ _ => rfl
theorem halfU_mem {l : List (Int × Int)} {H v : Nat} {x : Int} : x ∈ halfU l H v ↔ ∃ h : Nat, x = h ∧ h < H ∧ hv l h = (v : Int) := by
  simp only [halfU, List.mem_map, List.mem_filter, List.mem_range, beq_iff_eq]
  constructor
  · rintro ⟨h, ⟨h1, h2⟩, rfl⟩; exact ⟨h, rfl, h1, h2⟩
  · rintro ⟨h, rfl, h1, h2⟩; exact ⟨h, ⟨h1, h2⟩, rfl⟩

theorem scanE_zero {own : List Int} : ∀ {l pre : List Int}, scanE own pre l = 0 → pre.Nodup → (∀ x ∈ pre, x ∈ own) → (pre ++ l).Nodup ∧ ∀ x ∈ l, x ∈ own
  | [], pre, _, hn, _ => by simpa using hn
  | x :: r, pre, h, hn, hp => by
    rw [scanE_cons] at h
    by_cases h1 : x ∈ own
    · rw [if_pos h1] at h
      by_cases h2 : x ∈ pre
      · rw [if_pos h2] at h; cases h
      · rw [if_neg h2] at h
        have hn2 : (pre ++ [x]).Nodup := by
          rw [List.nodup_append]
          exact ⟨hn, by simp, fun a ha b hb => by simp at hb; subst hb; exact fun e => h2 (e ▸ ha)⟩
        have := scanE_zero h hn2 (fun y hy => by
          rcases List.mem_append.1 hy with h3 | h3
          · exact hp y h3
          · simp at h3; subst h3; exact h1)
        refine ⟨by simpa using this.1, fun y hy => ?_⟩
        rcases List.mem_cons.1 hy with h3 | h3
        · subst h3; exact h1
        · exact this.2 y h3
    · rw [if_neg h1] at h; cases h

theorem mem_all {l m : List Int} (hl : l.Nodup) (hs : ∀ x ∈ l, x ∈ m) (hlen : m.length ≤ l.length) : ∀ x ∈ m, x ∈ l := by
  induction l generalizing m with
  | nil =>
    intro x hx
    have : m = [] := List.eq_nil_of_length_eq_zero (by simpa using hlen)
    subst this
    exact hx
  | cons y r ih =>
    intro x hx
    rw [List.nodup_cons] at hl
    by_cases e : x = y
    · subst e; simp
    · have hym : y ∈ m := hs y (by simp)
      have := ih (m := m.erase y) hl.2 (fun z hz => (List.mem_erase_of_ne (fun e : z = y => hl.1 (e ▸ hz))).2 (hs z (by simp [hz]))) (by
        rw [List.length_erase_of_mem hym]
        have : (y :: r).length = r.length + 1 := rfl
        omega) x ((List.mem_erase_of_ne e).2 hx)
      simp [this]

/-- The first of a list of the same numbers is the least exactly if none is less. -/
theorem head_least {l own : List Int} (hlen : l.length = own.length) (hs : scanE own [] l = 0) (hp : own.Pairwise (· < ·)) {x : Int} (hx : l[0]? = some x) :
    l.head? = own.head? ↔ ∀ (i : Nat) (y : Int), l[i]? = some y → x ≤ y := by
  obtain ⟨hnd, hsub⟩ := scanE_zero hs (by simp) (by simp)
  simp at hnd
  have hall := mem_all hnd hsub (by omega)
  cases own with
  | nil => exact absurd (hsub x (List.mem_of_getElem? hx)) (by simp)
  | cons o r =>
    have ho := hall o (by simp)
    rw [List.pairwise_cons] at hp
    have hxm := hsub x (List.mem_of_getElem? hx)
    rw [List.head?_eq_getElem?, hx]
    simp only [List.head?_cons, Option.some.injEq]
    constructor
    · rintro rfl i y hy
      have hym := hsub y (List.mem_of_getElem? hy)
      rcases List.mem_cons.1 hym with h | h
      · omega
      · have := hp.1 y h; omega
    · intro h
      obtain ⟨i, hi, he⟩ := List.getElem_of_mem ho
      have h1 := h i o (by rw [List.getElem?_eq_getElem hi, he])
      rcases List.mem_cons.1 hxm with h2 | h2
      · exact h2
      · have := hp.1 x h2; omega

set_option maxRecDepth 100000 in
set_option maxHeartbeats 8000000 in
theorem raround_any (n : Nat) (es : List Edg) (oe : Option Addr) (c : Nat) (F : Foot) (w : World) (hs : SliceR edgR 3 F w oe es) (hc : es.length ≤ c) (hc2 : es.length ≤ 1000) (hV : Hid (gErr n es = 0))
    (v : Nat) (l : List Int) (ol : Option Addr) (cl : Nat) (G : Foot) (hl : SliceR intR 1 G w ol l) (hcl : l.length ≤ cl) (hll : l.length ≤ 9223372036854775807) (own : List Int)
    (hown : Hid (own = halfU (endsL es) (2 * (endsL es).length) v)) (hdeg : Hid (degU n es v = (own.length : Nat))) :
    Calls Try.prog 75 #[.agg #[.int .i64 n, .slice oe es.length c], .int .i64 v, .slice ol l.length cl] w (ErrPost w (listE l own)) := by
  have hn : n ≤ 12 := by have := (gErr_zero hV.out).1; omega
  have hm1 : Hid (∀ x ∈ es, 0 ≤ x.m ∧ x.m ≤ 50) := fun x hx => by have := (gErr_zero hV.out).2.1 x hx; omega
  have hm2 : Hid (∀ x ∈ es, x.m ≤ 50) := fun x hx => (hm1.out x hx).2
  have hcap : (endsL es).length ≤ 50000 := by have := endsL_len hm2.out; omega
  have hol : own.length ≤ 2 * (endsL es).length := by rw [hown.out]; exact halfU_len _ _ _
  have hMEM : Hid (∀ x : Int, x ∈ own ↔ ∃ h : Nat, x = h ∧ h < 2 * (endsL es).length ∧ hv (endsL es) h = (v : Int)) := fun x => by rw [hown.out]; exact halfU_mem
  have hup : Hid (own.Pairwise (· < ·)) := by show List.Pairwise _ _; rw [hown.out]; exact halfU_up _ _ _
  have hHalf := fun W (h : Below w.heap.size w W) => rhalf_any n es oe c F W (hs.below edgR_ok h) hc hc2 hm2
  have hAT := hide (fun W (h : Below w.heap.size w W) (q : Nat) (hq : q < 2 * (endsL es).length) => rat_any n es oe c F W (hs.below edgR_ok h) hc hc2 hm2 q hq)
  generalize endsL es = E at *
  generalize hH : 2 * E.length = H at *
  have hH2 : H ≤ 100000 := by omega
  clear hH hcap
  go_enter Try.func75, Try.ntmps75
  go_wp2_with fail
  have hbx := box_refl w (.cells #[.int .i64 n, .slice oe es.length c] 24)
  refine (deg_any n hn es oe c F _ (hs.below edgR_ok (below_box hbx)) hc hc2 hm1 v).mono ?_
  rintro e w2 ⟨rfl, hb2⟩
  have hbx := hb2.mono (B' := w.heap.size + 1) (by simp)
  clear hb2
  rw [hdeg.out]
  by_cases hlen : l.length = own.length
  · have HE : Hid (listE l own = if scanE own [] l = 0 then (if l.head? = own.head? then 0 else 9) else scanE own [] l) := if_pos hlen
    have hq : ((l.length : Int) != (own.length : Int)) = false := by simp [hlen]
    have hlo : l.length ≤ 100000 := by omega
    have HLen := hide hlen
    clear hlen
    go_wp2_with fail
    go_loopw [7] (fun iv wr => ∃ k : Nat, k ≤ l.length ∧ iv = .int .i64 k ∧ Hid (scanE own [] l = scanE own (l.take k) (l.drop k)) ∧ Below (w.heap.size + 1) (w.alloc (.cells #[.int .i64 n, .slice oe es.length c] 24)) wr) (fun iv _ => l.length - (intOf iv).toNat)
    case atStart => exact ⟨0, by omega, rfl, rfl, hbx⟩
    case round =>
      clear hbx
      obtain ⟨k, hk, rfl, HS, hbx⟩ := hrel
      have d0 := box_cell hbx 0
      have d1 := box_cell hbx 1
      simp at d0 d1
      have hlr := hl.below intR_ok (below_box hbx)
      by_cases hlt : k < l.length
      · obtain ⟨x, hd, hget, ix, b, off, hoa, _, c0⟩ := hlr.int_at hlt
        have hlp : (l.take k).length = k := by rw [List.length_take]; omega
        have HP : Hid (l.take k ++ [x] = l.take (k + 1)) := by show _ = _; rw [List.take_add_one, hget]; rfl
        have hSS := HS.out
        rw [hd, scanE_cons] at hSS
        have HS2 := hide hSS
        have hcon := fun W (hW : SliceR intR 1 G W ol (l.take k)) => holds_any x (l.take k) ol cl G W hW (by rw [hlp]; omega) (by rw [hlp]; omega)
        simp only [hlp] at hcon
        clear hSS hd hget
        have hE2 : ∀ A : Int, scanE own [] l = A → A ≠ 0 → listE l own = A := fun A h1 h2 => by rw [HE.out, h1, if_neg h2]
        have HE2 := hide hE2
        clear hE2
        subst hoa
        by_cases hx0 : x < 0
        · have HR : Hid (listE l own = 2) := HE2.out 2 (by
            have h := HS2.out
            rw [if_neg (fun hm => by obtain ⟨h, rfl, _⟩ := (hMEM.out x).1 hm; omega)] at h
            exact h) (by decide)
          have q1 : decide (x < 0) = true := by simp [hx0]
          go_wp2_with fail
          go_quiet (fail)
          go_wp2_with fail
          go_ret
          exact ⟨ret_int HR.out.symm, below_drewN (below_box hbx) _⟩
        · obtain ⟨X, rfl⟩ := Int.eq_ofNat_of_zero_le (show 0 ≤ x by omega)
          have q1 : decide ((X : Int) < 0) = false := by simp
          by_cases hXH : X < H
          · have hAt := fun W (h : Below w.heap.size w W) => hAT.out W h X hXH
            have hin : Hid (((X : Int) ∈ own) ↔ hv E X = (v : Int)) := (hMEM.out (X : Int)).trans ⟨fun ⟨h, h1, h2, h3⟩ => by
              have : X = h := by omega
              subst this
              exact h3, fun h => ⟨X, rfl, hXH, h⟩⟩
            have HX0 := hide hx0
            have q5 : decide ((H : Int) ≤ (X : Int)) = false := by simp; omega
            have q6 : decide (H ≤ X) = false := by simp; omega
            clear hx0
            generalize hv E X = t at hAt hin
            by_cases htv : t = (v : Int)
            · have hmem : Hid ((X : Int) ∈ own) := hin.out.2 htv
              have q3 : (t != (v : Int)) = false := by simp [htv]
              have HTV := hide htv
              clear htv
              go_wp2_with fail
              go_region_held3 (fun w' => w'.cell? ⟨w.heap.size, 0, none⟩ = some (.int .i64 n) ∧ w'.cell? ⟨w.heap.size, 1, none⟩ = some (.slice oe es.length c) ∧ w'.cell? ⟨b, off + k, none⟩ = some (.int .i64 X)) (first | exact ⟨d0, d1, c0⟩) (first
                | (go_at_call 92; refine (hHalf _ (below_box hbx)).mono ?_; rintro e w5 ⟨rfl, h5⟩; have d0 := (h5.cell (World.block_lt_of_cell? _ _ d0)).trans d0; have d1 := (h5.cell (World.block_lt_of_cell? _ _ d1)).trans d1; have c0 := (h5.cell (World.block_lt_of_cell? _ _ c0)).trans c0; have hbx := box_then hbx (by simp) h5)
                | (go_at_call 92; refine (hHalf _ (below_box hbx.drew)).mono ?_; rintro e w5 ⟨rfl, h5⟩; have d0 := (h5.cell (World.block_lt_of_cell? _ _ d0)).trans d0; have d1 := (h5.cell (World.block_lt_of_cell? _ _ d1)).trans d1; have c0 := (h5.cell (World.block_lt_of_cell? _ _ c0)).trans c0; have hbx := box_then hbx.drew (by simp) h5)
                | (go_at_call 93; refine (hAt _ (below_box hbx)).mono ?_; rintro e w5 ⟨rfl, h5⟩; have d0 := (h5.cell (World.block_lt_of_cell? _ _ d0)).trans d0; have d1 := (h5.cell (World.block_lt_of_cell? _ _ d1)).trans d1; have c0 := (h5.cell (World.block_lt_of_cell? _ _ c0)).trans c0; have hbx := box_then hbx (by simp) h5)
                | (go_at_call 93; refine (hAt _ (below_box hbx.drew)).mono ?_; rintro e w5 ⟨rfl, h5⟩; have d0 := (h5.cell (World.block_lt_of_cell? _ _ d0)).trans d0; have d1 := (h5.cell (World.block_lt_of_cell? _ _ d1)).trans d1; have c0 := (h5.cell (World.block_lt_of_cell? _ _ c0)).trans c0; have hbx := box_then hbx.drew (by simp) h5))
              all_goals
                have hpre := (hl.below intR_ok (below_box hbx)).pre k
                have hkcl : k ≤ cl := by omega
                by_cases hxp : (X : Int) ∈ l.take k
                · have q2 : decide ((X : Int) ∈ l.take k) = true := by simp [hxp]
                  have HR : Hid (listE l own = 7) := HE2.out 7 (by
                    have h := HS2.out
                    rw [if_pos hmem.out, if_pos hxp] at h
                    exact h) (by decide)
                  have hc7 := fun W (h : SliceR intR 1 G W (some ⟨b, off, none⟩) (l.take k)) => (hcon W h).mono (fun e w' (h : e = .returned (.bool (decide ((X : Int) ∈ l.take k))) ∧ W = w') => (show e = .returned (.bool true) ∧ W = w' from ⟨h.1.trans (by rw [q2]), h.2⟩))
                  clear hxp q2
                  go_wp2_with fail
                  go_region_held3 (fun w' => w'.cell? ⟨b, off + k, none⟩ = some (.int .i64 X)) (first | exact c0) (first
                    | (go_at_call 94; refine (hc7 _ hpre).mono ?_; rintro e w7 ⟨rfl, rfl⟩)
                    | (go_at_call 94; refine (hc7 _ (hpre.drew1 intR_ok)).mono ?_; rintro e w7 ⟨rfl, rfl⟩))
                  all_goals
                    go_wp2_with fail
                    go_ret
                    exact ⟨ret_int HR.out.symm, below_box hbx.drew⟩
                · have q2 : decide ((X : Int) ∈ l.take k) = false := by simp [hxp]
                  have HS3 : Hid (scanE own [] l = scanE own (l.take (k + 1)) (l.drop (k + 1))) := by
                    show _ = _
                    have h := HS2.out
                    rw [if_pos hmem.out, if_neg hxp, HP.out] at h
                    exact h
                  have hc7 := fun W (h : SliceR intR 1 G W (some ⟨b, off, none⟩) (l.take k)) => (hcon W h).mono (fun e w' (h : e = .returned (.bool (decide ((X : Int) ∈ l.take k))) ∧ W = w') => (show e = .returned (.bool false) ∧ W = w' from ⟨h.1.trans (by rw [q2]), h.2⟩))
                  clear hxp q2
                  go_wp2_with fail
                  go_region_held3 (fun w' => w'.cell? ⟨b, off + k, none⟩ = some (.int .i64 X)) (first | exact c0) (first
                    | (go_at_call 94; refine (hc7 _ hpre).mono ?_; rintro e w7 ⟨rfl, rfl⟩)
                    | (go_at_call 94; refine (hc7 _ (hpre.drew1 intR_ok)).mono ?_; rintro e w7 ⟨rfl, rfl⟩))
                  all_goals
                    go_wp2_with fail
                    go_roundw
                    case rel => exact ⟨k + 1, by omega, by go_num, HS3, hbx.drew⟩
                    case measure => simp [intOf]; omega
            · have HR : Hid (listE l own = 2) := HE2.out 2 (by
                have h := HS2.out
                rw [if_neg (fun hm => htv (hin.out.1 hm))] at h
                exact h) (by decide)
              have q3 : (t != (v : Int)) = true := by simp [htv]
              have HTV := hide htv
              clear htv
              go_wp2_with fail
              go_region_held3 (fun w' => w'.cell? ⟨w.heap.size, 0, none⟩ = some (.int .i64 n) ∧ w'.cell? ⟨w.heap.size, 1, none⟩ = some (.slice oe es.length c) ∧ w'.cell? ⟨b, off + k, none⟩ = some (.int .i64 X)) (first | exact ⟨d0, d1, c0⟩) (first
                | (go_at_call 92; refine (hHalf _ (below_box hbx)).mono ?_; rintro e w5 ⟨rfl, h5⟩; have d0 := (h5.cell (World.block_lt_of_cell? _ _ d0)).trans d0; have d1 := (h5.cell (World.block_lt_of_cell? _ _ d1)).trans d1; have c0 := (h5.cell (World.block_lt_of_cell? _ _ c0)).trans c0; have hbx := box_then hbx (by simp) h5)
                | (go_at_call 92; refine (hHalf _ (below_box hbx.drew)).mono ?_; rintro e w5 ⟨rfl, h5⟩; have d0 := (h5.cell (World.block_lt_of_cell? _ _ d0)).trans d0; have d1 := (h5.cell (World.block_lt_of_cell? _ _ d1)).trans d1; have c0 := (h5.cell (World.block_lt_of_cell? _ _ c0)).trans c0; have hbx := box_then hbx.drew (by simp) h5)
                | (go_at_call 93; refine (hAt _ (below_box hbx)).mono ?_; rintro e w5 ⟨rfl, h5⟩; have d0 := (h5.cell (World.block_lt_of_cell? _ _ d0)).trans d0; have d1 := (h5.cell (World.block_lt_of_cell? _ _ d1)).trans d1; have c0 := (h5.cell (World.block_lt_of_cell? _ _ c0)).trans c0; have hbx := box_then hbx (by simp) h5)
                | (go_at_call 93; refine (hAt _ (below_box hbx.drew)).mono ?_; rintro e w5 ⟨rfl, h5⟩; have d0 := (h5.cell (World.block_lt_of_cell? _ _ d0)).trans d0; have d1 := (h5.cell (World.block_lt_of_cell? _ _ d1)).trans d1; have c0 := (h5.cell (World.block_lt_of_cell? _ _ c0)).trans c0; have hbx := box_then hbx.drew (by simp) h5))
              all_goals
                go_wp2_with fail
                go_ret
                exact ⟨ret_int HR.out.symm, below_box hbx⟩
          · have HR : Hid (listE l own = 2) := HE2.out 2 (by
              have h := HS2.out
              rw [if_neg (fun hm => by obtain ⟨q, h1, h2, _⟩ := (hMEM.out (X : Int)).1 hm; omega)] at h
              exact h) (by decide)
            have HX0 := hide hx0
            have q5 : decide ((H : Int) ≤ (X : Int)) = true := by simp; omega
            have q6 : decide (H ≤ X) = true := by simp; omega
            have q7 : decide ((X : Int) < (H : Int)) = false := by simp; omega
            have q8 : decide (X < H) = false := by simp; omega
            clear hx0
            go_wp2_with fail
            refine wp_region_held_drew (S := fun w' => w'.cell? ⟨w.heap.size, 0, none⟩ = some (.int .i64 n) ∧ w'.cell? ⟨w.heap.size, 1, none⟩ = some (.slice oe es.length c) ∧ w'.cell? ⟨b, off + k, none⟩ = some (.int .i64 X)) (by kernel_rfl) ⟨d0, d1, c0⟩ (fun hHeld => ?_)
            refine wpAnyH_take (i := 0) (oi := { dst := some 21, op := Op.move (Operand.tmp 2), type := 28, pos := "ref.go:37", after := #[], guard := none }) (v := ?_) rfl (by kernel_rfl) (by kernel_rfl) (by kernel_rfl) (fun _ _ _ h => h) (Or.inl ⟨by rfl, ?_⟩) (by assumption) ?_
            rotate_left
            · intro w hSw; (try dsimp only at hSw); go_simp; (try with_reducible rfl)
            try simp only [Act.put, List.setIfInBounds_toArray, List.set_cons_zero, List.set_cons_succ]
            refine wpAnyH_take (i := 1) (oi := { dst := some 22, op := Op.move (Operand.tmp 7), type := 3, pos := "ref.go:37", after := #[], guard := none }) (v := ?_) rfl (by kernel_rfl) (by kernel_rfl) (by kernel_rfl) (fun _ _ _ h => h) (Or.inl ⟨by rfl, ?_⟩) (by assumption) ?_
            rotate_left
            · intro w hSw; (try dsimp only at hSw); go_simp; (try with_reducible rfl)
            try simp only [Act.put, List.setIfInBounds_toArray, List.set_cons_zero, List.set_cons_succ]
            refine wpAnyH_take (i := 2) (oi := { dst := some 23, op := Op.indexAddr 28 (Operand.tmp 21) (Operand.tmp 22), type := 0, pos := "ref.go:37", after := #[{ on := 0, ground := Ground.data }, { on := 1, ground := Ground.data }], guard := none }) (v := ?_) rfl (by kernel_rfl) (by kernel_rfl) (by kernel_rfl) (fun _ _ _ h => h) (Or.inl ⟨by rfl, ?_⟩) (by assumption) ?_
            rotate_left
            · intro w hSw; (try dsimp only at hSw); go_simp; (try with_reducible rfl)
            try simp only [Act.put, List.setIfInBounds_toArray, List.set_cons_zero, List.set_cons_succ]
            refine wpAnyH_take (i := 3) (oi := { dst := some 24, op := Op.load 3 (Operand.tmp 23), type := 3, pos := "ref.go:37", after := #[{ on := 2, ground := Ground.data }], guard := none }) (v := ?_) rfl (by kernel_rfl) (by kernel_rfl) (by kernel_rfl) (fun _ _ _ h => h) (Or.inl ⟨by rfl, ?_⟩) (by assumption) ?_
            rotate_left
            · intro w hSw; (try dsimp only at hSw); go_simp; (try with_reducible rfl)
            try simp only [Act.put, List.setIfInBounds_toArray, List.set_cons_zero, List.set_cons_succ]
            refine wpAnyH_take (i := 4) (oi := { dst := some 25, op := Op.binOp BinOp.lss 3 (Operand.tmp 24) (Operand.const (Value.int IntKind.i64 0)) 3, type := 4, pos := "ref.go:37", after := #[{ on := 3, ground := Ground.data }], guard := none }) (v := ?_) rfl (by kernel_rfl) (by kernel_rfl) (by kernel_rfl) (fun _ _ _ h => h) (Or.inl ⟨by rfl, ?_⟩) (by assumption) ?_
            rotate_left
            · intro w hSw; (try dsimp only at hSw); go_simp; (try with_reducible rfl)
            try simp only [Act.put, List.setIfInBounds_toArray, List.set_cons_zero, List.set_cons_succ]
            refine wpAnyH_take (i := 5) (oi := { dst := some 26, op := Op.move (Operand.tmp 25), type := 4, pos := "ref.go:37", after := #[{ on := 4, ground := Ground.data }], guard := none }) (v := ?_) rfl (by kernel_rfl) (by kernel_rfl) (by kernel_rfl) (fun _ _ _ h => h) (Or.inl ⟨by rfl, ?_⟩) (by assumption) ?_
            rotate_left
            · intro w hSw; (try dsimp only at hSw); go_simp; (try with_reducible rfl)
            try simp only [Act.put, List.setIfInBounds_toArray, List.set_cons_zero, List.set_cons_succ]
            refine wpAnyH_take (i := 6) (oi := { dst := some 27, op := Op.move (Operand.tmp 2), type := 28, pos := "ref.go:37", after := #[{ on := 5, ground := Ground.guard }], guard := some (5, false) }) (v := ?_) rfl (by kernel_rfl) (by kernel_rfl) (by kernel_rfl) (fun _ _ _ h => h) (Or.inl ⟨by rfl, ?_⟩) (by assumption) ?_
            rotate_left
            · intro w hSw; (try dsimp only at hSw); go_simp; (try with_reducible rfl)
            try simp only [Act.put, List.setIfInBounds_toArray, List.set_cons_zero, List.set_cons_succ]
            refine wpAnyH_take (i := 7) (oi := { dst := some 28, op := Op.move (Operand.tmp 7), type := 3, pos := "ref.go:37", after := #[{ on := 5, ground := Ground.guard }], guard := some (5, false) }) (v := ?_) rfl (by kernel_rfl) (by kernel_rfl) (by kernel_rfl) (fun _ _ _ h => h) (Or.inl ⟨by rfl, ?_⟩) (by assumption) ?_
            rotate_left
            · intro w hSw; (try dsimp only at hSw); go_simp; (try with_reducible rfl)
            try simp only [Act.put, List.setIfInBounds_toArray, List.set_cons_zero, List.set_cons_succ]
            refine wpAnyH_take (i := 8) (oi := { dst := some 29, op := Op.indexAddr 28 (Operand.tmp 27) (Operand.tmp 28), type := 0, pos := "ref.go:37", after := #[{ on := 6, ground := Ground.data }, { on := 7, ground := Ground.data }, { on := 5, ground := Ground.guard }], guard := some (5, false) }) (v := ?_) rfl (by kernel_rfl) (by kernel_rfl) (by kernel_rfl) (fun _ _ _ h => h) (Or.inl ⟨by rfl, ?_⟩) (by assumption) ?_
            rotate_left
            · intro w hSw; (try dsimp only at hSw); go_simp; (try with_reducible rfl)
            try simp only [Act.put, List.setIfInBounds_toArray, List.set_cons_zero, List.set_cons_succ]
            refine wpAnyH_take (i := 9) (oi := { dst := some 30, op := Op.load 3 (Operand.tmp 29), type := 3, pos := "ref.go:37", after := #[{ on := 8, ground := Ground.data }, { on := 5, ground := Ground.guard }], guard := some (5, false) }) (v := ?_) rfl (by kernel_rfl) (by kernel_rfl) (by kernel_rfl) (fun _ _ _ h => h) (Or.inl ⟨by rfl, ?_⟩) (by assumption) ?_
            rotate_left
            · intro w hSw; (try dsimp only at hSw); go_simp; (try with_reducible rfl)
            try simp only [Act.put, List.setIfInBounds_toArray, List.set_cons_zero, List.set_cons_succ]
            refine wpAnyH_take (i := 10) (oi := { dst := some 31, op := Op.load 24 (Operand.tmp 3), type := 24, pos := "ref.go:37", after := #[{ on := 5, ground := Ground.guard }], guard := some (5, false) }) (v := ?_) rfl (by kernel_rfl) (by kernel_rfl) (by kernel_rfl) (fun _ _ _ h => h) (Or.inl ⟨by rfl, ?_⟩) (by assumption) ?_
            rotate_left
            · intro w hSw; (try dsimp only at hSw); go_simp; (try with_reducible rfl)
            try simp only [Act.put, List.setIfInBounds_toArray, List.set_cons_zero, List.set_cons_succ]
            refine wpAnyH_ready (rs := [11]) (by kernel_rfl) (by simp) ?_
            refine AllReadyH.cons (o := { dst := some 32, op := Op.call { callee := Callee.value (Operand.func 92), args := #[Operand.tmp 31], argTypes := #[24] }, type := 3, pos := "ref.go:37", after := #[{ on := 10, ground := Ground.data }, { on := 5, ground := Ground.chain }, { on := 5, ground := Ground.guard }], guard := some (5, false) }) rfl (fun K hK => ?_) AllReadyH.nil
            go_simp
            go_at_call 92; refine (hHalf _ (below_box hbx.drew)).mono ?_
            rintro e w5 ⟨rfl, h5⟩
            have d0 := (h5.cell (World.block_lt_of_cell? _ _ d0)).trans d0
            have d1 := (h5.cell (World.block_lt_of_cell? _ _ d1)).trans d1
            have c0 := (h5.cell (World.block_lt_of_cell? _ _ c0)).trans c0
            have hbx := box_then hbx.drew (by simp) h5
            try dsimp only
            refine hK.out _ _ ⟨d0, d1, c0⟩ (fun hHeld => ?_)
            clear hK K
            try simp only [Act.put, List.setIfInBounds_toArray, List.set_cons_zero, List.set_cons_succ]
            refine wpAnyH_take (i := 12) (oi := { dst := some 33, op := Op.binOp BinOp.geq 3 (Operand.tmp 30) (Operand.tmp 32) 3, type := 4, pos := "ref.go:37", after := #[{ on := 9, ground := Ground.data }, { on := 11, ground := Ground.data }, { on := 5, ground := Ground.guard }], guard := some (5, false) }) (v := ?_) rfl (by kernel_rfl) (by kernel_rfl) (by kernel_rfl) (fun _ _ _ h => h) (Or.inl ⟨by rfl, ?_⟩) (by assumption) ?_
            rotate_left
            · intro w hSw; (try dsimp only at hSw); go_simp; (try with_reducible rfl)
            try simp only [Act.put, List.setIfInBounds_toArray, List.set_cons_zero, List.set_cons_succ]
            refine wpAnyH_take (i := 13) (oi := { dst := some 34, op := Op.pick (Operand.tmp 26) (Operand.const (Value.bool true)) (Operand.tmp 33), type := 4, pos := "ref.go:37", after := #[{ on := 5, ground := Ground.data }, { on := 12, ground := Ground.data }], guard := none }) (v := ?_) rfl (by kernel_rfl) (by kernel_rfl) (by kernel_rfl) (fun _ _ _ h => h) (Or.inl ⟨by rfl, ?_⟩) (by assumption) ?_
            rotate_left
            · intro w hSw; (try dsimp only at hSw); go_simp; (try with_reducible rfl)
            try simp only [Act.put, List.setIfInBounds_toArray, List.set_cons_zero, List.set_cons_succ]
            refine wpAnyH_take (i := 14) (oi := { dst := some 35, op := Op.move (Operand.tmp 34), type := 4, pos := "ref.go:37", after := #[{ on := 13, ground := Ground.data }, { on := 11, ground := Ground.chain }], guard := none }) (v := ?_) rfl (by kernel_rfl) (by kernel_rfl) (by kernel_rfl) (fun _ _ _ h => h) (Or.inl ⟨by rfl, ?_⟩) (by assumption) ?_
            rotate_left
            · intro w hSw; (try dsimp only at hSw); go_simp; (try with_reducible rfl)
            try simp only [Act.put, List.setIfInBounds_toArray, List.set_cons_zero, List.set_cons_succ]
            refine wpAnyH_take (i := 15) (oi := { dst := some 36, op := Op.load 24 (Operand.tmp 3), type := 24, pos := "ref.go:37", after := #[{ on := 14, ground := Ground.guard }], guard := some (14, false) }) (v := undef) rfl (by kernel_rfl) (by kernel_rfl) (by kernel_rfl) (fun _ _ _ h => h) (Or.inr ⟨by rfl, rfl⟩) (by assumption) ?_
            try simp only [Act.put, List.setIfInBounds_toArray, List.set_cons_zero, List.set_cons_succ]
            refine wpAnyH_take (i := 16) (oi := { dst := some 37, op := Op.move (Operand.tmp 2), type := 28, pos := "ref.go:37", after := #[{ on := 14, ground := Ground.guard }], guard := some (14, false) }) (v := undef) rfl (by kernel_rfl) (by kernel_rfl) (by kernel_rfl) (fun _ _ _ h => h) (Or.inr ⟨by rfl, rfl⟩) (by assumption) ?_
            try simp only [Act.put, List.setIfInBounds_toArray, List.set_cons_zero, List.set_cons_succ]
            refine wpAnyH_take (i := 17) (oi := { dst := some 38, op := Op.move (Operand.tmp 7), type := 3, pos := "ref.go:37", after := #[{ on := 14, ground := Ground.guard }], guard := some (14, false) }) (v := undef) rfl (by kernel_rfl) (by kernel_rfl) (by kernel_rfl) (fun _ _ _ h => h) (Or.inr ⟨by rfl, rfl⟩) (by assumption) ?_
            try simp only [Act.put, List.setIfInBounds_toArray, List.set_cons_zero, List.set_cons_succ]
            refine wpAnyH_take (i := 18) (oi := { dst := some 39, op := Op.indexAddr 28 (Operand.tmp 37) (Operand.tmp 38), type := 0, pos := "ref.go:37", after := #[{ on := 16, ground := Ground.data }, { on := 17, ground := Ground.data }, { on := 14, ground := Ground.guard }], guard := some (14, false) }) (v := undef) rfl (by kernel_rfl) (by kernel_rfl) (by kernel_rfl) (fun _ _ _ h => h) (Or.inr ⟨by rfl, rfl⟩) (by assumption) ?_
            try simp only [Act.put, List.setIfInBounds_toArray, List.set_cons_zero, List.set_cons_succ]
            refine wpAnyH_take (i := 19) (oi := { dst := some 40, op := Op.load 3 (Operand.tmp 39), type := 3, pos := "ref.go:37", after := #[{ on := 18, ground := Ground.data }, { on := 14, ground := Ground.guard }], guard := some (14, false) }) (v := undef) rfl (by kernel_rfl) (by kernel_rfl) (by kernel_rfl) (fun _ _ _ h => h) (Or.inr ⟨by rfl, rfl⟩) (by assumption) ?_
            try simp only [Act.put, List.setIfInBounds_toArray, List.set_cons_zero, List.set_cons_succ]
            refine wpAnyH_take (i := 20) (oi := { dst := some 41, op := Op.call { callee := Callee.value (Operand.func 93), args := #[Operand.tmp 36, Operand.tmp 40], argTypes := #[24, 3] }, type := 3, pos := "ref.go:37", after := #[{ on := 15, ground := Ground.data }, { on := 19, ground := Ground.data }, { on := 14, ground := Ground.chain }, { on := 14, ground := Ground.guard }], guard := some (14, false) }) (v := undef) rfl (by kernel_rfl) (by kernel_rfl) (by kernel_rfl) (fun _ _ _ h => h) (Or.inr ⟨by rfl, rfl⟩) (by assumption) ?_
            try simp only [Act.put, List.setIfInBounds_toArray, List.set_cons_zero, List.set_cons_succ]
            refine wpAnyH_take (i := 21) (oi := { dst := some 42, op := Op.move (Operand.tmp 1), type := 3, pos := "ref.go:37", after := #[{ on := 14, ground := Ground.guard }], guard := some (14, false) }) (v := undef) rfl (by kernel_rfl) (by kernel_rfl) (by kernel_rfl) (fun _ _ _ h => h) (Or.inr ⟨by rfl, rfl⟩) (by assumption) ?_
            try simp only [Act.put, List.setIfInBounds_toArray, List.set_cons_zero, List.set_cons_succ]
            refine wpAnyH_take (i := 22) (oi := { dst := some 43, op := Op.binOp BinOp.neq 3 (Operand.tmp 41) (Operand.tmp 42) 3, type := 4, pos := "ref.go:37", after := #[{ on := 20, ground := Ground.data }, { on := 21, ground := Ground.data }, { on := 14, ground := Ground.guard }], guard := some (14, false) }) (v := undef) rfl (by kernel_rfl) (by kernel_rfl) (by kernel_rfl) (fun _ _ _ h => h) (Or.inr ⟨by rfl, rfl⟩) (by assumption) ?_
            try simp only [Act.put, List.setIfInBounds_toArray, List.set_cons_zero, List.set_cons_succ]
            refine wpAnyH_take (i := 23) (oi := { dst := some 44, op := Op.pick (Operand.tmp 35) (Operand.const (Value.bool true)) (Operand.tmp 43), type := 4, pos := "ref.go:37", after := #[{ on := 14, ground := Ground.data }, { on := 22, ground := Ground.data }], guard := none }) (v := ?_) rfl (by kernel_rfl) (by kernel_rfl) (by kernel_rfl) (fun _ _ _ h => h) (Or.inl ⟨by rfl, ?_⟩) (by assumption) ?_
            rotate_left
            · intro w hSw; (try dsimp only at hSw); go_simp; (try with_reducible rfl)
            try simp only [Act.put, List.setIfInBounds_toArray, List.set_cons_zero, List.set_cons_succ]
            refine wpAnyH_done (by kernel_rfl) ?_ _
            all_goals
              go_wp2_with fail
              go_ret
              exact ⟨ret_int HR.out.symm, below_box hbx⟩
      · have HR : Hid (listE l own = if l.head? = own.head? then 0 else 9) := by
          show _ = _
          have h := HS.out
          rw [List.drop_of_length_le (by omega)] at h
          rw [HE.out, if_pos (h.trans (show scanE own (l.take k) [] = 0 from rfl))]
        have HZ : Hid (scanE own [] l = 0) := by
          have h := HS.out
          rw [List.drop_of_length_le (by omega)] at h
          exact h.trans (show scanE own (l.take k) [] = 0 from rfl)
        by_cases hz : 0 < l.length
        · obtain ⟨x0, _, hgx, _, b, off, hoa, _, c0⟩ := hlr.int_at hz
          subst hoa
          simp only [Nat.add_zero] at c0
          have HLEAST := hide (head_least HLen.out HZ.out hup.out hgx)
          have h1 : Hid (∀ (i : Nat) (y : Int), i < 1 → l[i]? = some y → x0 ≤ y) := by
            intro i y hi hy
            have : i = 0 := by omega
            subst this
            rw [hgx] at hy
            injection hy with hy
            omega
          clear hgx
          go_wp2_with fail
          obtain ⟨wo, rfl⟩ : ∃ wo : World, wo = wr := ⟨_, rfl⟩
          go_loopw [8] (fun iv wr => ∃ j : Nat, 1 ≤ j ∧ j ≤ l.length ∧ iv = .int .i64 j ∧ Hid (∀ (i : Nat) (y : Int), i < j → l[i]? = some y → x0 ≤ y) ∧ Below wo.heap.size wo wr) (fun iv _ => l.length - (intOf iv).toNat)
          case atStart => exact ⟨1, by omega, by omega, rfl, h1, Below.refl _ _⟩
          case round =>
            obtain ⟨j, hj1, hj, rfl, HJ, hbj⟩ := hrel
            have c0 := (hbj.cell (World.block_lt_of_cell? _ _ c0)).trans c0
            have hbw := hide (below_then (below_box hbx) hbj)
            by_cases hjl : j < l.length
            · obtain ⟨y, _, hgy, _, b2, off2, hoa2, _, c1⟩ := (hlr.below intR_ok hbj).int_at hjl
              injection hoa2 with hoa2
              injection hoa2 with q1 q2 q3
              subst q1 q2
              have HGY := hide hgy
              clear hgy
              by_cases hyx : y < x0
              · have HR9 : Hid (listE l own = 9) := by
                  show _ = _
                  rw [HR.out, if_neg (fun h => by have := HLEAST.out.1 h j y HGY.out; omega)]
                have q4 : decide (y < x0) = true := by simp [hyx]
                go_wp2_with fail
                go_quiet (fail)
                go_wp2_with fail
                go_ret
                exact ⟨ret_int HR9.out.symm, below_drewN hbw.out _⟩
              · have HJ2 : Hid (∀ (i : Nat) (y : Int), i < j + 1 → l[i]? = some y → x0 ≤ y) := by
                  intro i z hi hz
                  rcases Nat.lt_or_ge i j with h1 | h1
                  · exact HJ.out i z h1 hz
                  · have : i = j := by omega
                    subst this
                    rw [HGY.out] at hz
                    injection hz with hz
                    omega
                have q4 : decide (y < x0) = false := by simp; omega
                go_wp2_with fail
                go_quiet (fail)
                go_wp2_with fail
                go_roundw
                case rel => exact ⟨j + 1, by omega, by omega, by go_num, HJ2, below_drewN hbj _⟩
                case measure => simp [intOf]; omega
            · have HR0 : Hid (listE l own = 0) := by
                show _ = _
                rw [HR.out, if_pos (HLEAST.out.2 fun i y hy => HJ.out i y (by have := (List.getElem?_eq_some_iff.1 hy).1; omega) hy)]
              go_wp2_with fail
              go_ret
              exact ⟨ret_int HR0.out.symm, hbw.out⟩
        · have h0 : l.length = 0 := by omega
          have HR0 : Hid (listE l own = 0) := by
            show _ = _
            rw [HR.out, List.eq_nil_of_length_eq_zero h0, List.eq_nil_of_length_eq_zero (show own.length = 0 by have := HLen.out; omega)]
            rfl
          have hbw := hide (below_box hbx)
          go_wp2_with fail
          refine wp_loop_rounds 1 ?_
          rw [rounds_succ]
          go_wp2_with fail
          go_ret
          exact ⟨ret_int HR0.out.symm, hbw.out⟩
  · have HE : Hid (listE l own = 8) := if_neg hlen
    have hq : ((l.length : Int) != (own.length : Int)) = true := by simp; omega
    have hX := hide (below_box hbx)
    go_wp2_with fail
    go_ret
    exact ⟨ret_int HE.out.symm, hX.out⟩

end Go.Proofs.Ytopldbnlehjlpaa

set_option linter.unusedVariables false
set_option linter.unusedSimpArgs false
namespace Go.Proofs.Ytopldbnlehjlpaa
open Go.RowKit

def ends2 (v : Int) (p : Int × Int) : Int := (if p.1 = v then 1 else 0) + (if p.2 = v then 1 else 0)
def sumE (v : Int) : List (Int × Int) → Int
  | [] => 0
  | p :: r => ends2 v p + sumE v r
theorem sumE_app (v : Int) (l m : List (Int × Int)) : sumE v (l ++ m) = sumE v l + sumE v m := by
  induction l with
  | nil => simp [sumE]
  | cons p r ih => simp only [List.cons_append, sumE, ih]; omega
theorem sumE_rep (v : Int) (p : Int × Int) (k : Nat) : sumE v (List.replicate k p) = k * ends2 v p := by
  induction k with
  | zero => simp [sumE]
  | succ k ih =>
    rw [List.replicate_succ, sumE, ih]
    have : ((k + 1 : Nat) : Int) = k + 1 := by omega
    rw [this, Int.add_mul, Int.one_mul]
    omega
theorem half_len {l : List (Int × Int)} {v : Nat} : ∀ k, k ≤ l.length → ((halfU l (2 * k) v).length : Int) = sumE v (l.take k)
  | 0, _ => by simp [halfU, sumE]
  | k + 1, hk => by
    have ih := half_len (l := l) (v := v) k (by omega)
    have hg : l.getD k (0, 0) = l[k] := by rw [List.getD_eq_getElem?_getD, List.getElem?_eq_getElem (by omega)]; rfl
    have h1 : hv l (2 * k) = (l[k]).1 := by rw [hv, if_pos (by omega), show 2 * k / 2 = k by omega, hg]
    have h2 : hv l (2 * k + 1) = (l[k]).2 := by rw [hv, if_neg (by omega), show (2 * k + 1) / 2 = k by omega, hg]
    have e : l.take (k + 1) = l.take k ++ [l[k]] := by rw [List.take_add_one, List.getElem?_eq_getElem (by omega)]; rfl
    rw [e, sumE_app, ← ih, show 2 * (k + 1) = (2 * k + 1) + 1 by omega]
    simp only [sumE, ends2]
    by_cases c1 : hv l (2 * k) = (v : Int) <;> by_cases c2 : hv l (2 * k + 1) = (v : Int)
    · rw [halfU_yes c2, halfU_yes c1, if_pos (h1 ▸ c1), if_pos (h2 ▸ c2)]; simp
    · rw [halfU_no c2, halfU_yes c1, if_pos (h1 ▸ c1), if_neg (h2 ▸ c2)]; simp
    · rw [halfU_yes c2, halfU_no c1, if_neg (h1 ▸ c1), if_pos (h2 ▸ c2)]; simp
    · rw [halfU_no c2, halfU_no c1, if_neg (h1 ▸ c1), if_neg (h2 ▸ c2)]; simp

def hit (x : Edg) (a b : Int) : Int := if x.a = min a b ∧ x.b = max a b then x.m else 0
theorem betw_none {r : List Edg} {p q a b : Int} (h : ∀ y ∈ r, ¬ (y.a = p ∧ y.b = q)) (hp : p = min a b) (hq : q = max a b) : betw r a b = 0 := by
  induction r with
  | nil => rfl
  | cons y r ih =>
    rw [betw, if_neg (by rw [← hp, ← hq]; exact h y (by simp)), ih fun z hz => h z (by simp [hz])]
theorem betw_cons {x : Edg} {r : List Edg} (h : ∀ y ∈ r, ¬ (y.a = x.a ∧ y.b = x.b)) (a b : Int) : betw (x :: r) a b = hit x a b + betw r a b := by
  rw [betw, hit]
  split
  · rename_i he
    rw [betw_none h he.1 he.2]
    omega
  · omega
def valH (x : Edg) (v : Int) : Nat → Int
  | 0 => 0
  | u + 1 => valH x v u + (if (u : Int) = v then 0 else hit x u v)
theorem valU_cons {x : Edg} {r : List Edg} (h : ∀ y ∈ r, ¬ (y.a = x.a ∧ y.b = x.b)) (v : Int) : ∀ n, valU (x :: r) v n = valH x v n + valU r v n
  | 0 => rfl
  | n + 1 => by
    rw [valU, valU, valH, valU_cons h v n, betw_cons h]
    split <;> omega
theorem valH_is {x : Edg} (hab : x.a ≤ x.b) {v : Int} (ha : 0 ≤ x.a) (hb : 0 ≤ x.b) : ∀ n : Nat, valH x v n = if x.a = v ∧ x.b ≠ v ∧ x.b < n then x.m else if x.b = v ∧ x.a ≠ v ∧ x.a < n then x.m else 0
  | 0 => by
    rw [valH, if_neg (by omega), if_neg (by omega)]
  | n + 1 => by
    rw [valH, valH_is hab ha hb n]
    unfold hit
    repeat' split
    all_goals omega

theorem deg_sum {n : Nat} : ∀ {es : List Edg}, (∀ x ∈ es, (0 ≤ x.a ∧ x.a < n) ∧ (0 ≤ x.b ∧ x.b < n) ∧ 0 ≤ x.m ∧ x.a ≤ x.b) → (es.Pairwise fun x y => cmpP (x.a, x.b) (y.a, y.b) < 0) → ∀ v : Int, valU es v n + 2 * betw es v v = sumE v (endsL es)
  | [], _, _, v => by
    have : ∀ k, valU [] v k = 0 := fun k => by
      induction k with
      | zero => rfl
      | succ k ih => rw [valU, ih]; simp [betw]
    rw [this]
    simp [betw, endsL, sumE]
  | x :: r, h, hp, v => by
    rw [List.pairwise_cons] at hp
    have hx := h x (by simp)
    have hne : ∀ y ∈ r, ¬ (y.a = x.a ∧ y.b = x.b) := fun y hy he => by
      have := cmpP_neg.1 (hp.1 y hy)
      simp only at this
      omega
    have ih := deg_sum (es := r) (fun y hy => h y (by simp [hy])) hp.2 v
    rw [valU_cons hne, betw_cons hne, endsL_cons, sumE_app, sumE_rep, ← ih, valH_is hx.2.2.2 hx.1.1 hx.2.1.1, hit, ends2]
    have hm : (x.m.toNat : Int) = x.m := by omega
    rw [hm]
    simp only
    by_cases c1 : x.a = v <;> by_cases c2 : x.b = v
    · rw [if_pos c1, if_pos c2, if_neg (by omega), if_neg (by omega), if_pos (by omega)]; omega
    · rw [if_pos c1, if_neg c2, if_pos (by omega), if_neg (by omega)]; omega
    · rw [if_neg c1, if_pos c2, if_neg (by omega), if_pos (by omega), if_neg (by omega)]; omega
    · rw [if_neg c1, if_neg c2, if_neg (by omega), if_neg (by omega), if_neg (by omega)]; omega
/-- The degree of a vertex of a right graph is the number of its half-edges. -/
theorem deg_half {n : Nat} {es : List Edg} (hV : gErr n es = 0) (v : Nat) : degU n es v = ((halfU (endsL es) (2 * (endsL es).length) v).length : Nat) := by
  rw [half_len _ (Nat.le_refl _), List.take_length]
  exact deg_sum (fun x hx => by have := (gErr_zero hV).2.1 x hx; omega) (gErr_zero hV).2.2 v

end Go.Proofs.Ytopldbnlehjlpaa

set_option linter.unusedVariables false
set_option linter.unusedSimpArgs false
namespace Go.Proofs.Ytopldbnlehjlpaa
open Go.RowKit

theorem boolInfoG : (Try.prog.info? 4).map (fun i => (i.zero, i.size, i.bytes)) = some (some (.bool false), 1, 1) := by kernel_rfl

def adjG (es : List Edg) (a b : Nat) : Bool := decide (0 < betw es a b)
def ReachedPost (w : World) (es : List Edg) (n s : Nat) (e : Ending) (w' : World) : Prop :=
  ∃ g bs, e = .returned (.slice (some ⟨g, 0, none⟩) n n) ∧ Leads (nxA (adjG es)) n n s bs ∧ Row1 Value.bool w' g 4 bs [] ∧ w.heap.size ≤ g ∧ Below w.heap.size w w'
theorem nxA_lt {adj : Nat → Nat → Bool} {n : Nat} : ∀ u a, u < n → a < n → nxA adj u a < n := by
  intro u a h1 h2
  unfold nxA
  split <;> omega
def InrG (nx : Nat → Nat → Nat) (L S s k t j : Nat) (bs : List Bool) : Prop := Led nx L S s k t bs ∧ (bs[t]? = some true → ∀ a, a < j → bs[nx t a]? = some true)

set_option maxRecDepth 100000 in
set_option maxHeartbeats 4000000 in
theorem reached_any (n : Nat) (hn : n ≤ 12) (es : List Edg) (oe : Option Addr) (c : Nat) (F : Foot) (w : World) (hs : SliceR edgR 3 F w oe es) (hc : es.length ≤ c) (hc2 : es.length ≤ 9223372036854775807) (s0 : Nat) (hS : s0 < n) :
    Calls Try.prog 116 #[.agg #[.int .i64 n, .slice oe es.length c], .int .i64 s0] w (ReachedPost w es n s0) := by
  have HNX := hide (nxA_lt (adj := adjG es) (n := n))
  go_enter Try.func116, Try.ntmps116
  go_wp2_with (at_make; refine wpList_make_row _ rfl _ _ 153 rfl 4 false 1 Try.underlying153 boolInfoG rfl .i64 .i64 _ _ n rfl rfl rfl rfl (by omega) (by unfold maxLen; omega) (fun w1 hrow hb1 hg1 => ?_); have c0 := hrow.cell (i := s0) (x := false) (by simp [hS]); have f0 := hrow.free s0; simp at c0 f0; have hp := hrow.put (i := s0) (by simp [hS]) true; simp only [World.size_alloc] at hp; have HG := hide hg1; clear hrow hg1)
  have hb0 : Below (w.heap.size + 1) (w.alloc (.cells #[.int .i64 n, .slice oe es.length c] 24)) (w1.setCell ⟨w.heap.size + 1, s0, none⟩ (.bool true)) := by
    have h := hb1
    simp only [World.size_alloc] at h
    exact h.setCell (by simp) _
  clear hb1 c0 f0
  go_loopw [6] (fun iv wr => ∃ (k : Nat) (bs : List Bool), k ≤ n ∧ iv = .int .i64 k ∧ Hid (Led (nxA (adjG es)) n n s0 k 0 bs) ∧ Row1 Value.bool wr (w.heap.size + 1) 4 bs [] ∧
      Below (w.heap.size + 1) (w.alloc (.cells #[.int .i64 n, .slice oe es.length c] 24)) wr) (fun iv _ => n - (intOf iv).toNat)
  case atStart => exact ⟨0, _, by omega, rfl, Led.begin hS, hp, hb0⟩
  case round =>
    obtain ⟨k, bs, hk, rfl, HL, hr, hb⟩ := hrel
    clear hb0 hp HG
    have d0 := box_cell hb 0
    simp at d0
    by_cases hlt : k < n
    · go_wp2_with fail
      obtain ⟨wo, rfl⟩ : ∃ wo : World, wo = wr := ⟨_, rfl⟩
      go_loopw [7] (fun iv wr => ∃ (t : Nat) (bs : List Bool), t ≤ n ∧ iv = .int .i64 t ∧ Hid (Led (nxA (adjG es)) n n s0 k t bs) ∧ Row1 Value.bool wr (w.heap.size + 1) 4 bs [] ∧
        Below (w.heap.size + 1) (w.alloc (.cells #[.int .i64 n, .slice oe es.length c] 24)) wr) (fun iv _ => n - (intOf iv).toNat)
      case atStart => exact ⟨0, _, by omega, rfl, HL, hr, hb⟩
      case round =>
        clear hb hr d0 HL
        obtain ⟨t, bs, ht, rfl, HL, hr, hb⟩ := hrel
        have d0 := box_cell hb 0
        simp at d0
        by_cases htl : t < n
        · go_wp2_with fail
          obtain ⟨wo, rfl⟩ : ∃ wo : World, wo = wr := ⟨_, rfl⟩
          go_loopw [8] (fun iv wr => ∃ (j : Nat) (bs : List Bool), j ≤ n ∧ iv = .int .i64 j ∧ Hid (InrG (nxA (adjG es)) n n s0 k t j bs) ∧ Row1 Value.bool wr (w.heap.size + 1) 4 bs [] ∧
            Below (w.heap.size + 1) (w.alloc (.cells #[.int .i64 n, .slice oe es.length c] 24)) wr) (fun iv _ => n - (intOf iv).toNat)
          case atStart => exact ⟨0, _, by omega, rfl, ⟨HL, fun _ a ha => by omega⟩, hr, hb⟩
          case round =>
            clear hb hr d0 HL
            obtain ⟨j, bs, hj, rfl, HI, hr, hb⟩ := hrel
            have d0 := box_cell hb 0
            have d1 := box_cell hb 1
            simp at d0 d1
            have hbl : bs.length = n := HI.out.1.len
            by_cases hjl : j < n
            · obtain ⟨bt, hbt⟩ : ∃ bt, bs[t]? = some bt := ⟨_, List.getElem?_eq_getElem (by omega)⟩
              have ct := hr.cell hbt
              have HBT := hide hbt
              clear hbt
              cases bt with
              | false =>
                have HI2 : Hid (InrG (nxA (adjG es)) n n s0 k t (j + 1) bs) := ⟨HI.out.1, fun h => by rw [HBT.out] at h; cases h⟩
                clear hbl
                go_wp2_with fail
                go_roundw
                case rel => exact ⟨j + 1, bs, by omega, by go_num, HI2, hr, hb⟩
                case measure => simp [intOf]; omega
              | true =>
                have hcall := betw_any n es oe c F wr (hs.below edgR_ok (below_box hb)) hc hc2 t j
                have HJL := hide hjl
                by_cases had : 0 < betw es t j
                · have hnx : nxA (adjG es) t j = j := by unfold nxA adjG; rw [if_pos (by simpa using had)]
                  have hset := HI.out.1.set HBT.out hjl (by rw [hnx]; exact hjl) (HI.out.2 HBT.out)
                  rw [hnx] at hset
                  have HI2 : Hid (InrG (nxA (adjG es)) n n s0 k t (j + 1) (bs.set j true)) := ⟨hset.1, fun _ => hset.2.2⟩
                  obtain ⟨bn, hbn⟩ : ∃ bn, bs[j]? = some bn := ⟨_, List.getElem?_eq_getElem (by omega)⟩
                  have hjb : j < bs.length := by omega
                  have HR := hide hr
                  clear hset hnx hbl
                  generalize betw es t j = x at had hcall
                  go_wp2_with fail
                  refine hcall.mono ?_
                  rintro e w4 ⟨rfl, hb4⟩
                  have hr4 := HR.out.below hb4
                  have cn := hr4.cell hbn
                  have fn := hr4.free j
                  have hp := hide (hr4.put hjb true)
                  have HB := hide ((hb.trans (hb4.mono (box_lt hb))).setCell (p := ⟨w.heap.size + 1, j, none⟩) (by simp) (.bool true))
                  clear hbn hr4 hr hb4 ct d0 d1
                  go_wp2_with fail
                  go_roundw
                  case rel => exact ⟨j + 1, _, by omega, by go_num, HI2, hp.out, HB.out⟩
                  case measure => simp [intOf]; omega
                · have hnx : nxA (adjG es) t j = t := by unfold nxA adjG; rw [if_neg (by simpa using had)]
                  have HI2 : Hid (InrG (nxA (adjG es)) n n s0 k t (j + 1) bs) := ⟨HI.out.1, fun h a ha => by
                    rcases Nat.lt_or_ge a j with h1 | h1
                    · exact HI.out.2 h a h1
                    · have : a = j := by omega
                      subst this
                      rw [hnx]
                      exact h⟩
                  have HR := hide hr
                  clear hnx hbl
                  generalize betw es t j = x at had hcall
                  go_wp2_with fail
                  refine hcall.mono ?_
                  rintro e w4 ⟨rfl, hb4⟩
                  have hr4 := hide (HR.out.below hb4)
                  have HB := hide (hb.trans (hb4.mono (box_lt hb)))
                  clear hr hb4 ct d0 d1
                  go_wp2_with fail
                  go_roundw
                  case rel => exact ⟨j + 1, bs, by omega, by go_num, HI2, hr4.out, HB.out⟩
                  case measure => simp [intOf]; omega
            · have hj2 : j = n := by omega
              subst hj2
              have HN := hide (HI.out.1.next fun h => HI.out.2 h)
              clear hbl
              go_wp2_with fail
              go_roundw
              case rel => exact ⟨t + 1, bs, by omega, by go_num, HN, hr, hb⟩
              case measure => simp [intOf]; omega
        · have h2 : t = n := by omega
          subst h2
          have HN := hide (HL.out.round hS HNX.out)
          go_wp2_with fail
          go_roundw
          case rel => exact ⟨k + 1, bs, by omega, by go_num, HN, hr, hb⟩
          case measure => simp [intOf]; omega
    · have h2 : k = n := by omega
      subst h2
      have HN := hide (HL.out.all hS HNX.out)
      go_wp2_with fail
      go_ret
      exact ⟨w.heap.size + 1, bs, rfl, HN.out, hr, by omega, below_box hb⟩

end Go.Proofs.Ytopldbnlehjlpaa

set_option linter.unusedVariables false
set_option linter.unusedSimpArgs false
namespace Go.Proofs.Ytopldbnlehjlpaa
open Go.RowKit

/-- a with b laid over its first j places. -/
def mixB (a b : List Bool) (j : Nat) : List Bool := (List.range a.length).map fun i => if i < j then a.getD i false || b.getD i false else a.getD i false
theorem mixB_len (a b : List Bool) (j : Nat) : (mixB a b j).length = a.length := by simp [mixB]
theorem mixB_get {a b : List Bool} {j i : Nat} (hi : i < a.length) : (mixB a b j)[i]? = some (if i < j then a.getD i false || b.getD i false else a.getD i false) := by
  simp [mixB, hi]
theorem mixB_zero (a b : List Bool) : mixB a b 0 = a := by
  apply List.ext_getElem?
  intro i
  rcases Nat.lt_or_ge i a.length with hi | hi
  · rw [mixB_get hi]; simp [hi]
  · rw [List.getElem?_eq_none (by rw [mixB_len]; exact hi), List.getElem?_eq_none hi]
theorem mixB_step {a b : List Bool} {j : Nat} (hj : j < a.length) : (mixB a b j).set j (a.getD j false || b.getD j false) = mixB a b (j + 1) := by
  apply List.ext_getElem?
  intro i
  rcases Nat.lt_or_ge i a.length with hi | hi
  · rw [mixB_get hi]
    by_cases e : j = i
    · subst e
      rw [List.getElem?_set_self (by rw [mixB_len]; exact hj), if_pos (by omega)]
    · rw [List.getElem?_set_ne e, mixB_get hi]
      by_cases h : i < j
      · rw [if_pos h, if_pos (by omega)]
      · rw [if_neg h, if_neg (by omega)]
  · rw [List.getElem?_eq_none (by simp [mixB_len]; exact hi), List.getElem?_eq_none (by rw [mixB_len]; exact hi)]

theorem betw_pos {es : List Edg} (h : ∀ x ∈ es, 1 ≤ x.m ∧ x.a ≤ x.b ∧ 0 ≤ x.a ∧ 0 ≤ x.b) (a b : Nat) : 0 < betw es a b ↔ (a, b) ∈ eL es ∨ (b, a) ∈ eL es := by
  induction es with
  | nil => simp [betw, eL]
  | cons x r ih =>
    have ih := ih fun y hy => h y (by simp [hy])
    have hx := h x (by simp)
    have hmem : ∀ p : Nat × Nat, p ∈ eL (x :: r) ↔ p = (x.a.toNat, x.b.toNat) ∨ p ∈ eL r := fun p => by simp [eL]
    rw [hmem, hmem, betw]
    split
    · rename_i he
      constructor
      · intro _
        rcases Nat.le_total a b with hab | hab
        · left; left
          rw [Prod.mk.injEq]
          omega
        · right; left
          rw [Prod.mk.injEq]
          omega
      · intro _; omega
    · rename_i he
      rw [ih]
      constructor
      · rintro (h1 | h1)
        · exact .inl (.inr h1)
        · exact .inr (.inr h1)
      · rintro ((h1 | h1) | (h1 | h1))
        · exfalso
          rw [Prod.mk.injEq] at h1
          apply he
          omega
        · exact .inl h1
        · exfalso
          rw [Prod.mk.injEq] at h1
          apply he
          omega
        · exact .inr h1
theorem adj_eL {n : Int} {es : List Edg} (hV : gErr n es = 0) (a b : Nat) : adjG es a b = true ↔ (a, b) ∈ eL es ∨ (b, a) ∈ eL es := by
  unfold adjG
  rw [decide_eq_true_iff]
  exact betw_pos (fun x hx => by have := (gErr_zero hV).2.1 x hx; omega) a b
theorem eL_ltN {n : Nat} {es : List Edg} (hV : gErr n es = 0) : ∀ x ∈ eL es, x.1 < n ∧ x.2 < n := by
  intro x hx
  simp only [eL, List.mem_map] at hx
  obtain ⟨y, hy, rfl⟩ := hx
  have h := (gErr_zero hV).2.1 y hy
  constructor
  · simp only; omega
  · simp only; omega
theorem leads_tied {n : Nat} {es : List Edg} (hV : gErr n es = 0) {s : Nat} {bs : List Bool} (h : Leads (nxA (adjG es)) n n s bs) (x : Nat) : bs[x]? = some true ↔ Tied (eL es) s x :=
  (h.2 x).trans (rch_tied (adj_eL hV) (eL_ltN hV))

/-- What was seen so far. -/
structure Seen (E : List (Nat × Nat)) (n k : Nat) (bs : List Bool) : Prop where
  len : bs.length = n
  iff : ∀ x, x < n → (bs[x]? = some true ↔ ∃ u, u < k ∧ Tied E u x)
theorem Seen.begin (E : List (Nat × Nat)) (n : Nat) : Seen E n 0 (List.replicate n false) :=
  ⟨by simp, fun x hx => by simp [hx]⟩
theorem Seen.old {E : List (Nat × Nat)} {n k : Nat} {bs : List Bool} (h : Seen E n k bs) (hk : k < n) (hb : bs[k]? = some true) : Seen E n (k + 1) bs := by
  refine ⟨h.len, fun x hx => ?_⟩
  rw [h.iff x hx]
  obtain ⟨u0, hu0, ht0⟩ := (h.iff k hk).1 hb
  constructor
  · rintro ⟨u, hu, ht⟩; exact ⟨u, by omega, ht⟩
  · rintro ⟨u, hu, ht⟩
    rcases Nat.lt_or_ge u k with h1 | h1
    · exact ⟨u, h1, ht⟩
    · have : u = k := by omega
      subst this
      exact ⟨u0, hu0, ht0.trans ht⟩
theorem Seen.more {E : List (Nat × Nat)} {n k : Nat} {bs cs : List Bool} (h : Seen E n k bs) (hc : cs.length = n) (hr : ∀ x, cs[x]? = some true ↔ Tied E k x) : Seen E n (k + 1) (mixB bs cs n) := by
  refine ⟨by rw [mixB_len, h.len], fun x hx => ?_⟩
  rw [mixB_get (by rw [h.len]; exact hx), if_pos hx]
  have h1 := h.iff x hx
  have h2 := hr x
  have e1 : bs.getD x false = true ↔ bs[x]? = some true := true_of_getD (by rw [h.len]; exact hx)
  have e2 : cs.getD x false = true ↔ cs[x]? = some true := true_of_getD (by rw [hc]; exact hx)
  rw [Option.some.injEq, Bool.or_eq_true, e1, e2, h1, h2]
  constructor
  · rintro (⟨u, hu, ht⟩ | ht)
    · exact ⟨u, by omega, ht⟩
    · exact ⟨k, by omega, ht⟩
  · rintro ⟨u, hu, ht⟩
    rcases Nat.lt_or_ge u k with h1 | h1
    · exact .inl ⟨u, h1, ht⟩
    · have : u = k := by omega
      subst this
      exact .inr ht
theorem Seen.root {E : List (Nat × Nat)} {f : List Nat} (hf : Uf f E) {n k : Nat} {bs : List Bool} (h : Seen E n k bs) (hk : k < n) (hn : n ≤ 12) : bs[k]? = some true ↔ ¬ rootF f k = k := by
  rw [h.iff k hk, hf.least (by omega)]
  constructor
  · rintro ⟨u, hu, ht⟩ h2; exact h2 u hu ht
  · intro h2
    exact Classical.byContradiction fun h3 => h2 fun u hu ht => h3 ⟨u, hu, ht⟩

set_option maxRecDepth 100000 in
set_option maxHeartbeats 4000000 in
theorem rparts_any (n : Nat) (es : List Edg) (oe : Option Addr) (c : Nat) (F : Foot) (w : World) (hs : SliceR edgR 3 F w oe es) (hc : es.length ≤ c) (hc2 : es.length ≤ 9223372036854775807)
    (hV : Hid (gErr n es = 0)) (f : List Nat) (hU : Hid (Uf f (eL es))) : Calls Try.prog 107 #[.agg #[.int .i64 n, .slice oe es.length c]] w (ErrPost w (cnt f n : Nat)) := by
  have hn : n ≤ 12 := by have := (gErr_zero hV.out).1; omega
  go_enter Try.func107, Try.ntmps107
  go_wp2_with (at_make; refine wpList_make_row _ rfl _ _ 153 rfl 4 false 1 Try.underlying153 boolInfoG rfl .i64 .i64 _ _ n rfl rfl rfl rfl (by omega) (by unfold maxLen; omega) (fun w1 hrow hb1 hg1 => ?_); simp only [World.size_alloc] at hrow hb1)
  clear hg1
  go_loopw [3, 5] (fun pv iv wr => ∃ (k : Nat) (bs : List Bool), k ≤ n ∧ iv = .int .i64 k ∧ pv = .int .i64 (cnt f k : Nat) ∧ Hid (Seen (eL es) n k bs) ∧ Row1 Value.bool wr (w.heap.size + 1) 4 bs [] ∧
      Below (w.heap.size + 1) (w.alloc (.cells #[.int .i64 n, .slice oe es.length c] 24)) wr) (fun _ iv _ => n - (intOf iv).toNat)
  case atStart => exact ⟨0, _, by omega, rfl, rfl, Seen.begin _ _, hrow, hb1⟩
  case round =>
    clear hrow hb1
    obtain ⟨k, bs, hk, rfl, rfl, HS, hr, hb⟩ := hrel
    have d0 := box_cell hb 0
    have d1 := box_cell hb 1
    simp at d0 d1
    have hck : cnt f k ≤ k := by
      have := List.length_filter_le (fun v => rootF f v == v) (List.range k)
      simpa [cnt] using this
    by_cases hlt : k < n
    · have HROOT := hide (HS.out.root hU.out hlt hn)
      obtain ⟨bt, hbt⟩ : ∃ bt, bs[k]? = some bt := ⟨_, List.getElem?_eq_getElem (by rw [HS.out.len]; exact hlt)⟩
      have ct := hr.cell hbt
      have HBT := hide hbt
      clear hbt
      cases bt with
      | true =>
        have HC : Hid (cnt f (k + 1) = cnt f k) := cnt_no (HROOT.out.1 HBT.out)
        have HN := hide (HS.out.old hlt HBT.out)
        generalize cnt f k = p at hck HC
        go_wp2_with fail
        go_roundw
        case rel => exact ⟨k + 1, bs, by omega, by go_num, by rw [HC.out], HN, hr, hb⟩
        case measure => simp [intOf]; omega
      | false =>
        have hroot : rootF f k = k := Classical.byContradiction fun h => by
          have := HROOT.out.2 h
          rw [HBT.out] at this
          cases this
        have HC : Hid (cnt f (k + 1) = cnt f k + 1) := cnt_yes hroot
        have hcall := reached_any n hn es oe c F wr (hs.below edgR_ok (below_box hb)) hc hc2 k hlt
        clear hroot
        generalize cnt f k = p at hck HC
        go_wp2_with fail
        refine hcall.mono ?_
        rintro e w4 ⟨g, cs, rfl, hle, hrc, hg, hb4⟩
        have HLT := hide (leads_tied hV.out hle)
        have hcl : cs.length = n := hle.1
        have hr4 := hr.below hb4
        have hx4 := hb.trans (hb4.mono (box_lt hb))
        have hgne : w.heap.size + 1 < g := by have := hr.lt; omega
        have HM : Hid (Seen (eL es) n (k + 1) (mixB bs cs n)) := HS.out.more hcl HLT.out
        have hbl : bs.length = n := HS.out.len
        clear hb4 hr hb ct d0 d1 hle
        have d0 := box_cell hx4 0
        simp at d0
        have hz := mixB_zero bs cs
        go_wp2_with fail
        obtain ⟨wo, rfl⟩ : ∃ wo : World, wo = w4 := ⟨_, rfl⟩
        go_loopw [7] (fun iv wr => ∃ (j : Nat), j ≤ n ∧ iv = .int .i64 j ∧ Row1 Value.bool wr (w.heap.size + 1) 4 (mixB bs cs j) [] ∧ Row1 Value.bool wr g 4 cs [] ∧
          Below (w.heap.size + 1) (w.alloc (.cells #[.int .i64 n, .slice oe es.length c] 24)) wr) (fun iv _ => n - (intOf iv).toNat)
        case atStart => exact ⟨0, by omega, rfl, by rw [hz]; exact hr4, hrc, hx4⟩
        case round =>
          clear hr4 hrc hx4 d0 hz
          obtain ⟨j, hj, rfl, hr, hrc, hb⟩ := hrel
          have d0 := box_cell hb 0
          simp at d0
          by_cases hjl : j < n
          · have h1 : (mixB bs cs j)[j]? = some (bs.getD j false) := by rw [mixB_get (by omega), if_neg (by omega)]
            have h2 : cs[j]? = some (cs.getD j false) := by rw [List.getD_eq_getElem?_getD, List.getElem?_eq_getElem (by omega)]; rfl
            have c1 := hr.cell h1
            have c2 := hrc.cell h2
            have f1 := hr.free j
            have hp := hide (hr.put (i := j) (by rw [mixB_len]; omega) (bs.getD j false || cs.getD j false))
            have HMS := hide (mixB_step (a := bs) (b := cs) (j := j) (by omega))
            have HRC := hide (hrc.other (p := ⟨w.heap.size + 1, j, none⟩) (by simp; omega) (.bool (bs.getD j false || cs.getD j false)))
            have HB := hide (hb.setCell (p := ⟨w.heap.size + 1, j, none⟩) (by simp) (.bool (bs.getD j false || cs.getD j false)))
            clear h1 h2
            generalize bs.getD j false = b1 at *
            generalize cs.getD j false = b2 at *
            cases b1 with
            | true =>
              go_wp2_with fail
              go_roundw
              case rel => exact ⟨j + 1, by omega, by go_num, by rw [← HMS.out]; exact hp.out, HRC.out, HB.out⟩
              case measure => simp [intOf]; omega
            | false =>
              go_wp2_with fail
              go_roundw
              case rel => exact ⟨j + 1, by omega, by go_num, by rw [← HMS.out]; exact hp.out, HRC.out, HB.out⟩
              case measure => simp [intOf]; omega
          · have : j = n := by omega
            subst this
            go_wp2_with fail
            go_roundw
            case rel => exact ⟨k + 1, _, by omega, by go_num, by rw [HC.out]; go_num, HM, hr, hb⟩
            case measure => simp [intOf]; omega
    · have : k = n := by omega
      subst this
      go_wp2_with fail
      go_ret
      exact ⟨rfl, below_box hb⟩

end Go.Proofs.Ytopldbnlehjlpaa

set_option linter.unusedVariables false
set_option linter.unusedSimpArgs false
namespace Go.Proofs.Ytopldbnlehjlpaa
open Go.RowKit

set_option maxRecDepth 100000 in
theorem rconn_any (n : Nat) (es : List Edg) (oe : Option Addr) (c : Nat) (F : Foot) (w : World) (hs : SliceR edgR 3 F w oe es) (hc : es.length ≤ c) (hc2 : es.length ≤ 9223372036854775807)
    (hV : Hid (gErr n es = 0)) (f : List Nat) (hU : Hid (Uf f (eL es))) : Calls Try.prog 91 #[.agg #[.int .i64 n, .slice oe es.length c]] w fun e w' => e = .returned (.bool (cnt f n == 1)) ∧ Below w.heap.size w w' := by
  go_enter Try.func91, Try.ntmps91
  go_wp2_with fail
  have hb0 := box_refl w (.cells #[.int .i64 n, .slice oe es.length c] 24)
  refine (rparts_any n es oe c F _ (hs.below edgR_ok (below_box hb0)) hc hc2 hV f hU).mono ?_
  rintro e w2 ⟨rfl, hb2⟩
  have hx := hide (below_box (hb2.mono (B' := w.heap.size + 1) (by simp)))
  clear hb2 hb0
  go_wp2_with fail
  go_ret
  refine ⟨ret_bool ?_, hx.out⟩
  rw [Bool.eq_iff_iff]
  simp
  omega

set_option maxRecDepth 100000 in
set_option maxHeartbeats 1000000 in
theorem rjoined_any (n : Int) (es : List Edg) (oe : Option Addr) (c : Nat) (F : Foot) (w : World) (hs : SliceR edgR 3 F w oe es) (hc : es.length ≤ c) (hc2 : es.length ≤ 9223372036854775807)
    (f : List Nat) (hU : Hid (gErr n es = 0 → Uf f (eL es))) : Calls Try.prog 74 #[.agg #[.int .i64 n, .slice oe es.length c]] w (ErrPost w (jErr n es f)) := by
  go_enter Try.func74, Try.ntmps74
  go_wp2_with fail
  have hb0 := box_refl w (.cells #[.int .i64 n, .slice oe es.length c] 24)
  refine (rgcheck_any n es oe c F _ (hs.below edgR_ok (below_box hb0)) hc hc2).mono ?_
  rintro e w2 ⟨rfl, hb2⟩
  have hx2 := hb2.mono (B' := w.heap.size + 1) (by simp)
  have d0 := box_cell hx2 0
  have d1 := box_cell hx2 1
  simp at d0 d1
  clear hb2 hb0
  have hs2 := hs.below edgR_ok (below_box hx2)
  by_cases hV : gErr n es = 0
  · have HJ : Hid (jErr n es f = if partsN n es f = 1 then 0 else 13) := if_pos hV
    have HP : Hid (partsN n es f = cnt f n.toNat) := if_pos hV
    have HV := hide hV
    have hn := (gErr_zero hV).1
    rw [hV]
    clear hV
    obtain ⟨N, rfl⟩ := Int.eq_ofNat_of_zero_le (show 0 ≤ n by omega)
    have HUF := hide (hU.out HV.out)
    go_wp2_with fail
    refine (rconn_any N es oe c F _ hs2 hc hc2 HV f HUF).mono ?_
    rintro e w3 ⟨rfl, hb3⟩
    have HX := hide (below_box (hx2.trans (hb3.mono (box_lt hx2))))
    clear hb3 hs2 d0 d1 hx2
    by_cases hp : cnt f N = 1
    · have HJ2 : Hid (jErr (N : Int) es f = 0) := by show _ = _; rw [HJ.out, HP.out]; exact if_pos hp
      have hq : (cnt f N == 1) = true := by simpa using hp
      clear hp
      go_wp2_with fail
      go_ret
      exact ⟨ret_int HJ2.out.symm, HX.out⟩
    · have HJ2 : Hid (jErr (N : Int) es f = 13) := by show _ = _; rw [HJ.out, HP.out]; exact if_neg hp
      have hq : (cnt f N == 1) = false := by simpa using hp
      clear hp
      go_wp2_with fail
      go_ret
      exact ⟨ret_int HJ2.out.symm, HX.out⟩
  · have HJ : Hid (jErr n es f = gErr n es) := if_neg hV
    have hx := hide (below_box hx2)
    have hq : (gErr n es != 0) = true := by simpa using hV
    go_wp2_with fail
    go_ret
    exact ⟨ret_int HJ.out.symm, hx.out⟩

end Go.Proofs.Ytopldbnlehjlpaa

set_option linter.unusedVariables false
set_option linter.unusedSimpArgs false
set_option linter.unnecessarySimpa false
namespace Go.Proofs.Ytopldbnlehjlpaa
open Go.RowKit

set_option maxRecDepth 100000 in
set_option maxHeartbeats 1000000 in
theorem rbcheck_any (n : Int) (es : List Edg) (oe : Option Addr) (c : Nat) (ar : List (List Int)) (oa : Option Addr) (ca : Nat) (F G : Foot) (w : World) (hs : SliceR edgR 3 F w oe es) (hc : es.length ≤ c) (hc2 : es.length ≤ 1000)
    (ha : SliceR (slcR intR 1) 1 G w oa ar) (hac : ar.length ≤ ca) (hac2 : ar.length ≤ 9223372036854775807) (f : List Nat) (hU : Hid (gErr n es = 0 → Uf f (eL es))) :
    Calls Try.prog 47 #[.agg #[.int .i64 n, .slice oe es.length c, .slice oa ar.length ca]] w (ErrPost w (chkE n es f ar)) := by
  go_enter Try.func47, Try.ntmps47
  go_wp2_with fail
  have hb0 := box_refl w (.cells #[.int .i64 n, .slice oe es.length c, .slice oa ar.length ca] 27)
  refine (checked_any n es oe c ar oa ca F G _ (hs.below edgR_ok (below_box hb0)) hc hc2 (ha.below (slcR_ok intR_ok (by decide)) (below_box hb0)) hac hac2 f hU).mono ?_
  rintro e w2 ⟨v, rfl, ho, hb2⟩
  have hx := hide (below_box (hb2.mono (B' := w.heap.size + 1) (by simp)))
  clear ho hb2 hb0
  go_wp2_with fail
  go_ret
  exact ⟨rfl, hx.out⟩

set_option maxRecDepth 100000 in
set_option maxHeartbeats 4000000 in
theorem r44check_any (n : Int) (es : List Edg) (oe : Option Addr) (c : Nat) (ar : List (List Int)) (oa : Option Addr) (ca : Nat) (F G : Foot) (w : World) (hs : SliceR edgR 3 F w oe es) (hc : es.length ≤ c) (hc2 : es.length ≤ 1000)
    (ha : SliceR (slcR intR 1) 1 G w oa ar) (hac : ar.length ≤ ca) (hac2 : ar.length ≤ 9223372036854775807) (f : List Nat) (hU : Hid (gErr n es = 0 → Uf f (eL es))) :
    Calls Try.prog 48 #[.agg #[.int .i64 n, .slice oe es.length c, .slice oa ar.length ca]] w (ErrPost w (chkE n es f ar)) := by
  go_enter Try.func48, Try.ntmps48
  go_wp2_with fail
  have hb0 := box_refl w (.cells #[.int .i64 n, .slice oe es.length c, .slice oa ar.length ca] 27)
  refine (rjoined_any n es oe c F _ (hs.below edgR_ok (below_box hb0)) hc (by omega) f hU).mono ?_
  rintro e w2 ⟨rfl, hb2⟩
  have hx2 := hb2.mono (B' := w.heap.size + 1) (by simp)
  have d0 := box_cell hx2 0
  have d2 := box_cell hx2 2
  simp at d0 d2
  clear hb2 hb0
  by_cases hJ : jErr n es f = 0
  · have hV := jErr_zero hJ
    have HV := hide hV
    have HC : Hid (chkE n es f ar = if (ar.length : Int) = n then rowsE ar (halfs n es) else 8) := if_pos hJ
    rw [hJ]
    by_cases hn : (ar.length : Int) = n
    · have HC2 : Hid (chkE n es f ar = rowsE ar (halfs n es)) := by show _ = _; rw [HC.out, if_pos hn]
      have hn12 := (gErr_zero hV).1
      have hq : ((ar.length : Int) != n) = false := by simp [hn]
      obtain ⟨N, rfl⟩ := Int.eq_ofNat_of_zero_le (show 0 ≤ n by omega)
      have hNar : ar.length = N := by omega
      have HNA := hide hNar
      have HH : Hid (halfs (N : Int) es = halvesU N (endsL es) (2 * (endsL es).length)) := rfl
      clear hn hV hJ hNar
      go_wp2_with fail
      go_loopw [4] (fun iv wr => ∃ k : Nat, k ≤ N ∧ iv = .int .i64 k ∧ Hid (chkE (N : Int) es f ar = rowsE (ar.drop k) ((halfs (N : Int) es).drop k)) ∧ Below (w.heap.size + 1) (w.alloc (.cells #[.int .i64 N, .slice oe es.length c, .slice oa ar.length ca] 27)) wr) (fun iv _ => N - (intOf iv).toNat)
      case atStart => exact ⟨0, by omega, rfl, HC2, hx2⟩
      case round =>
        clear hx2 d0 d2
        obtain ⟨k, hk, rfl, HS, hxr⟩ := hrel
        have hbw := below_box hxr
        have d0 := box_cell hxr 0
        have d1 := box_cell hxr 1
        have d2 := box_cell hxr 2
        simp at d0 d1 d2
        by_cases hlt : k < N
        · obtain ⟨x, hd, hget, b, off, ol, cl, hoa, _, c0, hxl, hxl2, hsl⟩ := (ha.below (slcR_ok intR_ok (by decide)) hbw).slc_at (i := k) (by have := HNA.out; omega)
          subst hoa
          have HNB := HNA.out
          obtain ⟨own, hown⟩ : ∃ own, own = halfU (endsL es) (2 * (endsL es).length) k := ⟨_, rfl⟩
          have HS2 : Hid (chkE (N : Int) es f ar = if listE x own = 0 then rowsE (ar.drop (k + 1)) ((halfs (N : Int) es).drop (k + 1)) else listE x own) := by
            show _ = _
            have hho := halvesU_get (l := endsL es) (H := 2 * (endsL es).length) hlt
            have hd2 : (halfs (N : Int) es).drop k = own :: (halfs (N : Int) es).drop (k + 1) := by
              rw [HH.out]
              have hkl : k < (halvesU N (endsL es) (2 * (endsL es).length)).length := by simp [halvesU, hlt]
              rw [List.drop_eq_getElem_cons hkl]
              congr 1
              rw [List.getElem?_eq_getElem hkl] at hho
              injection hho with hho
              rw [hho, hown]
            rw [HS.out, hd, hd2, rowsE_cons]
          have HDEG : Hid (degU N es (k : Nat) = (own.length : Nat)) := by show _ = _; rw [hown]; exact deg_half HV.out k
          have HOWN := hide hown
          have hkar : k < ar.length := by omega
          clear hown hd hget HNB
          have hcall := fun W (h : Below w.heap.size w W) (h2 : SliceR intR 1 G W ol x) => raround_any N es oe c F W (hs.below edgR_ok h) hc hc2 HV k x ol cl G h2 hxl hxl2 own HOWN HDEG
          have hq1 : (k : Int) < ar.length := by omega
          by_cases hle : listE x own = 0
          · have HS3 : Hid (chkE (N : Int) es f ar = rowsE (ar.drop (k + 1)) ((halfs (N : Int) es).drop (k + 1))) := by show _ = _; rw [HS2.out, if_pos hle]
            go_wp2_with fail
            go_region_held3 (fun w' => w'.cell? ⟨w.heap.size, 0, none⟩ = some (.int .i64 N) ∧ w'.cell? ⟨w.heap.size, 1, none⟩ = some (.slice oe es.length c) ∧ w'.cell? ⟨w.heap.size, 2, none⟩ = some (.slice (some ⟨b, off, none⟩) ar.length ca) ∧ w'.cell? ⟨b, off + k, none⟩ = some (.slice ol x.length cl)) (first | exact ⟨d0, d1, d2, c0⟩) (first
              | (go_at_call 75; refine (hcall _ hbw.drew (hsl.drew1 intR_ok)).mono ?_; rintro e w5 ⟨rfl, h5⟩; rw [hle]; have d0 := (h5.cell (World.block_lt_of_cell? _ _ d0)).trans d0; have d1 := (h5.cell (World.block_lt_of_cell? _ _ d1)).trans d1; have d2 := (h5.cell (World.block_lt_of_cell? _ _ d2)).trans d2; have c0 := (h5.cell (World.block_lt_of_cell? _ _ c0)).trans c0; have hxr := box_then hxr.drew (by simp) h5))
            all_goals
              clear hle
              go_wp2_with fail
              go_roundw
              case rel => exact ⟨k + 1, by omega, by go_num, HS3, hxr⟩
              case measure => simp [intOf]; omega
          · have HS3 : Hid (chkE (N : Int) es f ar = listE x own) := by show _ = _; rw [HS2.out, if_neg hle]
            have hq2 : (listE x own != 0) = true := by simpa using hle
            have HLE := hide hle
            clear hle
            go_wp2_with fail
            go_region_held3 (fun w' => w'.cell? ⟨w.heap.size, 0, none⟩ = some (.int .i64 N) ∧ w'.cell? ⟨w.heap.size, 1, none⟩ = some (.slice oe es.length c) ∧ w'.cell? ⟨w.heap.size, 2, none⟩ = some (.slice (some ⟨b, off, none⟩) ar.length ca) ∧ w'.cell? ⟨b, off + k, none⟩ = some (.slice ol x.length cl)) (first | exact ⟨d0, d1, d2, c0⟩) (first
              | (go_at_call 75; refine (hcall _ hbw.drew (hsl.drew1 intR_ok)).mono ?_; rintro e w5 ⟨rfl, h5⟩; have d0 := (h5.cell (World.block_lt_of_cell? _ _ d0)).trans d0; have d1 := (h5.cell (World.block_lt_of_cell? _ _ d1)).trans d1; have d2 := (h5.cell (World.block_lt_of_cell? _ _ d2)).trans d2; have c0 := (h5.cell (World.block_lt_of_cell? _ _ c0)).trans c0; have hxr := box_then hxr.drew (by simp) h5))
            all_goals
              go_wp2_with fail
              go_ret
              exact ⟨ret_int HS3.out.symm, below_box hxr⟩
        · have HS3 : Hid (chkE (N : Int) es f ar = 0) := by
            show _ = _
            rw [HS.out, List.drop_of_length_le (by have := HNA.out; omega)]
            rfl
          go_wp2_with fail
          go_ret
          exact ⟨ret_int HS3.out.symm, hbw⟩
    · have HC2 : Hid (chkE n es f ar = 8) := by show _ = _; rw [HC.out, if_neg hn]
      have hq : ((ar.length : Int) != n) = true := by simpa using hn
      have HX := hide (below_box hx2)
      clear hn
      go_wp2_with fail
      go_ret
      exact ⟨ret_int HC2.out.symm, HX.out⟩
  · have HC : Hid (chkE n es f ar = jErr n es f) := if_neg hJ
    have hq : (jErr n es f != 0) = true := by simpa using hJ
    have HX := hide (below_box hx2)
    have HJ := hide hJ
    clear hJ
    go_wp2_with fail
    go_ret
    exact ⟨ret_int HC.out.symm, HX.out⟩

end Go.Proofs.Ytopldbnlehjlpaa

set_option linter.unusedVariables false
set_option linter.unusedSimpArgs false
set_option linter.unnecessarySimpa false
namespace Go.Proofs.Ytopldbnlehjlpaa
open Go.RowKit

def badR (q : Int) (v : Nat) (k : Int) (d : Nat) : Prop := k < 0 ∨ ((v : Int) = q ∧ k ≠ 0) ∨ ((v : Int) ≠ q ∧ (d : Int) ≤ k)
instance (q : Int) (v : Nat) (k : Int) (d : Nat) : Decidable (badR q v k d) := by unfold badR; infer_instance
/-- The error of the rotors, from the vertex v on. -/
def rotE (q : Int) : Nat → List (List Int) → List Int → Int
  | v, a :: ar, k :: r => if badR q v k a.length then 2 else rotE q (v + 1) ar r
  | _, _, _ => 0
theorem rotE_cons (q : Int) (v : Nat) (a : List Int) (ar : List (List Int)) (k : Int) (r : List Int) : rotE q v (a :: ar) (k :: r) = if badR q v k a.length then 2 else rotE q (v + 1) ar r := rfl
theorem rotE_nil (q : Int) (v : Nat) (r : List Int) : rotE q v [] r = 0 := by cases r <;> rfl
/-- The error of a rotor configuration. -/
def rtE (n : Int) (es : List Edg) (f : List Nat) (ar : List (List Int)) (q : Int) (rot : List Int) : Int :=
  if chkE n es f ar = 0 then (if vtxB n q = true then (if (rot.length : Int) = n then rotE q 0 ar rot else 8) else 2) else chkE n es f ar
theorem chkE_zero {n : Int} {es : List Edg} {f : List Nat} {ar : List (List Int)} (h : chkE n es f ar = 0) : jErr n es f = 0 ∧ (ar.length : Int) = n ∧ rowsE ar (halfs n es) = 0 := by
  unfold chkE at h
  split at h
  · rename_i h1
    split at h
    · rename_i h2; exact ⟨h1, h2, h⟩
    · cases h
  · rename_i h1; exact absurd h h1
theorem rtE_zero {n : Int} {es : List Edg} {f : List Nat} {ar : List (List Int)} {q : Int} {rot : List Int} (h : rtE n es f ar q rot = 0) :
    chkE n es f ar = 0 ∧ (0 ≤ q ∧ q < n) ∧ (rot.length : Int) = n ∧ rotE q 0 ar rot = 0 := by
  unfold rtE at h
  split at h
  · rename_i h1
    split at h
    · rename_i h2
      split at h
      · rename_i h3; exact ⟨h1, vtxB_iff.1 h2, h3, h⟩
      · cases h
    · cases h
  · rename_i h1; exact absurd h h1

set_option maxRecDepth 100000 in
set_option maxHeartbeats 8000000 in
theorem rotcheck_any (n : Int) (es : List Edg) (oe : Option Addr) (c : Nat) (ar : List (List Int)) (oa : Option Addr) (ca : Nat) (F G : Foot) (w : World) (hs : SliceR edgR 3 F w oe es) (hc : es.length ≤ c) (hc2 : es.length ≤ 1000)
    (ha : SliceR (slcR intR 1) 1 G w oa ar) (hac : ar.length ≤ ca) (hac2 : ar.length ≤ 9223372036854775807) (f : List Nat) (hU : Hid (gErr n es = 0 → Uf f (eL es)))
    (q : Int) (rot : List Int) (ot : Option Addr) (ct : Nat) (H : Foot) (hr : SliceR intR 1 H w ot rot) (hrc : rot.length ≤ ct) (hrl : rot.length ≤ 9223372036854775807) :
    Calls Try.prog 17 #[.agg #[.int .i64 n, .slice oe es.length c, .slice oa ar.length ca], .int .i64 q, .slice ot rot.length ct] w (ErrPost w (rtE n es f ar q rot)) := by
  go_enter Try.func17, Try.ntmps17
  go_wp2_with fail
  have hb0 := box_refl w (.cells #[.int .i64 n, .slice oe es.length c, .slice oa ar.length ca] 27)
  refine (rbcheck_any n es oe c ar oa ca F G _ (hs.below edgR_ok (below_box hb0)) hc hc2 (ha.below (slcR_ok intR_ok (by decide)) (below_box hb0)) hac hac2 f hU).mono ?_
  rintro e w2 ⟨rfl, hb2⟩
  have hx2 := hb2.mono (B' := w.heap.size + 1) (by simp)
  have d0 := box_cell hx2 0
  have d1 := box_cell hx2 1
  simp at d0 d1
  have HX := hide (below_box hx2)
  have HX2 := hide hx2
  clear hb2 hb0 hx2
  by_cases hJ : chkE n es f ar = 0
  · have HC : Hid (rtE n es f ar q rot = if vtxB n q = true then (if (rot.length : Int) = n then rotE q 0 ar rot else 8) else 2) := if_pos hJ
    have HN := hide (chkE_zero hJ).2.1
    rw [hJ]
    clear hJ
    by_cases hV : 0 ≤ q ∧ q < n
    · have HV := hide (vtxB_iff.2 hV)
      have q1 : decide (q < 0) = false := by simp; omega
      have q2 : decide (n ≤ q) = false := by simp; omega
      have q3 : decide (q < n) = true := by simp; omega
      have hqn : 0 ≤ q := hV.1
      clear hV
      by_cases hlen : (rot.length : Int) = n
      · have HC2 : Hid (rtE n es f ar q rot = rotE q 0 ar rot) := by show _ = _; rw [HC.out, if_pos HV.out, if_pos hlen]
        have q4 : ((rot.length : Int) != n) = false := by simp [hlen]
        have hra : Hid (ar.length = rot.length) := by have h1 := HN.out; show _ = _; omega
        have HLen := hide hlen
        clear hlen
        go_wp2_with fail
        go_loopw [32] (fun iv wr => ∃ k : Nat, k ≤ rot.length ∧ iv = .int .i64 k ∧ Hid (rtE n es f ar q rot = rotE q k (ar.drop k) (rot.drop k)) ∧ Below (w.heap.size + 1) (w.alloc (.cells #[.int .i64 n, .slice oe es.length c, .slice oa ar.length ca] 27)) wr) (fun iv _ => rot.length - (intOf iv).toNat)
        case atStart => exact ⟨0, by omega, rfl, HC2, HX2.out⟩
        case round =>
          clear d0 d1
          obtain ⟨k, hk, rfl, HS, hxr⟩ := hrel
          have hbw := below_box hxr
          have d0 := box_cell hxr 0
          have d1 := box_cell hxr 1
          simp at d0 d1
          by_cases hlt : k < rot.length
          · obtain ⟨x, hd, _, _, b, off, hot, _, c0⟩ := (hr.below intR_ok hbw).int_at hlt
            obtain ⟨a, hda, _, b2, off2, ol, cl, hoa, _, c1, hxl, hxl2, _⟩ := (ha.below (slcR_ok intR_ok (by decide)) hbw).slc_at (i := k) (by rw [hra.out]; exact hlt)
            subst hot hoa
            have d2 := box_cell hxr 2
            simp at d2
            have hka : k < ar.length := by rw [hra.out]; exact hlt
            have hkq1 : (k : Int) < ar.length := by omega
            have HS2 : Hid (rtE n es f ar q rot = if badR q k x a.length then 2 else rotE q (k + 1) (ar.drop (k + 1)) (rot.drop (k + 1))) := by
              show _ = _
              rw [HS.out, hd, hda, rotE_cons]
            clear hd hda
            have HB := hide hbw
            clear hbw
            by_cases h0 : x < 0
            · have p0 : decide (x < 0) = true := by simp [h0]
              have HR : Hid (rtE n es f ar q rot = 2) := by show _ = _; rw [HS2.out, if_pos (.inl h0)]
              clear h0
              go_wp2_with fail
              go_ret
              exact ⟨ret_int HR.out.symm, HB.out⟩
            · have p0 : decide (x < 0) = false := by simp; omega
              by_cases hv : (k : Int) = q
              · have p1 : ((k : Int) == q) = true := by simp [hv]
                have p2 : ((k : Int) != q) = false := by simp [hv]
                by_cases hx : x = 0
                · have p3 : (x != 0) = false := by simp [hx]
                  have HR : Hid (rtE n es f ar q rot = rotE q (k + 1) (ar.drop (k + 1)) (rot.drop (k + 1))) := by
                    show _ = _
                    rw [HS2.out, if_neg (by rintro (h | ⟨_, h⟩ | ⟨h, _⟩) <;> first | exact h0 h | exact h hx | exact h hv)]
                  have HXX := hide (And.intro h0 (And.intro hv hx))
                  clear h0 hv hx
                  go_wp2_with fail
                  go_roundw
                  case rel => exact ⟨k + 1, by omega, by go_num, HR, hxr⟩
                  case measure => simp [intOf]; omega
                · have p3 : (x != 0) = true := by simp [hx]
                  have HR : Hid (rtE n es f ar q rot = 2) := by show _ = _; rw [HS2.out, if_pos (.inr (.inl ⟨hv, hx⟩))]
                  have HXX := hide (And.intro h0 (And.intro hv hx))
                  clear h0 hv hx
                  go_wp2_with fail
                  go_ret
                  exact ⟨ret_int HR.out.symm, HB.out⟩
              · have p1 : ((k : Int) == q) = false := by simp [hv]
                have p2 : ((k : Int) != q) = true := by simp [hv]
                by_cases hx : (a.length : Int) ≤ x
                · have p3 : decide ((a.length : Int) ≤ x) = true := by simp [hx]
                  have p4 : decide (x < (a.length : Int)) = false := by simp; omega
                  have HR : Hid (rtE n es f ar q rot = 2) := by show _ = _; rw [HS2.out, if_pos (.inr (.inr ⟨hv, hx⟩))]
                  have HXX := hide (And.intro h0 (And.intro hv hx))
                  clear h0 hv hx
                  go_wp2_with fail
                  go_ret
                  exact ⟨ret_int HR.out.symm, HB.out⟩
                · have p3 : decide ((a.length : Int) ≤ x) = false := by simp; omega
                  have p4 : decide (x < (a.length : Int)) = true := by simp; omega
                  have HR : Hid (rtE n es f ar q rot = rotE q (k + 1) (ar.drop (k + 1)) (rot.drop (k + 1))) := by
                    show _ = _
                    rw [HS2.out, if_neg (by rintro (h | ⟨h, _⟩ | ⟨_, h⟩) <;> first | exact h0 h | exact hv h | exact hx h)]
                  have HXX := hide (And.intro h0 (And.intro hv hx))
                  clear h0 hv hx
                  go_wp2_with fail
                  go_roundw
                  case rel => exact ⟨k + 1, by omega, by go_num, HR, hxr⟩
                  case measure => simp [intOf]; omega
          · have HR : Hid (rtE n es f ar q rot = 0) := by
              show _ = _
              rw [HS.out, List.drop_of_length_le (by rw [hra.out]; omega), rotE_nil]
            have HB := hide hbw
            clear hbw
            go_wp2_with fail
            go_ret
            exact ⟨ret_int HR.out.symm, HB.out⟩
      · have HR : Hid (rtE n es f ar q rot = 8) := by show _ = _; rw [HC.out, if_pos HV.out, if_neg hlen]
        have q4 : ((rot.length : Int) != n) = true := by simp [hlen]
        have HLen := hide hlen
        clear hlen
        go_wp2_with fail
        go_ret
        exact ⟨ret_int HR.out.symm, HX.out⟩
    · have HR : Hid (rtE n es f ar q rot = 2) := by show _ = _; rw [HC.out, if_neg (fun h => hV (vtxB_iff.1 h))]
      by_cases hq : q < 0
      · have q1 : decide (q < 0) = true := by simp [hq]
        clear hV hq
        go_wp2_with fail
        go_ret
        exact ⟨ret_int HR.out.symm, HX.out⟩
      · have q1 : decide (q < 0) = false := by simp; omega
        have q2 : decide (n ≤ q) = true := by simp; omega
        have q3 : decide (q < n) = false := by simp; omega
        have HV := hide (And.intro hV hq)
        clear hV hq
        go_wp2_with fail
        go_ret
        exact ⟨ret_int HR.out.symm, HX.out⟩
  · have HR : Hid (rtE n es f ar q rot = chkE n es f ar) := if_neg hJ
    have hq : (chkE n es f ar != 0) = true := by simpa using hJ
    have HJ := hide hJ
    clear hJ
    go_wp2_with fail
    go_ret
    exact ⟨ret_int HR.out.symm, HX.out⟩

set_option maxRecDepth 100000 in
set_option maxHeartbeats 8000000 in
theorem r45check_any (n : Int) (es : List Edg) (oe : Option Addr) (c : Nat) (ar : List (List Int)) (oa : Option Addr) (ca : Nat) (F G : Foot) (w : World) (hs : SliceR edgR 3 F w oe es) (hc : es.length ≤ c) (hc2 : es.length ≤ 1000)
    (ha : SliceR (slcR intR 1) 1 G w oa ar) (hac : ar.length ≤ ca) (hac2 : ar.length ≤ 9223372036854775807) (f : List Nat) (hU : Hid (gErr n es = 0 → Uf f (eL es)))
    (q : Int) (rot : List Int) (ot : Option Addr) (ct : Nat) (H : Foot) (hr : SliceR intR 1 H w ot rot) (hrc : rot.length ≤ ct) (hrl : rot.length ≤ 9223372036854775807) :
    Calls Try.prog 18 #[.agg #[.int .i64 n, .slice oe es.length c, .slice oa ar.length ca], .int .i64 q, .slice ot rot.length ct] w (ErrPost w (rtE n es f ar q rot)) := by
  go_enter Try.func18, Try.ntmps18
  go_wp2_with fail
  have hb0 := box_refl w (.cells #[.int .i64 n, .slice oe es.length c, .slice oa ar.length ca] 27)
  refine (r44check_any n es oe c ar oa ca F G _ (hs.below edgR_ok (below_box hb0)) hc hc2 (ha.below (slcR_ok intR_ok (by decide)) (below_box hb0)) hac hac2 f hU).mono ?_
  rintro e w2 ⟨rfl, hb2⟩
  have hx2 := hb2.mono (B' := w.heap.size + 1) (by simp)
  have d0 := box_cell hx2 0
  have d1 := box_cell hx2 1
  simp at d0 d1
  have HX := hide (below_box hx2)
  have HX2 := hide hx2
  clear hb2 hb0 hx2
  by_cases hJ : chkE n es f ar = 0
  · have HC : Hid (rtE n es f ar q rot = if vtxB n q = true then (if (rot.length : Int) = n then rotE q 0 ar rot else 8) else 2) := if_pos hJ
    have HN := hide (chkE_zero hJ).2.1
    rw [hJ]
    clear hJ
    by_cases hV : 0 ≤ q ∧ q < n
    · have HV := hide (vtxB_iff.2 hV)
      have q1 : decide (q < 0) = false := by simp; omega
      have q2 : decide (n ≤ q) = false := by simp; omega
      have q3 : decide (q < n) = true := by simp; omega
      have hqn : 0 ≤ q := hV.1
      clear hV
      by_cases hlen : (rot.length : Int) = n
      · have HC2 : Hid (rtE n es f ar q rot = rotE q 0 ar rot) := by show _ = _; rw [HC.out, if_pos HV.out, if_pos hlen]
        have q4 : ((rot.length : Int) != n) = false := by simp [hlen]
        have hra : Hid (ar.length = rot.length) := by have h1 := HN.out; show _ = _; omega
        have HLen := hide hlen
        clear hlen
        go_wp2_with fail
        refine (rvertex_any n q oe es.length c _).mono ?_
        rintro e w3 ⟨rfl, hb3⟩
        rw [HV.out]
        have d0 := (hb3.cell (World.block_lt_of_cell? _ _ d0)).trans d0
        have d1 := (hb3.cell (World.block_lt_of_cell? _ _ d1)).trans d1
        have HX2 := hide (box_then HX2.out (by simp) hb3)
        clear hb3
        go_wp2_with fail
        go_loopw [8] (fun iv wr => ∃ k : Nat, k ≤ rot.length ∧ iv = .int .i64 k ∧ Hid (rtE n es f ar q rot = rotE q k (ar.drop k) (rot.drop k)) ∧ Below (w.heap.size + 1) (w.alloc (.cells #[.int .i64 n, .slice oe es.length c, .slice oa ar.length ca] 27)) wr) (fun iv _ => rot.length - (intOf iv).toNat)
        case atStart => exact ⟨0, by omega, rfl, HC2, HX2.out⟩
        case round =>
          clear d0 d1
          obtain ⟨k, hk, rfl, HS, hxr⟩ := hrel
          have hbw := below_box hxr
          have d0 := box_cell hxr 0
          have d1 := box_cell hxr 1
          simp at d0 d1
          by_cases hlt : k < rot.length
          · obtain ⟨x, hd, _, _, b, off, hot, _, c0⟩ := (hr.below intR_ok hbw).int_at hlt
            obtain ⟨a, hda, _, b2, off2, ol, cl, hoa, _, c1, hxl, hxl2, _⟩ := (ha.below (slcR_ok intR_ok (by decide)) hbw).slc_at (i := k) (by rw [hra.out]; exact hlt)
            subst hot hoa
            have d2 := box_cell hxr 2
            simp at d2
            have hka : k < ar.length := by rw [hra.out]; exact hlt
            have hkq1 : (k : Int) < ar.length := by omega
            have HS2 : Hid (rtE n es f ar q rot = if badR q k x a.length then 2 else rotE q (k + 1) (ar.drop (k + 1)) (rot.drop (k + 1))) := by
              show _ = _
              rw [HS.out, hd, hda, rotE_cons]
            clear hd hda
            have HB := hide hbw
            clear hbw
            by_cases h0 : x < 0
            · have p0 : decide (x < 0) = true := by simp [h0]
              have HR : Hid (rtE n es f ar q rot = 2) := by show _ = _; rw [HS2.out, if_pos (.inl h0)]
              clear h0
              go_wp2_with fail
              go_quiet (fail)
              go_wp2_with fail
              go_ret
              exact ⟨ret_int HR.out.symm, below_drewN HB.out _⟩
            · have p0 : decide (x < 0) = false := by simp; omega
              by_cases hv : (k : Int) = q
              · have p1 : ((k : Int) == q) = true := by simp [hv]
                have p2 : ((k : Int) != q) = false := by simp [hv]
                by_cases hx : x = 0
                · have p3 : (x != 0) = false := by simp [hx]
                  have HR : Hid (rtE n es f ar q rot = rotE q (k + 1) (ar.drop (k + 1)) (rot.drop (k + 1))) := by
                    show _ = _
                    rw [HS2.out, if_neg (by rintro (h | ⟨_, h⟩ | ⟨h, _⟩) <;> first | exact h0 h | exact h hx | exact h hv)]
                  have HXX := hide (And.intro h0 (And.intro hv hx))
                  clear h0 hv hx
                  go_wp2_with fail
                  go_quiet (fail)
                  go_wp2_with fail
                  go_roundw
                  case rel => exact ⟨k + 1, by omega, by go_num, HR, below_drewN hxr _⟩
                  case measure => simp [intOf]; omega
                · have p3 : (x != 0) = true := by simp [hx]
                  have HR : Hid (rtE n es f ar q rot = 2) := by show _ = _; rw [HS2.out, if_pos (.inr (.inl ⟨hv, hx⟩))]
                  have HXX := hide (And.intro h0 (And.intro hv hx))
                  clear h0 hv hx
                  go_wp2_with fail
                  go_quiet (fail)
                  go_wp2_with fail
                  go_ret
                  exact ⟨ret_int HR.out.symm, below_drewN HB.out _⟩
              · have p1 : ((k : Int) == q) = false := by simp [hv]
                have p2 : ((k : Int) != q) = true := by simp [hv]
                by_cases hx : (a.length : Int) ≤ x
                · have p3 : decide ((a.length : Int) ≤ x) = true := by simp [hx]
                  have p4 : decide (x < (a.length : Int)) = false := by simp; omega
                  have HR : Hid (rtE n es f ar q rot = 2) := by show _ = _; rw [HS2.out, if_pos (.inr (.inr ⟨hv, hx⟩))]
                  have HXX := hide (And.intro h0 (And.intro hv hx))
                  clear h0 hv hx
                  go_wp2_with fail
                  go_quiet (fail)
                  go_wp2_with fail
                  go_ret
                  exact ⟨ret_int HR.out.symm, below_drewN HB.out _⟩
                · have p3 : decide ((a.length : Int) ≤ x) = false := by simp; omega
                  have p4 : decide (x < (a.length : Int)) = true := by simp; omega
                  have HR : Hid (rtE n es f ar q rot = rotE q (k + 1) (ar.drop (k + 1)) (rot.drop (k + 1))) := by
                    show _ = _
                    rw [HS2.out, if_neg (by rintro (h | ⟨h, _⟩ | ⟨_, h⟩) <;> first | exact h0 h | exact hv h | exact hx h)]
                  have HXX := hide (And.intro h0 (And.intro hv hx))
                  clear h0 hv hx
                  go_wp2_with fail
                  go_quiet (fail)
                  go_wp2_with fail
                  go_roundw
                  case rel => exact ⟨k + 1, by omega, by go_num, HR, below_drewN hxr _⟩
                  case measure => simp [intOf]; omega
          · have HR : Hid (rtE n es f ar q rot = 0) := by
              show _ = _
              rw [HS.out, List.drop_of_length_le (by rw [hra.out]; omega), rotE_nil]
            have HB := hide hbw
            clear hbw
            go_wp2_with fail
            go_ret
            exact ⟨ret_int HR.out.symm, HB.out⟩
      · have HR : Hid (rtE n es f ar q rot = 8) := by show _ = _; rw [HC.out, if_pos HV.out, if_neg hlen]
        have q4 : ((rot.length : Int) != n) = true := by simp [hlen]
        have HLen := hide hlen
        clear hlen
        go_wp2_with fail
        refine (rvertex_any n q oe es.length c _).mono ?_
        rintro e w3 ⟨rfl, hb3⟩
        rw [HV.out]
        have d0 := (hb3.cell (World.block_lt_of_cell? _ _ d0)).trans d0
        have HX := hide (below_then HX.out hb3)
        clear hb3
        go_wp2_with fail
        go_ret
        exact ⟨ret_int HR.out.symm, HX.out⟩
    · have HR : Hid (rtE n es f ar q rot = 2) := by show _ = _; rw [HC.out, if_neg (fun h => hV (vtxB_iff.1 h))]
      have HV : Hid (vtxB n q = false) := by
        show _ = _
        cases h : vtxB n q with
        | false => rfl
        | true => exact absurd (vtxB_iff.1 h) hV
      clear hV
      go_wp2_with fail
      refine (rvertex_any n q oe es.length c _).mono ?_
      rintro e w3 ⟨rfl, hb3⟩
      rw [HV.out]
      have HX := hide (below_then HX.out hb3)
      clear hb3
      go_wp2_with fail
      go_ret
      exact ⟨ret_int HR.out.symm, HX.out⟩
  · have HR : Hid (rtE n es f ar q rot = chkE n es f ar) := if_neg hJ
    have hq : (chkE n es f ar != 0) = true := by simpa using hJ
    have HJ := hide hJ
    clear hJ
    go_wp2_with fail
    go_ret
    exact ⟨ret_int HR.out.symm, HX.out⟩

end Go.Proofs.Ytopldbnlehjlpaa

set_option linter.unusedVariables false
set_option linter.unusedSimpArgs false
namespace Go.Proofs.Ytopldbnlehjlpaa
open Go.RowKit

theorem iInfo : (Try.prog.info? 3).map (fun i => (i.zero, i.size, i.bytes)) = some (some (.int .i64 0), 1, 8) := by kernel_rfl

/-- An empty slice that the call has just made owns nothing. -/
theorem OwnS.made {α : Type} (R : Rep α) (sz : Nat) (e : TypeId) (F : Foot) (w : World) : OwnS R sz w.heap.size e F (w.alloc (.cells #[] e)) (.slice (some ⟨w.heap.size, 0, none⟩) 0 0) [] :=
  ⟨[], World.ownsRow_made w #[] 0 (Nat.le_refl _) (by unfold maxLen; omega) (by simp), by simp, by simp⟩

set_option maxHeartbeats 400000 in
theorem cloneI_any (l : List Int) (oa : Option Addr) (c : Nat) (F : Foot) (w : World) (hs : SliceR intR 1 F w oa l) (hc : l.length ≤ c) (hc2 : l.length ≤ 1000000000000) :
    Calls Try.prog 77 #[.slice oa l.length c] w fun e w' => ∃ v, e = .returned v ∧ OwnS intR 1 w.heap.size 3 Non w' v l ∧ Below w.heap.size w w' := by
  cases oa with
  | none =>
    have hl : l = [] := by
      cases l with
      | nil => rfl
      | cons x r => obtain ⟨b, off, cs, h, _⟩ := hs 0 x rfl; cases h
    subst hl
    have hq : ∀ w : World, (binOp .eql 28 (.slice none 0 c) (.slice none 0 0)).run Try.prog w = .ok (.bool true) w := fun w => Lib.run_eql_slice_nil w _ 3 none 0 c 0 0 Try.underlying28
    go_enter Try.func77, Try.ntmps77
    go_wp2_with fail
    go_ret
    exact ⟨_, rfl, OwnS.nil _ _ _ _ _ _, Below.refl _ _⟩
  | some ad =>
    have hq : ∀ w : World, (binOp .eql 28 (.slice (some ad) l.length c) (.slice none 0 0)).run Try.prog w = .ok (.bool false) w := fun w => Lib.run_eql_slice_nil w _ 3 (some ad) l.length c 0 0 Try.underlying28
    go_enter Try.func77, Try.ntmps77
    go_wp2_with (at_builtin; refine wpList_append_rep rfl (.tmp 5) (.tmp 6) 28 rfl w.heap.size 3 _ 1 8 Try.underlying28 iInfo rfl (by decide) intR_ok Non F (.slice (some ⟨w.heap.size, 0, none⟩) 0 0) [] rfl (OwnS.made _ _ _ _ _) (some ad) c l rfl (hs.below intR_ok (bnew (Below.refl _ _) _)) (fun _ _ h => h) (fun _ h => h.elim) (by simp; omega) (by simp; omega) (by simp) ?_; intro v' w1 ho hb1 hg)
    go_ret
    exact ⟨_, rfl, by simpa using ho, (bnew (Below.refl _ _) _).trans hb1⟩

set_option maxHeartbeats 400000 in
theorem cloneD_any (l : List Int) (oa : Option Addr) (c : Nat) (F : Foot) (w : World) (hs : SliceR intR 1 F w oa l) (hc : l.length ≤ c) (hc2 : l.length ≤ 1000000000000) :
    Calls Try.prog 80 #[.slice oa l.length c] w fun e w' => ∃ v, e = .returned v ∧ OwnS intR 1 w.heap.size 3 Non w' v l ∧ Below w.heap.size w w' := by
  cases oa with
  | none =>
    have hl : l = [] := by
      cases l with
      | nil => rfl
      | cons x r => obtain ⟨b, off, cs, h, _⟩ := hs 0 x rfl; cases h
    subst hl
    have hq : ∀ w : World, (binOp .eql 52 (.slice none 0 c) (.slice none 0 0)).run Try.prog w = .ok (.bool true) w := fun w => Lib.run_eql_slice_nil w _ 3 none 0 c 0 0 Try.underlying52
    go_enter Try.func80, Try.ntmps80
    go_wp2_with fail
    go_ret
    exact ⟨_, rfl, OwnS.nil _ _ _ _ _ _, Below.refl _ _⟩
  | some ad =>
    have hq : ∀ w : World, (binOp .eql 52 (.slice (some ad) l.length c) (.slice none 0 0)).run Try.prog w = .ok (.bool false) w := fun w => Lib.run_eql_slice_nil w _ 3 (some ad) l.length c 0 0 Try.underlying52
    go_enter Try.func80, Try.ntmps80
    go_wp2_with (at_builtin; refine wpList_append_rep rfl (.tmp 5) (.tmp 6) 52 rfl w.heap.size 3 _ 1 8 Try.underlying52 iInfo rfl (by decide) intR_ok Non F (.slice (some ⟨w.heap.size, 0, none⟩) 0 0) [] rfl (OwnS.made _ _ _ _ _) (some ad) c l rfl (hs.below intR_ok (bnew (Below.refl _ _) _)) (fun _ _ h => h) (fun _ h => h.elim) (by simp; omega) (by simp; omega) (by simp) ?_; intro v' w1 ho hb1 hg)
    go_ret
    exact ⟨_, rfl, by simpa using ho, (bnew (Below.refl _ _) _).trans hb1⟩

end Go.Proofs.Ytopldbnlehjlpaa

set_option linter.unusedVariables false
set_option linter.unusedSimpArgs false
set_option linter.unnecessarySimpa false
namespace Go.Proofs.Ytopldbnlehjlpaa
open Go.RowKit

/-- The pointer p leads to a board: its rotors lie in the row rg. -/
structure Brd (B : Nat) (w : World) (p rg cap : Nat) (tv : Value) (q : Int) (av : Value) (tl rot : List Int) (rest : List Value) : Prop where
  pB : B ≤ p
  box : Box w p [.int .i64 q, av, tv, .slice (some ⟨rg, 0, none⟩) rot.length cap] 85
  gB : B ≤ rg
  row : Row1 (Value.int .i64) w rg 3 rot rest
  len : cap = rot.length + rest.length
  max : cap ≤ maxLen
  tos : OwnS intR 1 B 3 Non w tv tl
  off : tv.ownBlock ≠ some rg

section
variable {B : Nat} {w w' : World} {p rg cap : Nat} {tv : Value} {q : Int} {av : Value} {tl rot : List Int} {rest : List Value}
theorem Brd.ne (h : Brd B w p rg cap tv q av tl rot rest) : p ≠ rg := by
  intro e
  have h1 := h.box
  have h2 := h.row
  unfold Box at h1
  unfold Row1 at h2
  rw [← e, h1] at h2
  injection h2 with h2
  injection h2 with _ h2
  exact absurd h2 (by decide)
theorem Brd.tne (h : Brd B w p rg cap tv q av tl rot rest) : tv.ownBlock ≠ some p := by
  obtain ⟨cells, ho, _⟩ := h.tos
  rcases ho.2 with ⟨rfl, _⟩ | ⟨g, c, cur, rfl, _, hg, _⟩
  · simp [Value.ownBlock]
  · intro e
    simp only [Value.ownBlock, Option.some.injEq] at e
    subst e
    have h1 := h.box
    unfold Box at h1
    rw [h1] at hg
    injection hg with hg
    injection hg with _ hg
    exact absurd hg (by decide)
/-- What a board keeps while its blocks lie. -/
theorem Brd.keep (h : Brd B w p rg cap tv q av tl rot rest) (hb : ∀ k, B ≤ k → k < w.heap.size → k = p ∨ k = rg ∨ tv.ownBlock = some k → w'.heap[k]? = w.heap[k]?) : Brd B w' p rg cap tv q av tl rot rest where
  pB := h.pB
  box := h.box.keep (hb p h.pB h.box.lt (.inl rfl))
  gB := h.gB
  row := h.row.keep (hb rg h.gB h.row.lt (.inr (.inl rfl)))
  len := h.len
  max := h.max
  tos := h.tos.keep intR_ok (fun g hg => hb g (h.tos.block g hg).1 (h.tos.block g hg).2 (.inr (.inr hg))) (fun _ hk _ => hk.elim)
  off := h.off
theorem Brd.below (h : Brd B w p rg cap tv q av tl rot rest) (hb : Below w.heap.size w w') : Brd B w' p rg cap tv q av tl rot rest := h.keep fun k _ hk _ => hb.block k hk
theorem Brd.rebase {B' : Nat} (h : Brd B w p rg cap tv q av tl rot rest) (hb : B' ≤ B) : Brd B' w p rg cap tv q av tl rot rest := ⟨Nat.le_trans hb h.pB, h.box, Nat.le_trans hb h.gB, h.row, h.len, h.max, h.tos.rebase hb, h.off⟩
/-- A rotor is turned. -/
theorem Brd.put (h : Brd B w p rg cap tv q av tl rot rest) {v : Nat} (hv : v < rot.length) (y : Int) : Brd B (w.setCell ⟨rg, v, none⟩ (.int .i64 y)) p rg cap tv q av tl (rot.set v y) rest where
  pB := h.pB
  box := by rw [List.length_set]; exact h.box.other h.ne _
  gB := h.gB
  row := h.row.put hv y
  len := by rw [List.length_set]; exact h.len
  max := h.max
  tos := h.tos.keep intR_ok (fun g hg => Below.heap_setCell w _ _ g (fun e => h.off (by rw [hg]; exact congrArg some e))) (fun _ hk _ => hk.elim)
  off := h.off
theorem Brd.draws (h : Brd B w p rg cap tv q av tl rot rest) (n : Nat) : Brd B (w.drewN n) p rg cap tv q av tl rot rest := h.keep fun _ _ _ _ => rfl
end

theorem grown_drewN {w w' : World} {o : Option Nat} (h : w.grownBy w' o) (n : Nat) : w.grownBy (w'.drewN n) o := ⟨h.os, h.tape, h.output, h.size, h.block⟩

theorem grown_cell (W : World) (b i : Nat) (v : Value) : W.grownBy (W.setCell ⟨b, i, none⟩ v) (some b) :=
  ⟨rfl, rfl, rfl, (KeepsWalks.setCell W _ v).size, fun k _ hk => Below.heap_setCell _ _ _ k (fun e => hk (by rw [e]))⟩

def StepPost (B : Nat) (w : World) (p rg cap : Nat) (tv : Value) (q : Int) (av : Value) (tl rot : List Int) (rest : List Value) (v : Nat) (y t : Int) (e : Ending) (w' : World) : Prop :=
  e = .returned (.int .i64 t) ∧ Brd B w' p rg cap tv q av tl (rot.set v y) rest ∧ w.grownBy w' (some rg)

set_option maxRecDepth 100000 in
set_option maxHeartbeats 4000000 in
theorem step_any (B : Nat) (w : World) (p rg cap : Nat) (tv : Value) (q : Int) (tl rot : List Int) (rest : List Value) (oa : Option Addr) (ca : Nat) (ar : List (List Int))
    (hD : Brd B w p rg cap tv q (.slice oa ar.length ca) tl rot rest) (ha : SliceR (slcR intR 1) 1 (Lt B) w oa ar) (v : Nat) (hvr : v < rot.length) (hva : v < ar.length) (l : List Int) (hl : ar[v]? = some l) (k : Nat) (hk : rot[v]? = some (k : Int)) (hkl : k < l.length)
    (hll : l.length ≤ 1000000) (h : Nat) (hh : l[(k + 1) % l.length]? = some (h : Int)) (t : Int) (ht : tl[h]? = some t) :
    Calls Try.prog 43 #[.pointer (some ⟨p, 0, none⟩), .int .i64 v] w (StepPost B w p rg cap tv q (.slice oa ar.length ca) tl rot rest v ((k + 1) % l.length : Nat) t) := by
  obtain ⟨x, _, hx, b, off, ol, cl, hoa, hbB, c0, hxl, _, hsl⟩ := ha.slc_at hva
  rw [hl] at hx
  injection hx with hx
  subst hx
  subst hoa
  obtain ⟨j, hj⟩ : ∃ j, j = (k + 1) % l.length := ⟨_, rfl⟩
  rw [← hj] at hh ⊢
  have hjl : j < l.length := by rw [hj]; exact Nat.mod_lt _ (by omega)
  have hrem : ((k : Int) + 1).tmod (l.length : Int) = (j : Int) := by
    rw [hj, Int.tmod_eq_emod_of_nonneg (by omega)]
    rfl
  have HJ := hide hj
  have HD := hide hD
  obtain ⟨y, _, hy, iy, b2, off2, hol, hb2, e0⟩ := hsl.int_at hjl
  rw [hh] at hy
  injection hy with hy
  subst hy
  subst hol
  obtain ⟨ot, ct, rfl, htc, hst⟩ := hD.tos.slice intR_ok
  have htl : h < tl.length := (List.getElem?_eq_some_iff.1 ht).1
  obtain ⟨z, _, hz, iz, b3, off3, hot, _, t0⟩ := hst.int_at htl
  rw [ht] at hz
  injection hz with hz
  subst hz
  subst hot
  have d1 := hD.box.cell 1
  have d2 := hD.box.cell 2
  have d3 := hD.box.cell 3
  simp at d1 d2 d3
  have r0 := hD.row.cell hk
  have f0 := hD.row.free v
  have hrg : rot.length ≤ cap := by have := hD.len; omega
  have hgb : b ≠ rg := by have := hD.gB; have h2 : b < B := hbB; omega
  have hgb2 : b2 ≠ rg := by have := hD.gB; have h2 : b2 < B := hb2; omega
  have hgb3 : b3 ≠ rg := by
    have := hD.off
    simp only [Value.ownBlock] at this
    exact fun e => this (by rw [e])
  have hpg : p ≠ rg := hD.ne
  clear hj hl hk hh ht hD
  go_enter Try.func43, Try.ntmps43
  go_wp2_with fail
  go_region
  all_goals
    go_wp2_with fail
    go_quiet (fail)
    go_wp2_with fail
    go_ret
    exact ⟨rfl, (HD.out.put hvr _).keep (fun _ _ _ _ => rfl), grown_drewN (grown_drewN (grown_cell _ _ _ _) 1) _⟩

end Go.Proofs.Ytopldbnlehjlpaa

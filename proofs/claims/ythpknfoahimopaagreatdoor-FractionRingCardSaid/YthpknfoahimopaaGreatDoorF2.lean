/-
  integer: long division of natural numbers.
  integer: division by any number that is not 0; the greatest common divisor.
  integer: numbers with a sign, in memory; signed, neg, sign.
  integer: the text of a number; result, length.
  integer.Check: which texts are canonical integers.
  integer: sums and products of numbers.
  integer.groups, integer.read: a number out of its text.
  integer: the sum of numbers.
  Division rounded down, known by what is left. No program is named here.
  The quotient rounded down and the remainder, by signs and magnitudes. No program is named here.
  integer: the quotient of numbers, rounded down, and the remainder.
  Fractions in lowest terms: known by their value. No program is named here.
  Sums and products of fractions in lowest terms. No program is named here.
  Differences and quotients of fractions undo sums and products; signs; floors. No program is named here.
  integer: the closures of Sub and Gcd.
  integer: the exported functions, at canonical integers.
  integer.Compare, integer.Quo, at canonical integers.
  fraction.Check.
  fraction.Make.
-/
import Derived.Test.YthpknfoahimopaaGreatDoorF1
import Derived.Lib.AtoiErrMem
import Derived.Lib.ConvBytes
import Derived.Deep.RegionHeld3
import Derived.RangeFuncBox
import Derived.RangeFuncLeaves
import Derived.Shelf.Abstract
import Derived.OwnWalkIn
import Derived.TacticsInMore
import Derived.LoopNIn
import Derived.LoopIn
import Derived.Maps.AppendAt

set_option linter.unusedVariables false
set_option linter.unusedSimpArgs false
set_option linter.unnecessarySimpa false
namespace Go.Proofs.YthpknfoahimopaaGreatDoor
open Go.RowKit

theorem slice_lt {w : World} {oa : Option Addr} {xs : List Nat} (h : SliceR wrdR 1 All w oa xs) : SliceR wrdR 1 (Lt w.heap.size) w oa xs := h.loc wrdR_ok (by decide)
theorem SliceR.wcells {F : Foot} {w : World} {oa : Option Addr} {xs : List Nat} (h : SliceR wrdR 1 F w oa xs) (h0 : 0 < xs.length) : ∃ ad, oa = some ad ∧ ∀ j v, (xs.map u32V)[j]? = some v → w.cell? (ad.add j) = some v := by
  obtain ⟨_, _, _, _, b, off, rfl, _, _⟩ := h.wrd_at h0
  refine ⟨⟨b, off, none⟩, rfl, fun j v hv => ?_⟩
  rw [List.getElem?_map] at hv
  rcases hx : xs[j]? with _ | x
  · rw [hx] at hv; cases hv
  · rw [hx] at hv
    obtain ⟨b', off', cs, he, _, ⟨rfl, _⟩, hc⟩ := h j x hx
    injection he with he
    injection he with e1 e2
    subst e1 e2
    have h5 := hc 0 _ rfl
    injection hv with hv
    rw [← hv, Addr.add_lit]
    simpa [u32V] using h5
theorem splice_zeros {N : Nat} {xs : List Nat} (h : xs.length ≤ N) : splice ((List.replicate N 0).map u32V ++ []) 0 (xs.map u32V) = (xs ++ List.replicate (N - xs.length) 0).map u32V ++ [] := by
  unfold splice
  simp [List.map_append, List.drop_replicate]
def NatPostL (w : World) (n len : Nat) (e : Ending) (w' : World) : Prop := ∃ ov cv, e = .returned (.slice ov len cv) ∧ (len ≤ cv ∧ cv ≤ 9223372036854775807 ∧ SliceR wrdR 1 All w' ov (wds n)) ∧ Below w.heap.size w w'
theorem NatPost.len {w : World} {n len : Nat} {e : Ending} {w' : World} (h : NatPost w n e w') (hl : (wds n).length = len) : NatPostL w n len e w' := by
  obtain ⟨v, rfl, ⟨ov, cv, rfl, h1, h2, h3⟩, hb⟩ := h
  exact ⟨ov, cv, by rw [hl], ⟨by rw [← hl]; exact h1, h2, h3⟩, hb⟩
set_option maxRecDepth 100000 in
set_option maxHeartbeats 8000000 in
theorem ndiv_long {x y m e : Nat} {v1 v2 : Value} {w : World} (h1 : NatV w v1 x) (h2 : NatV w v2 y) (hx : Few x) (hyf : Few y) (hy : (wds y).length = m + 2) (hxl : (wds x).length = m + 2 + e) (hle : y ≤ x) : Calls Tryz.prog 116 #[v1, v2] w (NatPost2 w (x / y) (x % y)) := by
  obtain ⟨t, ht, ht0, ht9, hb1, hb2⟩ := wds_top hy
  obtain ⟨hs0, hs9, hsl⟩ := scale_ok hb1 hb2 ht0 ht9
  obtain ⟨s, hs⟩ : ∃ s, s = 1000000000 / (t + 1) := ⟨_, rfl⟩
  rw [← hs] at hs0 hs9 hsl
  obtain ⟨lz, hlz⟩ : ∃ lz, lz = (wds (x * s)).length := ⟨_, rfl⟩
  have HCM := hide (ncmp_nat h1 h2 hx hyf)
  have HTM : Hid (∀ w', Below w.heap.size w w' → ∀ v3, NatV w' v3 s → Calls Tryz.prog 113 #[v2, v3] w' (NatPostL w' (y * s) (m + 2))) := fun w' hb v3 h3 => (ntimes_any (h2.below hb) h3 hyf (few_word hs9)).mono fun _ _ h => h.len hsl
  have HTX : Hid (∀ w', Below w.heap.size w w' → ∀ v3, NatV w' v3 s → Calls Tryz.prog 113 #[v1, v3] w' (NatPostL w' (x * s) lz)) := fun w' hb v3 h3 => (ntimes_any (h1.below hb) h3 hx (few_word hs9)).mono fun _ _ h => h.len hlz.symm
  have hlz2 : lz ≤ m + 2 + e + 1 := by
    have h5 := valB_lt (b := BW) (wds_wrd x)
    rw [wds_val, hxl] at h5
    have h6 : x * s < BW ^ (m + 2 + e + 1) := by
      rw [Nat.pow_succ]
      have h7 : x * s ≤ x * BW := Nat.mul_le_mul_left _ (Nat.le_of_lt hs9)
      have h8 : x * BW < BW ^ (m + 2 + e) * BW := Nat.mul_lt_mul_of_pos_right h5 BW0
      omega
    rw [hlz]
    exact digB_len_le BW2 h6
  have HLZ := hide hlz
  have hx6 : m + 2 + e ≤ 1000000 := by unfold Few at hx; omega
  have HXB : Hid (BW ^ (m + 1) ≤ y) := by
    have : 1 * BW ^ (m + 1) ≤ t * BW ^ (m + 1) := Nat.mul_le_mul_right _ ht0
    show _ ≤ _
    omega
  have HXL : Hid (x < BW ^ (m + 2 + e)) := by
    have := valB_lt (b := BW) (wds_wrd x)
    rw [wds_val, hxl] at this
    exact this
  obtain ⟨oa, ca, rfl, hca, hcm, sx⟩ := h1
  obtain ⟨ob, cb, rfl, hcb, hcm2, sy⟩ := h2
  rw [hxl] at hca HCM HTX ⊢
  rw [hy] at hcb HCM HTM ⊢
  obtain ⟨t', _, ht', _, bb, offb, hob, _, c1⟩ := sy.wrd_at (i := m + 1) (by omega)
  rw [ht] at ht'
  injection ht' with ht'
  subst ht'
  subst hob
  have HSL := hide hsl
  have hsv : (1000000000 : Int) / ((t : Int) + 1) = (s : Int) := by
    have h5 := Int.natCast_ediv 1000000000 (t + 1)
    rw [← hs] at h5
    exact h5.symm
  have HLE := hide hle
  have tq : ((m : Int) + 2 == 1) = false := by simp; omega
  clear hb1 hb2 ht hs hsl hlz sx sy hxl hy hle hx hyf
  go_enter Tryz.func116, Tryz.ntmps116
  go_upto_region 6 with (go_at_call 122; (with_reducible refine HCM.out.mono ?_); rintro ec w5 ⟨r, rfl, h5, h6, h7⟩; have hr : ¬ r < 0 := (fun h => absurd (h5.1 h) (Nat.not_lt.2 HLE.out)); have H7 := hide h7; have c1 := (h7.cell (World.block_lt_of_cell? _ _ c1)).trans c1; clear h5 h6 h7)
  clear hsv c1 hr tq HCM
  have HN1 := hide (natlit w5 131 (s : Int) s rfl (by omega) hs9)
  have HB6 : Hid (Below w.heap.size w (w5.alloc (.cells #[.int .u32 (s : Int)] 131))) := H7.out.alloc H7.out.size _
  go_upto_region 8 with (go_at_call 113; (with_reducible refine (HTM.out _ HB6.out _ HN1.out).mono ?_); rintro ec w6 ⟨ov, cv, rfl, h5, h6⟩; have HV5 := hide h5; have HB7 : Hid (Below w.heap.size w w6) := below_then HB6.out h6; clear h5 h6)
  clear HN1 HB6 HTM
  have hcv := HV5.out.1
  have HVW := hide (slice_lt HV5.out.2.2)
  go_upto_region 9 with (at_make; refine wpList_make_row _ rfl _ _ 100 rfl 131 0 4 Tryz.underlying100 (f := u32V) wInfo rfl .i64 .i64 _ _ (m + 2 + e + 1) rfl rfl (by push_cast; omega) (by push_cast; omega) (by omega) (by unfold maxLen; omega) (fun w8 hrow hb1 hg1 => ?_); have HR8 := hide hrow; have HB8 : Hid (Below w.heap.size w w8) := below_then HB7.out hb1; have HV8 := hide (HVW.out.below wrdR_ok hb1); clear hrow hb1 hg1)
  obtain ⟨gu, hgu⟩ : ∃ gu, gu = w6.heap.size := ⟨_, rfl⟩
  rw [← hgu] at HR8 HV8 ⊢
  have HGU : Hid (w.heap.size ≤ gu) := by show _ ≤ _; rw [hgu]; exact HB7.out.size
  clear hgu HVW HB7
  have HN2 := hide (natlit w8 131 (s : Int) s rfl (by omega) hs9)
  have HB9 : Hid (Below w.heap.size w (w8.alloc (.cells #[.int .u32 (s : Int)] 131))) := HB8.out.alloc HB8.out.size _
  have HR9 := hide (HR8.out.new (.cells #[.int .u32 (s : Int)] 131))
  have HV9 := hide (HV8.out.below wrdR_ok (bnew (Below.refl _ _) (.cells #[.int .u32 (s : Int)] 131)))
  go_upto_region 10 with (first
    | (go_at_call 113; (with_reducible refine (HTX.out _ HB9.out _ HN2.out).mono ?_); rintro ec w9 ⟨oz, cz, rfl, h5, h6⟩; have HZ := hide h5.2.2; have HB10 : Hid (Below w.heap.size w w9) := below_then HB9.out h6; have HR10 := hide (HR9.out.below h6); have HV10 := hide (HV9.out.below wrdR_ok h6); clear h5 h6)
    | (refine wpList_copy_splice rfl (.tmp 49) (.tmp 53) 100 100 rfl 131 Tryz.underlying100 wInfoSize (some ⟨gu, 0, none⟩) oz (m + 2 + e + 1) (m + 2 + e + 1) lz cz (by simp [Act.eval, Act.put]) (by simp [Act.eval, Act.put]) gu 0 ((List.replicate (m + 2 + e + 1) 0).map u32V ++ []) 131 HR10.out ((wds (x * s)).map u32V) (by rw [List.length_map, ← HLZ.out]; exact (Nat.min_eq_left hlz2).symm) (fun h => ⟨rfl, HZ.out.wcells (by simpa using h)⟩) (by simp; rw [← HLZ.out]; omega) (by simp [u32V, Value.oneCell']) gu w9 (Below.refl _ _) (Nat.le_refl _) ?_; intro w10 hg10 hb10; have HG10 := hide hg10; have HB11 := hide hb10; clear hg10 hb10))
  obtain ⟨X, hX⟩ : ∃ X, X = wds (x * s) ++ List.replicate (m + 2 + e + 1 - lz) 0 := ⟨_, rfl⟩
  have HRX : Hid (Row1 u32V w10 gu 131 X []) := by
    have h5 := HG10.out
    rw [splice_zeros (by rw [← HLZ.out]; exact hlz2), ← HLZ.out, ← hX] at h5
    exact h5
  have HXL2 : Hid (X.length = m + 2 + e + 1) := by show _ = _; rw [hX, List.length_append, List.length_replicate, ← HLZ.out]; omega
  have HXW : Hid (Wrd X) := by
    intro d hd
    rw [hX] at hd
    rcases List.mem_append.1 hd with h | h
    · exact wds_wrd _ d h
    · exact wrd_zeros _ d h
  have HXV : Hid (valB BW X = x * s) := by show _ = _; rw [hX, valB_append, valB_replicate, wds_val]; simp
  have HB12 : Hid (Below w.heap.size w w10) := HB10.out.trans (HB11.out.mono HGU.out)
  have HV12 : Hid (SliceR wrdR 1 (Lt gu) w10 ov (wds (y * s))) := HV10.out.keep wrdR_ok fun k hk _ => HB11.out.block k hk
  clear hX HG10 HR8 HR9 HR10 HV8 HV9 HV10 HB8 HB9 HB10 HB11 HN2 HZ HV5 HTX HLZ hlz2
  go_upto_region 11 with (at_make; refine wpList_make_row _ rfl _ _ 100 rfl 131 0 4 Tryz.underlying100 (f := u32V) wInfo rfl .i64 .i64 _ _ (e + 1) rfl rfl (by push_cast; omega) (by push_cast; omega) (by omega) (by unfold maxLen; omega) (fun w11 hrow hb1 hg1 => ?_); have HQ13 := hide hrow; have HB13 : Hid (Below w.heap.size w w11) := below_then HB12.out hb1; have HV13 := hide (HV12.out.below wrdR_ok hb1); have HR13 := hide (HRX.out.below hb1); have HGQ := hide (Nat.lt_of_lt_of_le HRX.out.lt (Nat.le_refl _)); clear hrow hb1 hg1)
  obtain ⟨gq, hgq⟩ : ∃ gq, gq = w10.heap.size := ⟨_, rfl⟩
  rw [← hgq] at HQ13 HGQ ⊢
  clear hgq
  have HEQ : Hid (e + 1 = m + 2 + e + 1 - (m + 2)) := by show _ = _; omega
  have HST : Hid (LongD (y * s) (e + 1) X X (List.replicate (e + 1) 0)) := by
    have h5 := LongD.begin_ (n := m + 1) (L := m + 2 + e) (p := List.replicate (e + 1) 0) HXV.out HXL2.out HXL.out HXB.out (by omega) hs0 (by rw [List.length_replicate]; omega)
    rw [show m + 2 + e - (m + 1) = e + 1 from by omega] at h5
    exact h5
  have HVT : Hid (y * s < BW ^ (m + 2) ∧ 0 < y * s) := by
    have h5 := valB_lt (b := BW) (wds_wrd (y * s))
    rw [wds_val, HSL.out] at h5
    refine ⟨h5, Nat.pos_of_ne_zero fun h => ?_⟩
    have h6 := HSL.out
    rw [h, wds_zero] at h6
    simp at h6
  clear HEQ
  go_wp2_with fail
  go_loopg [11] (e + 1) (fun gm jv wx => ∃ (k : Nat) (U Q : List Nat), k ≤ e + 1 ∧ gm = k ∧ jv = .int .i64 ((k : Int) - 1) ∧ Hid (LongD (y * s) k X U Q) ∧ Hid (Wrd U) ∧ Hid (Wrd Q) ∧ Hid (Q.length = e + 1) ∧ Hid (Row1 u32V wx gu 131 U []) ∧ Hid (Row1 u32V wx gq 131 Q []) ∧ Hid (SliceR wrdR 1 (Lt gu) wx ov (wds (y * s))) ∧ Hid (Below w.heap.size w wx))
  case atStart => exact ⟨e + 1, X, List.replicate (e + 1) 0, by omega, rfl, by go_num, HST, HXW, wrd_zeros _, List.length_replicate, HR13, HQ13, HV13, HB13⟩
  case round =>
    obtain ⟨k, U, Q, hk, hgm, rfl, HLD, HWU, HWQ, HQL, HRU, HRQ, HRV, HB⟩ := hrel
    have HGM := hide hgm
    clear hgm
    rcases Nat.eq_zero_or_pos k with hk0 | hk0
    · subst hk0
      have tq1 : decide ((0 : Int) ≤ ((0 : Nat) : Int) - 1) = false := by simp
      have HUL : Hid (m + 2 + e + 1 = U.length) := by show _ = _; rw [HLD.out.len, HXL2.out]
      have hfin := HLD.out.fin HXV.out rfl hs0
      have HF1 := hide hfin.1
      have HF2 := hide hfin.2.1
      have HSU := hide (HRU.out.wrds (F := All) (fun d hd => by have := HWU.out d hd; omega) trivial)
      have HSQ := hide (HRQ.out.wrds (F := All) (fun d hd => by have := HWQ.out d hd; omega) trivial)
      have HT1 : Hid (Calls Tryz.prog 111 #[.slice (some ⟨gu, 0, none⟩) (m + 2 + e + 1) (m + 2 + e + 1)] wr fun ed w' => ed = .returned (.slice (some ⟨gu, 0, none⟩) (cutB U).length (m + 2 + e + 1)) ∧ wr = w') := by
        have h5 := trimmed_any U (some ⟨gu, 0, none⟩) (m + 2 + e + 1) All wr HSU.out (by rw [← HUL.out]; exact Nat.le_refl _) (by omega)
        rw [← HUL.out] at h5
        exact h5
      have HT2 : Hid (∀ w', Below wr.heap.size wr w' → Calls Tryz.prog 111 #[.slice (some ⟨gq, 0, none⟩) (e + 1) (e + 1)] w' fun ed w2 => ed = .returned (.slice (some ⟨gq, 0, none⟩) (cutB Q).length (e + 1)) ∧ w' = w2) := fun w' hb => by
        have h5 := trimmed_any Q (some ⟨gq, 0, none⟩) (e + 1) All w' (HSQ.out.below wrdR_ok hb) (by rw [HQL.out]; exact Nat.le_refl _) (by omega)
        rw [HQL.out] at h5
        exact h5
      have HNU : Hid (NatV wr (.slice (some ⟨gu, 0, none⟩) (cutB U).length (m + 2 + e + 1)) (x % y * s)) := NatV.cut HSU.out HWU.out (by rw [← HUL.out]; exact Nat.le_refl _) (by omega) HF2.out
      have HNQ : Hid (NatV wr (.slice (some ⟨gq, 0, none⟩) (cutB Q).length (e + 1)) (x / y)) := NatV.cut HSQ.out HWQ.out (by rw [HQL.out]; exact Nat.le_refl _) (by omega) HF1.out
      have hfew : Few (x % y * s) := by
        have h5 : x % y * s < BW ^ (m + 2) := by
          have h6 : 0 < y := Nat.lt_of_lt_of_le (Nat.pow_pos BW0) HXB.out
          have h7 : x % y * s ≤ y * s := Nat.mul_le_mul_right _ (Nat.le_of_lt (Nat.mod_lt _ h6))
          have := HVT.out.1
          omega
        exact Nat.le_trans (digB_len_le BW2 h5) (by omega)
      have HSH := hide (nshort_any HNU.out hfew hs0 hs9)
      clear hfin hfew
      go_wp2_with (first
        | (go_at_call 111; (with_reducible refine HT1.out.mono ?_); rintro ec w7 ⟨rfl, rfl⟩)
        | (go_at_call 128; (with_reducible refine HSH.out.mono ?_); rintro ec w7 ⟨v3, v4, rfl, h5, h6, h7⟩; have H5 := hide h5; have H7 := hide h7; clear h5 h6 h7)
        | (go_at_call 111; (with_reducible refine (HT2.out _ H7.out).mono ?_); rintro ec w8 ⟨rfl, rfl⟩))
      go_ret2
      refine ⟨_, _, rfl, HNQ.out.below H7.out, ?_, below_then HB.out H7.out⟩
      have h5 := H5.out
      rw [Nat.mul_div_cancel _ hs0] at h5
      exact h5
    · obtain ⟨j, rfl⟩ : ∃ j, k = j + 1 := ⟨k - 1, by omega⟩
      have e1 : (((j + 1 : Nat) : Int) - 1) = (j : Int) := by omega
      rw [e1]
      have tq1 : decide ((0 : Int) ≤ (j : Int)) = true := by simp
      have hUL : U.length = m + 2 + e + 1 := by rw [HLD.out.len, HXL2.out]
      obtain ⟨A, M, C, hU, hA, hM, hWM, hC, hMV, hMlt⟩ := HLD.out.window (n := m + 2) HVT.out.1 (by omega) (by omega) HWU.out
      have HU := hide hU
      have HA := hide hA
      have HM := hide hM
      clear e1 hUL hU hA hM
      have HSP : Hid (Calls Tryz.prog 129 #[.slice (some ⟨gu, j, none⟩) (j + (m + 2) + 1 - j) (m + 2 + e + 1 - j), .slice ov (m + 2) cv] wr (StepPost wr gu A C (m + 3) (valB BW M) (y * s))) := by
        have h5 := nstep_any (g := gu) (j := j) (m := m) (cap := m + 2 + e + 1 - j) (cv := cv) (A := A) (u := M) (C := C) (v := wds (y * s)) (ov := ov) (w := wr) (by rw [← HU.out]; exact HRU.out) HA.out HM.out hWM (HRV.out.wide wrdR_ok (by decide) fun b hb _ => Nat.ne_of_lt hb) HSL.out (wds_wrd _) (wds_cut _) (by rw [wds_val]; exact hMlt) (by omega) (by omega) hcv
        rw [wds_val] at h5
        rw [show j + (m + 2) + 1 - j = m + 3 from by omega]
        exact h5
      have hjQ : j < Q.length := by rw [HQL.out]; omega
      obtain ⟨z, hz⟩ : ∃ z, Q[j]? = some z := ⟨_, List.getElem?_eq_getElem hjQ⟩
      have HZ := hide hz
      have HJQ := hide hjQ
      have HC := hide hC
      have hj0 : (0 : Int) ≤ j := by omega
      clear hz hjQ hWM hC hMV hMlt
      go_wp2_with (go_at_call 129; (with_reducible refine HSP.out.mono ?_); rintro ec w7 ⟨q, u2, rfl, hq, hq9, hul, huw, huv, hrow7, hon⟩; have HRQ7 := hide (HRQ.out.keep (hon.2 gq (Nat.ne_of_gt HGQ.out))); have HRV7 := hide (HRV.out.keep wrdR_ok fun b hb _ => hon.2 b (Nat.ne_of_lt hb)); have HB7 := hide (HB.out.trans (hon.1.mono HGU.out)); have l1 := HRQ7.out.cell HZ.out; have fz := HRQ7.out.free j; have HQ1 := hide hq; have HQ3 := hide hul; have HQ4 := hide huw; have HQ5 := hide huv; have HQ6 := hide hrow7; clear hq hul huw huv hrow7 hon)
      go_roundg j
      case rel =>
        have hjq : j < Q.length := HJQ.out
        have hld := HLD.out
        rw [HU.out] at hld
        refine ⟨j, A ++ (u2 ++ C), Q.set j q, by omega, rfl, by go_num, hld.step HA.out (by rw [HQ3.out, HM.out]) HC.out HQ1.out HQ5.out HVT.out.2 hjq (by rw [HM.out]; omega), ?_, (show Wrd _ from wrd_set HWQ.out _ hq9), (show _ = _ from by rw [List.length_set, HQL.out]), HQ6.out.other (Nat.ne_of_lt HGQ.out) _, HRQ7.out.put HJQ.out q, HRV7.out.keep wrdR_ok fun b hb _ => Below.heap_setCell w7 ⟨gq, j, none⟩ (u32V q) b (fun h => by have h1 : b < gu := hb; have h2 := HGQ.out; have h3 : b = gq := h; omega), HB7.out.setCell (Nat.le_trans HGU.out (Nat.le_of_lt HGQ.out)) _⟩
        intro d hd
        have h1 := HWU.out
        rw [HU.out] at h1
        rcases List.mem_append.1 hd with h | h
        · exact h1 d (List.mem_append_left _ h)
        · rcases List.mem_append.1 h with h | h
          · exact HQ4.out d h
          · exact h1 d (List.mem_append_right _ (List.mem_append_right _ h))
      case measure => rw [HGM.out]; omega
end Go.Proofs.YthpknfoahimopaaGreatDoor

set_option linter.unusedVariables false
set_option linter.unusedSimpArgs false
set_option linter.unnecessarySimpa false
namespace Go.Proofs.YthpknfoahimopaaGreatDoor
open Go.RowKit

theorem ndivided_any {x y : Nat} {v1 v2 : Value} {w : World} (h1 : NatV w v1 x) (h2 : NatV w v2 y) (hx : Few x) (hy : Few y) (hy0 : y ≠ 0) : Calls Tryz.prog 116 #[v1, v2] w (NatPost2 w (x / y) (x % y)) := by
  by_cases hl : (wds y).length = 1
  · exact ndiv_word h1 h2 hx hl
  · by_cases hlt : x < y
    · exact ndiv_less h1 h2 hx hy hl hlt
    · have h0 : (wds y).length ≠ 0 := fun h => hy0 (wds_nil (List.eq_nil_of_length_eq_zero h))
      have h5 : (wds y).length ≤ (wds x).length := by
        rcases Nat.lt_or_ge (wds x).length (wds y).length with h | h
        · have := valB_len BW2 (wds_wrd x) (wds_wrd y) (wds_cut y) h
          rw [wds_val, wds_val] at this
          omega
        · exact h
      exact ndiv_long (m := (wds y).length - 2) (e := (wds x).length - (wds y).length) h1 h2 hx hy (by omega) (by omega) (by omega)
theorem Few.le {x y : Nat} (h : Few y) (hx : x ≤ y) : Few x := by
  have h5 := valB_lt (b := BW) (wds_wrd y)
  rw [wds_val] at h5
  exact Nat.le_trans (digB_len_le BW2 (Nat.lt_of_le_of_lt hx h5)) h
set_option maxRecDepth 100000 in
set_option maxHeartbeats 4000000 in
theorem ncommon_any {x y : Nat} {v1 v2 : Value} {w : World} (h1 : NatV w v1 x) (h2 : NatV w v2 y) (hx : Few x) (hy : Few y) : Calls Tryz.prog 91 #[v1, v2] w (NatPost w (x.gcd y)) := by
  have H1 := hide h1
  have H2 := hide h2
  have HX := hide hx
  have HY := hide hy
  clear h1 h2 hx hy
  go_enter Tryz.func91, Tryz.ntmps91
  go_wp2_with fail
  go_loopg [0, 1] y (fun gm a b wx => ∃ (n m : Nat), gm = m ∧ Hid (NatV wx a n) ∧ Hid (NatV wx b m) ∧ Hid (Few n) ∧ Hid (Few m) ∧ Hid (n.gcd m = x.gcd y) ∧ Hid (Below w.heap.size w wx))
  case atStart => exact ⟨x, y, rfl, H1, H2, HX, HY, rfl, Below.refl _ _⟩
  case round =>
    obtain ⟨n, m, hgm, HN, HM, HF, HG, HE, HB⟩ := hrel
    have HGM := hide hgm
    clear hgm H1 H2
    by_cases hm : m = 0
    · have HM0 : Hid (m = 0) := hm
      obtain ⟨oa, c, hv, _, _, _⟩ := HM.out
      rw [HM0.out, wds_zero] at hv
      have hv : u1 = .slice oa 0 c := hv
      subst hv
      have HR : Hid (n = x.gcd y) := by
        have h5 := HE.out
        rw [hm, Nat.gcd_zero_right] at h5
        exact h5
      clear hm
      go_wp2_with fail
      go_ret
      exact ⟨_, rfl, by rw [← HR.out]; exact HN.out, HB.out⟩
    · have HDV := hide (ndivided_any HN.out HM.out HF.out HG.out hm)
      have HMX := hide (Nat.mod_lt n (Nat.pos_of_ne_zero hm))
      have HE2 : Hid (m.gcd (n % m) = x.gcd y) := by show _ = _; rw [← HE.out, Nat.gcd_comm n m, Nat.gcd_rec m n, Nat.gcd_comm]
      have HG2 : Hid (Few (n % m)) := HG.out.le (Nat.le_of_lt HMX.out)
      obtain ⟨oa, c, hv, _, _, _⟩ := HM.out
      have hl0 : 0 < (wds m).length := Nat.pos_of_ne_zero fun h => hm (wds_nil (List.eq_nil_of_length_eq_zero h))
      have HV := hide hv
      rw [hv] at HDV
      generalize hgl : (wds m).length = len at *
      have HGL := hide hgl
      have tq : decide ((0 : Int) < (len : Int)) = true := by simp; exact hl0
      subst hv
      clear hm hgl
      go_wp2_with (go_at_call 116; (with_reducible refine HDV.out.mono ?_); rintro ec w7 ⟨q, r, rfl, h5, h6, h7⟩; have H6 := hide h6; have H7 := hide h7; clear h5 h6 h7)
      go_roundg (n % m)
      case rel => exact ⟨m, n % m, rfl, HM.out.below H7.out, H6, HG, HG2, HE2, below_then HB.out H7.out⟩
      case measure => rw [HGM.out]; exact HMX.out
end Go.Proofs.YthpknfoahimopaaGreatDoor

set_option linter.unusedVariables false
set_option linter.unusedSimpArgs false
set_option linter.unnecessarySimpa false
namespace Go.Proofs.YthpknfoahimopaaGreatDoor
open Go.RowKit

def NumV (w : World) (v : Value) (z : Int) : Prop := ∃ u, v = .agg #[.bool (decide (z < 0)), u] ∧ NatV w u z.natAbs
theorem NumV.below {w w' : World} {v : Value} {z : Int} (h : NumV w v z) (hb : Below w.heap.size w w') : NumV w' v z := by
  obtain ⟨u, rfl, h⟩ := h
  exact ⟨u, rfl, h.below hb⟩
def sgnZ (b : Bool) (n : Nat) : Int := if b then -(n : Int) else n
theorem sgnZ_neg (b : Bool) (n : Nat) : decide (sgnZ b n < 0) = (b && decide (0 < n)) := by
  unfold sgnZ
  cases b <;> simp
theorem sgnZ_abs (b : Bool) (n : Nat) : (sgnZ b n).natAbs = n := by
  unfold sgnZ
  split <;> omega
theorem NumV.of {w : World} {u : Value} {n : Nat} (b : Bool) (h : NatV w u n) : NumV w (.agg #[.bool (b && decide (0 < n)), u]) (sgnZ b n) := ⟨u, by rw [sgnZ_neg], by rw [sgnZ_abs]; exact h⟩
def NumPost (w : World) (z : Int) (e : Ending) (w' : World) : Prop := ∃ v, e = .returned v ∧ NumV w' v z ∧ Below w.heap.size w w'
theorem nat_len {w : World} {u : Value} {n : Nat} (h : NatV w u n) : ∃ oa c len, u = .slice oa len c ∧ (len = 0 ↔ n = 0) ∧ len ≤ c := by
  obtain ⟨oa, c, rfl, hc, _, _⟩ := h
  refine ⟨oa, c, (wds n).length, rfl, ⟨fun h => wds_nil (List.eq_nil_of_length_eq_zero h), ?_⟩, hc⟩
  rintro rfl
  rw [wds_zero]
  rfl
set_option maxRecDepth 100000 in
set_option maxHeartbeats 2000000 in
theorem signed_any (b : Bool) {n : Nat} {u : Value} {w : World} (h : NatV w u n) : Calls Tryz.prog 90 #[.bool b, u] w fun e w' => e = .returned (.agg #[.bool (b && decide (0 < n)), u]) ∧ Below w.heap.size w w' := by
  obtain ⟨oa, c, len, rfl, hl, hc⟩ := nat_len h
  have HN : Hid (decide (0 < len) = decide (0 < n)) := by show _ = _; rw [Bool.eq_iff_iff]; simp; omega
  rw [← HN.out]
  clear hl h
  obtain ⟨W, hW⟩ : ∃ W, w.alloc (.cells #[.bool (b && decide (0 < len)), .slice oa len c] 102) = W := ⟨_, rfl⟩
  have HB : Hid (Below w.heap.size w W) := by show Below _ _ _; rw [← hW]; exact bnew (Below.refl _ _) _
  have y0 : W.cell? ⟨w.heap.size, 0, none⟩ = some (.bool (b && decide (0 < len))) := by rw [← hW]; exact (Box.new w [.bool (b && decide (0 < len)), .slice oa len c] 102).cell 0
  have y1 : W.cell? ⟨w.heap.size, 1, none⟩ = some (.slice oa len c) := by rw [← hW]; exact (Box.new w [.bool (b && decide (0 < len)), .slice oa len c] 102).cell 1
  have HW := hide hW
  clear hW
  cases b
  all_goals
    go_enter Tryz.func90, Tryz.ntmps90
    go_wp2_with fail
    exact bodyPost_ret (v := .agg #[.bool _, .slice oa len c]) (by simp [results, Tryz.results90, go_sem]) rfl ⟨rfl, bnew (Below.refl _ _) _⟩
theorem neg_sgn (z : Int) : sgnZ (!decide (z < 0)) z.natAbs = -z := by
  unfold sgnZ
  by_cases h : z < 0 <;> simp [h] <;> omega
set_option maxRecDepth 100000 in
set_option maxHeartbeats 2000000 in
theorem numneg_any {z : Int} {v : Value} {w : World} (h : NumV w v z) : Calls Tryz.prog 93 #[v] w (NumPost w (-z)) := by
  obtain ⟨u, rfl, hu⟩ := h
  have HU := hide hu
  have HC : Hid (∀ w', Below w.heap.size w w' → Calls Tryz.prog 90 #[.bool (!decide (z < 0)), u] w' fun e w2 => e = .returned (.agg #[.bool ((!decide (z < 0)) && decide (0 < z.natAbs)), u]) ∧ Below w'.heap.size w' w2) := fun w' hb => signed_any _ (hu.below hb)
  obtain ⟨b, hb⟩ : ∃ b, b = decide (z < 0) := ⟨_, rfl⟩
  rw [← hb] at HC ⊢
  obtain ⟨oa, c, len, rfl, _, _⟩ := nat_len hu
  have HBD := hide hb
  clear hu hb
  obtain ⟨b2, hb2⟩ : ∃ b2, b2 = (!b && decide (0 < z.natAbs)) := ⟨_, rfl⟩
  rw [← hb2] at HC
  have HB2 := hide hb2
  clear hb2
  go_enter Tryz.func93, Tryz.ntmps93
  have HX : Hid (Box ((w.alloc (.cells #[.bool b, .slice oa len c] 102)).alloc (.cells #[.bool false, .slice none 0 0] 102)) (w.heap.size + 1) [.bool false, .slice none 0 0] 102) := by
    have h5 := Box.new (w.alloc (.cells #[.bool b, .slice oa len c] 102)) [.bool false, .slice none 0 0] 102
    rw [World.size_alloc] at h5
    exact h5
  have HB : Hid (Below w.heap.size w ((w.alloc (.cells #[.bool b, .slice oa len c] 102)).alloc (.cells #[.bool false, .slice none 0 0] 102))) := bnew (bnew (Below.refl _ _) _) _
  go_wp2_with (go_at_call 90; (with_reducible refine (HC.out _ HB.out).mono ?_); rintro ec w5 ⟨rfl, h5⟩; have HX5 := hide (HX.out.below h5); have HB5 : Hid (Below w.heap.size w w5) := below_then HB.out h5; have y0 := HX5.out.cell 0; have y1 := HX5.out.cell 1; simp only [List.getElem?_cons_zero, List.getElem?_cons_succ] at y0 y1; have f0 := HX5.out.free 0; have f1 := HX5.out.free 1; clear h5)
  have HX6 := (HX5.out.put 0 (.bool b2)).put 1 (.slice oa len c)
  have z0 := HX6.cell 0
  have z1 := HX6.cell 1
  simp only [List.set_cons_zero, List.set_cons_succ, List.getElem?_cons_zero, List.getElem?_cons_succ] at z0 z1
  have HB6 : Below w.heap.size w ((w5.setCell ⟨w.heap.size + 1, 0, none⟩ (.bool b2)).setCell ⟨w.heap.size + 1, 1, none⟩ (.slice oa len c)) := (HB5.out.setCell (by simp) _).setCell (by simp) _
  refine bodyPost_ret (v := .agg #[.bool b2, .slice oa len c]) (by simp [results, Tryz.results93, go_sem, z0, z1]) rfl ⟨_, rfl, ?_, HB6⟩
  have h5 := (NumV.of (!b) HU.out).below HB6
  rw [← HB2.out, HBD.out, neg_sgn] at h5
  exact h5

end Go.Proofs.YthpknfoahimopaaGreatDoor

set_option linter.unusedVariables false
set_option linter.unusedSimpArgs false
set_option linter.unnecessarySimpa false
namespace Go.Proofs.YthpknfoahimopaaGreatDoor
open Go.RowKit

theorem hasPrefix_sgn (l : List UInt8) : Lib.hasPrefix l [45] = sgnT l := by
  unfold sgnT
  cases l with
  | nil => rfl
  | cons c r =>
    show ((45 : UInt8) == c && true) = (some c == some 45)
    rw [Bool.and_true, Bool.eq_iff_iff, beq_iff_eq, beq_iff_eq, Option.some.injEq]
    exact eq_comm
theorem trimPrefix_mag (l : List UInt8) : Lib.trimPrefix l [45] = magT l := by
  unfold magT Lib.trimPrefix
  rw [hasPrefix_sgn]
  rfl
theorem few_txt {n : Nat} (h : Few n) : (txtN n).length ≤ 9000001 := by
  by_cases h0 : n = 0
  · subst h0; decide
  · rw [txtN_len h0]
    have h1 := valB_lt (b := BW) (wds_wrd n)
    rw [wds_val, show BW = 10 ^ 9 from rfl, ← Nat.pow_mul] at h1
    have h2 := digB_len_le (b := 10) (by omega) h1
    unfold Few at h
    omega
set_option maxRecDepth 100000 in
set_option maxHeartbeats 4000000 in
theorem numtext_any {z : Int} {v : Value} {w : World} (h : NumV w v z) (hx : Few z.natAbs) (ht : Tbl w) : Calls Tryz.prog 117 #[v] w fun e w' => e = .returned (.string (strN (txtI z))) ∧ Below w.heap.size w w' := by
  obtain ⟨u, rfl, hu⟩ := h
  have HC : Hid (∀ w', Below w.heap.size w w' → Calls Tryz.prog 130 #[u] w' fun e w2 => e = .returned (.string (strN (txtN z.natAbs))) ∧ Below w'.heap.size w' w2) := fun w' hb => ntext_any (hu.below hb) hx (ht.below hb)
  obtain ⟨oa, ca, la, rfl, _, _⟩ := nat_len hu
  obtain ⟨b, hb⟩ : ∃ b, b = decide (z < 0) := ⟨_, rfl⟩
  rw [← hb]
  have HBD := hide hb
  have hsz : (strN (txtN z.natAbs)).size ≤ 9000001 := few_txt hx
  clear hb hu ht hx
  have HB0 : Hid (Below w.heap.size w (w.alloc (.cells #[.bool b, .slice oa la ca] 102))) := bnew (Below.refl _ _) _
  cases b
  · have HZ : Hid (txtI z = txtN z.natAbs) := by
      have h5 := HBD.out
      show _ = _
      unfold txtI
      rw [if_neg (by simpa using h5.symm)]
    go_enter Tryz.func117, Tryz.ntmps117
    go_wp2_with (go_at_call 130; (with_reducible refine (HC.out _ HB0.out).mono ?_); rintro ec w5 ⟨rfl, hb5⟩; have HB5 := hide (below_then HB0.out hb5); clear hb5)
    go_ret
    exact ⟨by rw [HZ.out]; rfl, HB5.out⟩
  · have HZ : Hid (txtI z = 45 :: txtN z.natAbs) := by
      have h5 := HBD.out
      show _ = _
      unfold txtI
      rw [if_pos (by simpa using h5.symm)]
    go_enter Tryz.func117, Tryz.ntmps117
    go_wp2_with (go_at_call 130; (with_reducible refine (HC.out _ HB0.out).mono ?_); rintro ec w5 ⟨rfl, hb5⟩; have HB5 := hide (below_then HB0.out hb5); clear hb5)
    go_ret
    exact ⟨by rw [HZ.out]; rfl, HB5.out⟩
def lenI (z : Int) : Nat := (txtN z.natAbs).length
theorem length_any {z : Int} {w : World} : Calls Tryz.prog 118 #[.string (strN (txtI z))] w fun e w' => e = .returned (.int .i64 (lenI z)) ∧ w = w' := by
  have HT : Hid (Calls Tryz.prog 131 #[.string (strN (txtI z)), .string ⟨#[45]⟩] w fun e w' => e = .returned (.string (strN (txtN z.natAbs))) ∧ w = w') := by
    refine (Tryz.strings_TrimPrefix (strN (txtI z)) ⟨#[45]⟩ w).mono ?_
    rintro e w' ⟨rfl, rfl⟩
    refine ⟨?_, rfl⟩
    rw [show (strN (txtI z)).data.toList = txtI z from by simp [strN], show (⟨#[45]⟩ : ByteArray).data.toList = [45] from rfl, trimPrefix_mag, magT_txtI]
    rfl
  go_enter Tryz.func118, Tryz.ntmps118
  go_wp2_with (go_at_call 131; (with_reducible refine HT.out.mono ?_); rintro ec w5 ⟨rfl, rfl⟩)
  go_ret
  exact ⟨rfl, rfl⟩
/-- A number as a result. -/
def resI (z : Int) : Value := if 1024 < lenI z then .tuple #[.string ⟨#[]⟩, .int .i64 11] else .tuple #[.string (strN (txtI z)), .int .i64 0]
set_option maxRecDepth 100000 in
set_option maxHeartbeats 4000000 in
theorem result_any {z : Int} {v : Value} {w : World} (h : NumV w v z) (hx : Few z.natAbs) (ht : Tbl w) : Calls Tryz.prog 92 #[v] w fun e w' => e = .returned (resI z) ∧ Below w.heap.size w w' := by
  have HC : Hid (∀ w', Below w.heap.size w w' → Calls Tryz.prog 117 #[v] w' fun e w2 => e = .returned (.string (strN (txtI z))) ∧ Below w'.heap.size w' w2) := fun w' hb => numtext_any (h.below hb) hx (ht.below hb)
  obtain ⟨u, rfl, hu⟩ := h
  obtain ⟨oa, ca, la, rfl, _, _⟩ := nat_len hu
  obtain ⟨b, hb⟩ : ∃ b, b = decide (z < 0) := ⟨_, rfl⟩
  rw [← hb] at HC ⊢
  clear hb hu ht hx
  have HB0 : Hid (Below w.heap.size w (w.alloc (.cells #[.bool b, .slice oa la ca] 102))) := bnew (Below.refl _ _) _
  obtain ⟨L, hL⟩ : ∃ L, L = lenI z := ⟨_, rfl⟩
  have HL : Hid (∀ w', Calls Tryz.prog 118 #[.string (strN (txtI z))] w' fun e w2 => e = .returned (.int .i64 L) ∧ w' = w2) := fun w' => by rw [hL]; exact length_any
  by_cases hlt : 1024 < L
  · have HR : Hid (resI z = .tuple #[.string ⟨#[]⟩, .int .i64 11]) := by show _ = _; unfold resI; rw [← hL, if_pos hlt]
    clear hL
    go_enter Tryz.func92, Tryz.ntmps92
    go_wp2_with (first
      | (go_at_call 117; (with_reducible refine (HC.out _ HB0.out).mono ?_); rintro ec w5 ⟨rfl, hb5⟩; have HB5 := hide (below_then HB0.out hb5); clear hb5)
      | (go_at_call 118; (with_reducible refine (HL.out _).mono ?_); rintro ec w6 ⟨rfl, rfl⟩))
    go_ret2
    exact ⟨by rw [HR.out]; rfl, HB5.out⟩
  · have HR : Hid (resI z = .tuple #[.string (strN (txtI z)), .int .i64 0]) := by show _ = _; unfold resI; rw [← hL, if_neg hlt]
    clear hL
    go_enter Tryz.func92, Tryz.ntmps92
    go_wp2_with (first
      | (go_at_call 117; (with_reducible refine (HC.out _ HB0.out).mono ?_); rintro ec w5 ⟨rfl, hb5⟩; have HB5 := hide (below_then HB0.out hb5); clear hb5)
      | (go_at_call 118; (with_reducible refine (HL.out _).mono ?_); rintro ec w6 ⟨rfl, rfl⟩))
    go_ret2
    exact ⟨by rw [HR.out]; rfl, HB5.out⟩
end Go.Proofs.YthpknfoahimopaaGreatDoor

set_option linter.unusedVariables false
set_option linter.unusedSimpArgs false
set_option linter.unnecessarySimpa false
namespace Go.Proofs.YthpknfoahimopaaGreatDoor
open Go.RowKit

def ChkPost (w : World) (l : List UInt8) (e : Ending) (w' : World) : Prop := e = .returned (.int .i64 (chkI l)) ∧ Below w.heap.size w w'
theorem cut_any (s : ByteArray) (w : World) : Calls Tryz.prog 88 #[.string s, .string ⟨#[45]⟩] w fun e w' => e = .returned (.tuple #[.string (strN (magT s.data.toList)), .bool (sgnT s.data.toList)]) ∧ w = w' := by
  refine (Tryz.strings_CutPrefix s ⟨#[45]⟩ w).mono ?_
  rintro e w' ⟨rfl, rfl⟩
  refine ⟨?_, rfl⟩
  rw [show (⟨#[45]⟩ : ByteArray).data.toList = [45] from rfl, trimPrefix_mag, hasPrefix_sgn]
  rfl
set_option maxRecDepth 100000 in
set_option maxHeartbeats 4000000 in
theorem icheck_any (s : ByteArray) (hs : s.size ≤ 140737488355328) (w : World) : Calls Tryz.prog 49 #[.string s] w (ChkPost w s.data.toList) := by
  obtain ⟨l, hl⟩ : ∃ l, l = s.data.toList := ⟨_, rfl⟩
  have HCT := hide (cut_any s w)
  rw [← hl] at HCT ⊢
  obtain ⟨m, hm⟩ : ∃ m, m = magT l := ⟨_, rfl⟩
  obtain ⟨b, hb⟩ : ∃ b, b = sgnT l := ⟨_, rfl⟩
  rw [← hm, ← hb] at HCT
  have hml : m.length ≤ 140737488355328 := by
    have h1 : l.length = s.size := by rw [hl]; exact (Lib.size_eq s).symm
    have h2 : m.length ≤ l.length := by rw [hm]; unfold magT; split <;> simp
    omega
  have HM := hide hm
  have HBB := hide hb
  have HNO : Hid (∀ c ∈ m, ¬ isDgt c → chkI l = 3) := fun c hc hn => by
    unfold chkI
    rw [if_neg]
    rintro ⟨h1, _⟩
    exact hn (h1 c (by rw [← hm]; exact hc))
  clear hl hm hb
  obtain ⟨n, hn⟩ : ∃ n, n = m.length := ⟨_, rfl⟩
  have hsz : (strN m).size = n := by rw [hn]; rfl
  have HCV : Hid (∀ wx : World, (convert 9 112 (.string (strN m))).run Tryz.prog wx = .ok (.slice (some ⟨wx.heap.size, 0, none⟩) n (grownCap wx n 0 5)) (Lib.bytesWorld wx 5 (strN m))) := fun wx => by
    rw [← hsz]
    exact Lib.run_convert_string_bytes wx 9 112 5 (strN m) Tryz.underlying9 Tryz.underlying112 Tryz.underlying5
  have hcv := HCV.out w
  have HCE : Hid (∀ j c, m[j]? = some c → (Lib.bytesWorld w 5 (strN m)).cell? ⟨w.heap.size, j, none⟩ = some (.int .u8 (c.toNat : Int))) := fun j c hc => by
    have hj : j < m.length := (List.getElem?_eq_some_iff.1 hc).1
    rw [Lib.bytesWorld_cell w 5 (strN m) j hj]
    simp [strN, hc]
  have HB0 := hide (Lib.bytesWorld_below w 5 (strN m))
  have HN := hide hn
  rw [← hn] at hml
  clear hn hsz HCV
  go_enter Tryz.func49, Tryz.ntmps49
  go_wp2_with (go_at_call 88; (with_reducible refine HCT.out.mono ?_); rintro ec w5 ⟨rfl, rfl⟩)
  clear hcv
  generalize Lib.bytesWorld w 5 (strN m) = W0 at *
  go_loopg [6, 15] n (fun gm s6 iv wx => ∃ k : Nat, k ≤ n ∧ gm = n - k ∧ iv = .int .i64 k ∧ Hid (∀ c ∈ m.take k, isDgt c) ∧ Hid (W0 = wx))
  case atStart => exact ⟨0, by omega, by omega, rfl, (fun c hc => by simp at hc), rfl⟩
  case round =>
    obtain ⟨k, hk, hgm, rfl, HD, HW⟩ := hrel
    have HGM := hide hgm
    clear hgm
    by_cases hlt : k < n
    · obtain ⟨c, hc⟩ : ∃ c, m[k]? = some c := ⟨_, List.getElem?_eq_getElem (by rw [← HN.out]; exact hlt)⟩
      have c1 := HCE.out k c hc
      rw [HW.out] at c1
      have HC := hide hc
      have h255 : c.toNat < 256 := c.toNat_lt
      obtain ⟨x, hx⟩ : ∃ x, x = c.toNat := ⟨_, rfl⟩
      rw [← hx] at c1 h255
      have HX := hide hx
      clear hc hx
      by_cases h1 : x < 48
      · have HR : Hid (chkI l = 3) := HNO.out c (List.mem_of_getElem? HC.out) (fun h => by have := h.1; have := HX.out; omega)
        have t1 : decide ((x : Int) < 48) = true := by simp; omega
        go_wp2_with fail
        go_ret
        exact ⟨by rw [HR.out]; rfl, by rw [← HW.out]; exact HB0.out⟩
      · have t1 : decide ((x : Int) < 48) = false := by simp; omega
        by_cases h2 : 57 < x
        · have HR : Hid (chkI l = 3) := HNO.out c (List.mem_of_getElem? HC.out) (fun h => by have := h.2; have := HX.out; omega)
          have t2 : decide ((57 : Int) < (x : Int)) = true := by simp; omega
          go_wp2_with fail
          go_ret
          exact ⟨by rw [HR.out]; rfl, by rw [← HW.out]; exact HB0.out⟩
        · have t2 : decide ((57 : Int) < (x : Int)) = false := by simp; omega
          have HD2 : Hid (∀ c ∈ m.take (k + 1), isDgt c) := fun y hy => by
            rw [List.take_add_one, HC.out] at hy
            rcases List.mem_append.1 hy with h | h
            · exact HD.out y h
            · simp at h
              subst h
              have := HX.out
              exact ⟨by omega, by omega⟩
          go_wp2_with fail
          go_roundg (n - (k + 1))
          case rel => exact ⟨k + 1, by omega, rfl, by go_num, HD2, HW⟩
          case measure => rw [HGM.out]; omega
    · have HAD : Hid (∀ c ∈ m, isDgt c) := by
        have h5 := HD.out
        rw [List.take_of_length_le (by rw [← HN.out]; omega)] at h5
        exact h5
      have hsz : (strN m).size = n := by rw [HN.out]; rfl
      have HSZ := hide hsz
      have HLN : Hid ((magT l).length = n) := by show _ = _; rw [← HM.out, ← HN.out]
      by_cases he : n = 0
      · have te : (strN m).toList.isEmpty = true := by
          have h5 : m = [] := List.eq_nil_of_length_eq_zero (by rw [← HN.out]; exact he)
          rw [h5, ByteArray.toList_eq]; rfl
        have HR : Hid (chkI l = 3) := by
          show _ = _
          unfold chkI
          rw [if_neg]
          rintro ⟨_, h, _⟩
          exact h (List.eq_nil_of_length_eq_zero (by rw [HLN.out]; exact he))
        clear hsz he
        go_wp2_with fail
        go_ret
        exact ⟨by rw [HR.out]; rfl, by rw [← HW.out]; exact HB0.out⟩
      · have te : (strN m).toList.isEmpty = false := by
          rcases hm : m with _ | ⟨c, r⟩
          · exfalso; have := HN.out; rw [hm] at this; exact he this
          · have h5 : (strN (c :: r)).toList = c :: r := by rw [ByteArray.toList_eq]; simp [strN]
            rw [h5]; rfl
        obtain ⟨c0, r0, hcm⟩ : ∃ c0 r0, m = c0 :: r0 := by
          rcases m with _ | ⟨c, r⟩
          · exact absurd HN.out he
          · exact ⟨c, r, rfl⟩
        have h0 : 0 < (strN m).size := by omega
        have HC0 : Hid ((strN m)[0] = c0) := by
          show _ = _
          have : (strN m)[0] = m[0]'(by rw [← HN.out]; omega) := rfl
          rw [this]
          simp [hcm]
        have hszi : ((strN m).size : Int) = (n : Int) := by omega
        have HCM := hide hcm
        have HHD : Hid ((magT l).head? = some c0) := by show _ = _; rw [← HM.out, hcm]; rfl
        have HAD2 : Hid (∀ c ∈ magT l, isDgt c) := by rw [← HM.out]; exact HAD
        have hn0 : 0 < n := by omega
        clear hsz hcm he
        obtain ⟨x0, hx0⟩ : ∃ x0 : Nat, x0 = c0.toNat := ⟨_, rfl⟩
        have hxe : (((strN m)[0]).toNat : Int) = (x0 : Int) := by rw [HC0.out, hx0]
        have HX0 := hide hx0
        have HXE := hide hxe
        clear hx0 hxe
        have hne : magT l ≠ [] := by
          intro h
          have := HLN.out
          rw [h] at this
          simp at this
          omega
        have HNE := hide hne
        clear hne
        by_cases h48 : x0 = 48
        · have t48 : ((((strN m)[0]).toNat : Int) == 48) = true := by rw [HXE.out, h48]; rfl
          have HC48 : Hid (c0 = 48) := UInt8.toNat_inj.1 (by rw [← HX0.out]; exact h48)
          clear h48
          by_cases h1 : 1 < n
          · have t1 : decide ((1 : Int) < ((strN m).size : Int)) = true := by rw [hszi]; simp; omega
            have HR : Hid (chkI l = 3) := by
              show _ = _
              unfold chkI
              rw [if_neg]
              rintro ⟨_, _, h⟩
              rcases h with h | h
              · rw [HHD.out, HC48.out] at h; exact h rfl
              · rw [HLN.out] at h; omega
            clear hszi
            go_wp2_with fail
            go_ret
            exact ⟨by rw [HR.out]; rfl, by rw [← HW.out]; exact HB0.out⟩
          · have t1 : decide ((1 : Int) < ((strN m).size : Int)) = false := by rw [hszi]; simp; omega
            cases b
            · have t2 : decide ((1024 : Int) < ((strN m).size : Int)) = false := by rw [hszi]; simp; omega
              have HR : Hid (chkI l = 0) := by
                show _ = _
                unfold chkI
                rw [if_pos ⟨HAD2.out, HNE.out, .inr ⟨by rw [HLN.out]; omega, HBB.out.symm⟩⟩, if_neg (by rw [HLN.out]; omega)]
              clear hszi
              go_wp2_with fail
              go_ret
              exact ⟨by rw [HR.out]; rfl, by rw [← HW.out]; exact HB0.out⟩
            · have HR : Hid (chkI l = 3) := by
                show _ = _
                unfold chkI
                rw [if_neg]
                rintro ⟨_, _, h⟩
                rcases h with h | h
                · rw [HHD.out, HC48.out] at h; exact h rfl
                · rw [← HBB.out] at h; exact Bool.noConfusion h.2
              clear hszi
              go_wp2_with fail
              go_ret
              exact ⟨by rw [HR.out]; rfl, by rw [← HW.out]; exact HB0.out⟩
        · have t48 : ((((strN m)[0]).toNat : Int) == 48) = false := by rw [HXE.out]; simp; omega
          have HCAN : Hid (CanT l) := ⟨HAD2.out, HNE.out, .inl (by
            rw [HHD.out]
            intro h
            injection h with h
            have := HX0.out
            rw [h] at this
            exact h48 this)⟩
          clear h48
          by_cases h1 : 1024 < n
          · have t1 : decide ((1024 : Int) < ((strN m).size : Int)) = true := by rw [hszi]; simp; omega
            have HR : Hid (chkI l = 11) := by
              show _ = _
              unfold chkI
              rw [if_pos HCAN.out, if_pos (by rw [HLN.out]; exact h1)]
            clear hszi
            go_wp2_with fail
            go_ret
            exact ⟨by rw [HR.out]; rfl, by rw [← HW.out]; exact HB0.out⟩
          · have t1 : decide ((1024 : Int) < ((strN m).size : Int)) = false := by rw [hszi]; simp; omega
            have HR : Hid (chkI l = 0) := by
              show _ = _
              unfold chkI
              rw [if_pos HCAN.out, if_neg (by rw [HLN.out]; exact h1)]
            clear hszi
            go_wp2_with fail
            go_ret
            exact ⟨by rw [HR.out]; rfl, by rw [← HW.out]; exact HB0.out⟩
end Go.Proofs.YthpknfoahimopaaGreatDoor

set_option linter.unusedVariables false
set_option linter.unusedSimpArgs false
set_option linter.unnecessarySimpa false
namespace Go.Proofs.YthpknfoahimopaaGreatDoor
open Go.RowKit

theorem prod_sgn (x y : Int) : sgnZ (decide (x < 0) != decide (y < 0)) (x.natAbs * y.natAbs) = x * y := by
  unfold sgnZ
  rcases Int.lt_or_le x 0 with hx | hx <;> rcases Int.lt_or_le y 0 with hy | hy
  · have a : x = -(x.natAbs : Int) := by omega
    have b : y = -(y.natAbs : Int) := by omega
    have e : (decide (x < 0) != decide (y < 0)) = false := by simp [hx, hy]
    rw [e, if_neg (by simp), a, b]; push_cast; simp; grind
  · have a : x = -(x.natAbs : Int) := by omega
    have b : y = (y.natAbs : Int) := by omega
    have hy' : ¬ y < 0 := by omega
    have e : (decide (x < 0) != decide (y < 0)) = true := by simp [hx, hy']
    rw [e, if_pos rfl, a, b]; push_cast; simp; grind
  · have a : x = (x.natAbs : Int) := by omega
    have b : y = -(y.natAbs : Int) := by omega
    have hx' : ¬ x < 0 := by omega
    have e : (decide (x < 0) != decide (y < 0)) = true := by simp [hx', hy]
    rw [e, if_pos rfl, a, b]; push_cast; simp; grind
  · have a : x = (x.natAbs : Int) := by omega
    have b : y = (y.natAbs : Int) := by omega
    have hx' : ¬ x < 0 := by omega
    have hy' : ¬ y < 0 := by omega
    have e : (decide (x < 0) != decide (y < 0)) = false := by simp [hx', hy']
    rw [e, if_neg (by simp), a, b]; push_cast; simp
/-- A store into a block that holds a number's fields leaves natural numbers alone. -/
theorem NatV.other {W W' : World} {v : Value} {n B : Nat} {d : Bool} {o : Option Addr} {l c : Nat} {t : TypeId} (h : NatV W v n) (hb : Box W B [.bool d, .slice o l c] t) (hk : ∀ k, k ≠ B → W'.heap[k]? = W.heap[k]?) : NatV W' v n := by
  obtain ⟨oa, c, rfl, h1, h2, h3⟩ := h
  refine ⟨oa, c, rfl, h1, h2, fun i x hx => ?_⟩
  obtain ⟨b, off, cs, he, _, ⟨rfl, hx9⟩, hc⟩ := h3 i x hx
  have hne : b ≠ B := by
    rintro rfl
    have h5 := hc 0 _ rfl
    rw [hb.cell] at h5
    generalize off + i * 1 + 0 = j at h5
    match j with
    | 0 => simp at h5
    | 1 => simp at h5
    | j + 2 => simp at h5
  refine ⟨b, off, _, he, trivial, ⟨rfl, hx9⟩, fun j u hu => ?_⟩
  rw [World.cell?_of_block (hk b hne)]
  exact hc j u hu
/-- Two numbers and the result, each in a block. -/
structure Boxed2 (w : World) (a b : Bool) (u v : Value) (W : World) : Prop where
  b0 : Box W w.heap.size [.bool a, u] 102
  b1 : Box W (w.heap.size + 1) [.bool b, v] 102
  b2 : Box W (w.heap.size + 1 + 1) [.bool false, .slice none 0 0] 102
  low : Below w.heap.size w W
theorem Boxed2.start (w : World) (a b : Bool) (u v : Value) : Boxed2 w a b u v (((w.alloc (.cells #[.bool a, u] 102)).alloc (.cells #[.bool b, v] 102)).alloc (.cells #[.bool false, .slice none 0 0] 102)) := by
  have h0 := ((Box.new w [.bool a, u] 102).next (.cells #[.bool b, v] 102)).next (.cells #[.bool false, .slice none 0 0] 102)
  have h1 := (Box.new (w.alloc (.cells #[.bool a, u] 102)) [.bool b, v] 102).next (.cells #[.bool false, .slice none 0 0] 102)
  have h2 := Box.new ((w.alloc (.cells #[.bool a, u] 102)).alloc (.cells #[.bool b, v] 102)) [.bool false, .slice none 0 0] 102
  rw [World.size_alloc] at h1
  rw [World.size_alloc, World.size_alloc] at h2
  exact ⟨h0, h1, h2, bnew (bnew (bnew (Below.refl _ _) _) _) _⟩
theorem Boxed2.below {w W W' : World} {a b : Bool} {u v : Value} (h : Boxed2 w a b u v W) (hb : Below W.heap.size W W') : Boxed2 w a b u v W' := ⟨h.b0.below hb, h.b1.below hb, h.b2.below hb, below_then h.low hb⟩
theorem Boxed2.draw {w W : World} {a b : Bool} {u v : Value} (h : Boxed2 w a b u v W) : Boxed2 w a b u v W.drew := h.below (Below.refl _ _).drew
theorem Boxed2.cells {w W : World} {a b : Bool} {u v : Value} (h : Boxed2 w a b u v W) : W.cell? ⟨w.heap.size, 0, none⟩ = some (.bool a) ∧ W.cell? ⟨w.heap.size, 1, none⟩ = some u ∧ W.cell? ⟨w.heap.size + 1, 0, none⟩ = some (.bool b) ∧ W.cell? ⟨w.heap.size + 1, 1, none⟩ = some v := by
  refine ⟨?_, ?_, ?_, ?_⟩
  · simpa using h.b0.cell 0
  · simpa using h.b0.cell 1
  · simpa using h.b1.cell 0
  · simpa using h.b1.cell 1
theorem Boxed2.res {w W : World} {a b : Bool} {u v : Value} (h : Boxed2 w a b u v W) : W.cell? ⟨w.heap.size + 1 + 1, 0, none⟩ = some (.bool false) ∧ W.cell? ⟨w.heap.size + 1 + 1, 1, none⟩ = some (.slice none 0 0) ∧ W.frozen? ⟨w.heap.size + 1 + 1, 0, none⟩ = false ∧ W.frozen? ⟨w.heap.size + 1 + 1, 1, none⟩ = false := by
  refine ⟨?_, ?_, h.b2.free 0, h.b2.free 1⟩
  · simpa using h.b2.cell 0
  · simpa using h.b2.cell 1
/-- Behind the store of the result. -/
theorem Boxed2.put {w W : World} {a b : Bool} {u v : Value} (h : Boxed2 w a b u v W) (d : Bool) (r : Value) :
    ((W.setCell ⟨w.heap.size + 1 + 1, 0, none⟩ (.bool d)).setCell ⟨w.heap.size + 1 + 1, 1, none⟩ r).cell? ⟨w.heap.size + 1 + 1, 0, none⟩ = some (.bool d) ∧ ((W.setCell ⟨w.heap.size + 1 + 1, 0, none⟩ (.bool d)).setCell ⟨w.heap.size + 1 + 1, 1, none⟩ r).cell? ⟨w.heap.size + 1 + 1, 1, none⟩ = some r ∧
    Below w.heap.size w ((W.setCell ⟨w.heap.size + 1 + 1, 0, none⟩ (.bool d)).setCell ⟨w.heap.size + 1 + 1, 1, none⟩ r) ∧ ∀ k, k ≠ w.heap.size + 1 + 1 → ((W.setCell ⟨w.heap.size + 1 + 1, 0, none⟩ (.bool d)).setCell ⟨w.heap.size + 1 + 1, 1, none⟩ r).heap[k]? = W.heap[k]? := by
  have h5 := (h.b2.put 0 (.bool d)).put 1 r
  refine ⟨?_, ?_, (h.low.setCell (by simp; omega) _).setCell (by simp; omega) _, fun k hk => (Below.heap_setCell _ ⟨w.heap.size + 1 + 1, 1, none⟩ r k hk).trans (Below.heap_setCell W ⟨w.heap.size + 1 + 1, 0, none⟩ (.bool d) k hk)⟩
  · simpa using h5.cell 0
  · simpa using h5.cell 1
theorem Boxed2.kept {w W : World} {a b : Bool} {u v : Value} (h : Boxed2 w a b u v W) (d : Bool) (r : Value) :
    ((W.setCell ⟨w.heap.size + 1 + 1, 0, none⟩ (.bool d)).setCell ⟨w.heap.size + 1 + 1, 1, none⟩ r).cell? ⟨w.heap.size, 0, none⟩ = some (.bool a) ∧ ((W.setCell ⟨w.heap.size + 1 + 1, 0, none⟩ (.bool d)).setCell ⟨w.heap.size + 1 + 1, 1, none⟩ r).cell? ⟨w.heap.size, 1, none⟩ = some u ∧
    ((W.setCell ⟨w.heap.size + 1 + 1, 0, none⟩ (.bool d)).setCell ⟨w.heap.size + 1 + 1, 1, none⟩ r).cell? ⟨w.heap.size + 1, 0, none⟩ = some (.bool b) ∧ ((W.setCell ⟨w.heap.size + 1 + 1, 0, none⟩ (.bool d)).setCell ⟨w.heap.size + 1 + 1, 1, none⟩ r).cell? ⟨w.heap.size + 1, 1, none⟩ = some v := by
  have h0 := (h.b0.other (p := ⟨w.heap.size + 1 + 1, 0, none⟩) (by simp; omega) (.bool d)).other (p := ⟨w.heap.size + 1 + 1, 1, none⟩) (by simp; omega) r
  have h1 := (h.b1.other (p := ⟨w.heap.size + 1 + 1, 0, none⟩) (by simp) (.bool d)).other (p := ⟨w.heap.size + 1 + 1, 1, none⟩) (by simp) r
  refine ⟨?_, ?_, ?_, ?_⟩
  · simpa using h0.cell 0
  · simpa using h0.cell 1
  · simpa using h1.cell 0
  · simpa using h1.cell 1
set_option maxRecDepth 100000 in
set_option maxHeartbeats 4000000 in
theorem numprod_any {x y : Int} {v1 v2 : Value} {w : World} (h1 : NumV w v1 x) (h2 : NumV w v2 y) (hx : Few x.natAbs) (hy : Few y.natAbs) : Calls Tryz.prog 86 #[v1, v2] w (NumPost w (x * y)) := by
  obtain ⟨u, rfl, hu⟩ := h1
  obtain ⟨v, rfl, hv⟩ := h2
  have HC : Hid (∀ w', Below w.heap.size w w' → Calls Tryz.prog 113 #[u, v] w' (NatPost w' (x.natAbs * y.natAbs))) := fun w' hb => ntimes_any (hu.below hb) (hv.below hb) hx hy
  have HS : Hid (∀ (d : Bool) (r : Value) (w' : World), NatV w' r (x.natAbs * y.natAbs) → Calls Tryz.prog 90 #[.bool d, r] w' fun e w2 => e = .returned (.agg #[.bool (d && decide (0 < x.natAbs * y.natAbs)), r]) ∧ Below w'.heap.size w' w2) := fun d r w' hr => signed_any d hr
  obtain ⟨a, ha⟩ : ∃ a, a = decide (x < 0) := ⟨_, rfl⟩
  obtain ⟨b, hb⟩ : ∃ b, b = decide (y < 0) := ⟨_, rfl⟩
  obtain ⟨P, hP⟩ : ∃ P, P = decide (0 < x.natAbs * y.natAbs) := ⟨_, rfl⟩
  rw [← hP] at HS
  rw [← ha, ← hb]
  have HSG : Hid (sgnZ (a != b) (x.natAbs * y.natAbs) = x * y) := by show _ = _; rw [ha, hb]; exact prod_sgn x y
  have HPP := hide hP
  obtain ⟨oa, ca, la, rfl, _, _⟩ := nat_len hu
  obtain ⟨ob, cb, lb, rfl, _, _⟩ := nat_len hv
  clear ha hb hP hu hv hx hy
  have HX := hide (Boxed2.start w a b (.slice oa la ca) (.slice ob lb cb))
  obtain ⟨W, hW⟩ : ∃ W, ((w.alloc (.cells #[.bool a, .slice oa la ca] 102)).alloc (.cells #[.bool b, .slice ob lb cb] 102)).alloc (.cells #[.bool false, .slice none 0 0] 102) = W := ⟨_, rfl⟩
  have HX : Hid (Boxed2 w a b (.slice oa la ca) (.slice ob lb cb) W) := by show Boxed2 _ _ _ _ _ _; rw [← hW]; exact HX.out
  have HW := hide hW
  clear hW
  go_enter Tryz.func86, Tryz.ntmps86
  go_wp2_with fail
  rw [HW.out]
  have yy := HX.out.cells
  go_region_held3 (fun w' => w'.cell? ⟨w.heap.size, 0, none⟩ = some (.bool a) ∧ w'.cell? ⟨w.heap.size, 1, none⟩ = some (.slice oa la ca) ∧ w'.cell? ⟨w.heap.size + 1, 0, none⟩ = some (.bool b) ∧ w'.cell? ⟨w.heap.size + 1, 1, none⟩ = some (.slice ob lb cb)) (first | with_reducible exact yy | with_reducible exact HX.out.draw.cells | with_reducible exact HX6.out.kept _ _) (first
    | (go_at_call 113; (with_reducible refine (HC.out _ HX.out.draw.low).mono ?_); rintro ec w5 ⟨r, rfl, hr, hb5⟩; have HX5 := hide (HX.out.draw.below hb5); have yy := HX5.out.cells; obtain ⟨oc, cc, lc, hrv, _, _⟩ := nat_len hr; subst hrv; have HR5 := hide hr; clear hr hb5)
    | (go_at_call 90; (with_reducible refine (HS.out _ _ _ HR5.out).mono ?_); rintro ec w6 ⟨rfl, hb6⟩; have HX6 := hide (HX5.out.below hb6); have HR6 := hide (HR5.out.below hb6); have yy := HX6.out.cells; obtain ⟨r0, r1, f0, f1⟩ := HX6.out.res; clear hb6))
  all_goals
    obtain ⟨z0, z1, hb7, hb8⟩ := HX6.out.put (!(a == b) && P) (.slice oc lc cc)
    have HB7 := hide hb7
    have HB8 := hide hb8
    clear hb7 hb8
    go_wp2_with fail
    refine bodyPost_ret (v := .agg #[.bool (!(a == b) && P), .slice oc lc cc]) (by simp [results, Tryz.results86, go_sem, z0, z1]) rfl ⟨_, rfl, ?_, HB7.out⟩
    have h5 := NumV.of (a != b) (HR6.out.other HX6.out.b2 HB8.out)
    rw [← HPP.out, HSG.out] at h5
    exact h5
end Go.Proofs.YthpknfoahimopaaGreatDoor

set_option linter.unusedVariables false
set_option linter.unusedSimpArgs false
set_option linter.unnecessarySimpa false
namespace Go.Proofs.YthpknfoahimopaaGreatDoor
open Go.RowKit Go.Shelf

attribute [local go_sem] Oper.semAt_some

/-- What lay below n₀ lies as it lay, and so do the blocks of type T, wherever they lie. -/
def KpS (T : TypeId) (n₀ : Nat) (W W' : World) : Prop := Below n₀ W W' ∧ ∀ (k : Nat) (cs : Array Value), W.heap[k]? = some (Obj.cells cs T (0, 0)) → W'.heap[k]? = some (Obj.cells cs T (0, 0))
theorem KpS.refl (T : TypeId) (n₀ : Nat) (W : World) : KpS T n₀ W W := ⟨Below.refl _ _, fun _ _ h => h⟩
theorem KpS.t {T : TypeId} {n₀ : Nat} {A B C : World} (h : KpS T n₀ A B) (k : KpS T n₀ B C) : KpS T n₀ A C := ⟨h.1.trans k.1, fun i cs hi => k.2 i cs (h.2 i cs hi)⟩
theorem KpS.b {T : TypeId} {n₀ : Nat} {w : World} (hn : n₀ ≤ w.heap.size) (W : World) (l : Nat) (o o' : Obj) (hl : w.heap.size ≤ l) (ho : W.heap[l]? = some o) (hc : o.isCells = false) (hw : o.isWalk = false) : KpS T n₀ W (W.putObj l o') := by
  refine ⟨belowK_b hn W l o o' hl ho hc hw, fun k cs hk => ?_⟩
  have : k ≠ l := fun e => by
    subst e
    rw [hk] at ho
    injection ho with ho
    subst ho
    cases hc
  rw [World.putObj_heap_other this]
  exact hk
theorem KpS.of_below {T : TypeId} {n₀ : Nat} {W W' : World} (hb : Below W.heap.size W W') (hn : n₀ ≤ W.heap.size) : KpS T n₀ W W' :=
  ⟨hb.mono hn, fun k cs hk => (hb.block k (Array.getElem?_eq_some_iff.1 hk).1).trans hk⟩
theorem below_grown {W W' : World} (hb : Below W.heap.size W W') : W.grownBy W' none := ⟨hb.os, hb.tape, hb.output, hb.size, fun k hk _ => hb.block k hk⟩
def wEnc (x : Nat) : Array Value := #[.int .u32 (x : Int)]
theorem part_list (s : ByteArray) (lo hi : Nat) : (s.extract lo hi).data.toList = (s.data.toList.drop lo).take (hi - lo) := by
  rw [Lib.extract_data]
theorem grp_part {l : List UInt8} {k lo : Nat} (h : 9 * k < l.length) (hlo : lo = l.length - 9 * k - 9) : valT ((l.drop lo).take (l.length - 9 * k - lo)) = grpF (digT l) k := by
  unfold valT grpF
  rw [digT_part l (lo := lo) (hi := l.length - 9 * k) (by omega) (by omega), show l.length - (l.length - 9 * k) = 9 * k from by omega]
  by_cases h9 : 9 ≤ l.length - 9 * k
  · rw [show l.length - 9 * k - lo = 9 from by omega]
  · have hl : ((digT l).drop (9 * k)).length = l.length - 9 * k := by rw [List.length_drop, digT_len]
    rw [List.take_of_length_le (by omega), List.take_of_length_le (by omega)]
set_option maxRecDepth 100000 in
set_option maxHeartbeats 4000000 in
theorem groups1_in (n : Nat) (hn : 1 ≤ n) (l Bs n₀ : Nat) (s : ByteArray) (L : Nat) (hL : L = s.size) (hLm : L ≤ 100000) (hdg : ∀ c ∈ s.data.toList, isDgt c) (J Jx : List Nat → World → Prop)
    (hY : ∀ pre x W, J pre W → pre.length < L + 1 → YieldAt Go.Fence.wide (n - 1) Tryz.prog l (wEnc x) W fun e W' =>
      (e = .returned (.bool true) ∧ J (pre ++ [x]) W' ∧ KpS 9 n₀ W W') ∨ (e = .returned (.bool false) ∧ Jx (pre ++ [x]) W'))
    (W : World) (hn₀ : n₀ ≤ W.heap.size) (hJ : AbidesFrom W.heap.size J) (hBs : Box W Bs [.string s] 9) (h0 : J [] W) :
    CallsIn Go.Fence.wide n Tryz.prog 124 #[.func (.yield l) #[] #[], .pointer (some ⟨Bs, 0, none⟩)] W fun e W' => (∃ v, e = .returned v) ∧
      ((∃ ys, (∃ k, L ≤ 9 * k ∧ ys = grps (digT s.data.toList) k) ∧ J ys W') ∨ (∃ pre, True ∧ Jx pre W')) := by
  have hf1 : Go.Fence.wide.fn 125 := trivial
  have HL := hide hL
  have HDG := hide hdg
  have HBS := hide hBs
  have c0 := hBs.cell 0
  simp only [List.getElem?_cons_zero] at c0
  clear hdg
  refine callsIn_of_wp Tryz.func124 rfl trivial ?_ rfl
  simp only [Tryz.ntmps124, List.size_toArray, List.length_cons, List.length_nil, Nat.reduceAdd, Nat.reduceSub, Array.replicate_succ, Array.replicate_zero, List.push_toArray, List.append_toArray, List.nil_append, List.cons_append]
  gi_wp2
  rw [← HL.out]
  clear hL c0 hBs
  gi_loopw [3] (fun ev wr => ∃ k : Nat, 9 * k ≤ L + 8 ∧ ev = .int .i64 ((L : Int) - 9 * k) ∧ Hid (J (grps (digT s.data.toList) k) wr) ∧ Hid (KpS 9 n₀ W wr) ∧ W.heap.size ≤ wr.heap.size)
    (fun ev _ => (intOf ev + 9).toNat)
  case atStart => exact ⟨0, by omega, by simp, h0, KpS.refl _ _ _, Nat.le_refl _⟩
  case round =>
    obtain ⟨k, hk, rfl, HJS, HNX, hsz⟩ := hrel
    by_cases hlt : 9 * k < L
    · have tq : decide ((0 : Int) < (L : Int) - 9 * k) = true := by simp; omega
      have hbx : Box wr Bs [.string s] 9 := HNX.out.2 Bs _ HBS.out
      have c0 := hbx.cell 0
      simp only [List.getElem?_cons_zero] at c0
      clear hbx
      have hmx : (max 0 ((L : Int) - 9 * k - 9)).toNat = L - 9 * k - 9 := by omega
      have HPU : Hid (∀ w', CallsIn Go.Fence.wide (n - 1) Tryz.prog 125 #[.string (s.extract (max 0 ((L : Int) - 9 * k - 9)).toNat (L - 9 * k)), .int .i64 10, .int .i64 32] w' fun e w2 => e = .returned (.tuple #[.int .u64 (grpF (digT s.data.toList) k), .nilIface]) ∧ Below w'.heap.size w' w2) := fun w' => by
        rw [hmx]
        have hl : s.data.toList.length = L := by rw [HL.out]; exact (Lib.size_eq s).symm
        have hpt := part_list s (L - 9 * k - 9) (L - 9 * k)
        have hgp := grp_part (l := s.data.toList) (k := k) (lo := L - 9 * k - 9) (by omega) (by omega)
        rw [hl] at hgp
        refine callsIn_wide.2 ((Tryz.strconv_ParseUint_10_at32_ok (s.extract (L - 9 * k - 9) (L - 9 * k)) ?_ (grpF (digT s.data.toList) k) ?_ w').mono ?_)
        · rw [Lib.size_eq, hpt, List.length_take]; omega
        · rw [hpt, ← hgp]
          refine parse32 (fun c hc => HDG.out c (List.mem_of_mem_drop (List.mem_of_mem_take hc))) ?_ (by rw [List.length_take]; omega)
          intro h5
          have h6 := congrArg List.length h5
          rw [List.length_take, List.length_drop, hl, List.length_nil] at h6
          omega
        · rintro e w2 ⟨rfl, h5⟩
          refine ⟨rfl, ?_⟩
          rcases h5 with h5 | h5
          · subst h5; exact Below.refl _ _
          · subst h5; exact Lib.bytesWorld_below _ _ _
      have hg9 : grpF (digT s.data.toList) k < 1000000000 := grpF_lt (digT_lt HDG.out) k
      obtain ⟨g, hg⟩ : ∃ g, g = grpF (digT s.data.toList) k := ⟨_, rfl⟩
      rw [← hg] at HPU hg9
      have HG := hide hg
      have hLs : L ≤ s.size := by rw [HL.out]; exact Nat.le_refl _
      clear hg hmx
      gi_wp2_with (gi_at_call 125; (with_reducible refine (HPU.out _).mono ?_); rintro e w5 ⟨rfl, hb5⟩; have HB5 := hide hb5; clear hb5; refine Hid.out ?_)
      refine Lib.hid ?_
      have hJ5 := hJ _ _ _ none HJS.out (below_grown HB5.out) (fun r e => by cases e)
      have HNX5 := hide (HNX.out.t (KpS.of_below HB5.out (Nat.le_trans hn₀ hsz)))
      have hsz5 : W.heap.size ≤ w5.heap.size := Nat.le_trans hsz HB5.out.size
      obtain ⟨fn, tmps, assign, body, hy, hR⟩ := hY _ g w5 hJ5 (by rw [grps_len]; omega)
      simp only [wEnc] at hy
      have HJX := hide hJ5
      clear hJ5 c0
      gi_wp2
      refine hR.mono ?_
      rintro e' W3 (⟨rfl, hJ4, hk4⟩ | ⟨rfl, hJx4⟩)
      · gi_wp2
        go_roundw
        case rel => exact ⟨k + 1, by omega, by push_cast; go_num, (show J _ _ from by rw [grps_succ, ← HG.out]; exact hJ4), HNX5.out.t hk4, Nat.le_trans hsz5 hk4.1.size⟩
        case measure => simp [intOf]; omega
      · gi_wp2
        refine bodyPost_ret (results_none rfl _ _ _) rfl ?_
        exact ⟨⟨_, rfl⟩, .inr ⟨_, trivial, hJx4⟩⟩
    · have tq : decide ((0 : Int) < (L : Int) - 9 * k) = false := by simp; omega
      gi_wp2
      go_end0
      exact ⟨⟨_, rfl⟩, .inl ⟨_, ⟨k, by omega, rfl⟩, HJS.out⟩⟩
theorem groups_any (s : ByteArray) (w : World) : Calls Tryz.prog 110 #[.string s] w fun e w' => e = .returned (.func (.func 124) #[] #[.pointer (some ⟨w.heap.size, 0, none⟩)]) ∧ w' = w.alloc (.cells #[.string s] 9) := by
  go_enter Tryz.func110, Tryz.ntmps110
  go_wp2_with fail
  go_ret
  exact ⟨rfl, rfl⟩
theorem groups_stops (n : Nat) (hn : 1 ≤ n) (Bs n₀ : Nat) (s : ByteArray) (hLm : s.size ≤ 100000) (hdg : ∀ c ∈ s.data.toList, isDgt c) (w : World) (hn₀ : n₀ ≤ w.heap.size) (hBs : Box w Bs [.string s] 9) :
    SeqStopsK Go.Fence.wide n Tryz.prog 124 #[.pointer (some ⟨Bs, 0, none⟩)] wEnc (KpS 9 n₀) (fun ys => ∃ k, s.size ≤ 9 * k ∧ ys = grps (digT s.data.toList) k) (fun _ => True) (s.size + 1) w := fun l J Jx W hW hJ _ hY h0 =>
  groups1_in n hn l Bs n₀ s s.size rfl hLm hdg J Jx hY W (Nat.le_trans hn₀ hW.size) hJ (hBs.below hW) h0
theorem sbox_row {W : World} {B : Nat} {t e : TypeId} {cs : List Value} (h : Box W B cs t) (hte : t ≠ e) {base size k : Nat} {v : Value} {xs : List Value} (hr : W.ownsRow base e size v k xs) : some B ≠ v.ownBlock := by
  rcases hr.2 with ⟨rfl, _⟩ | ⟨g, cap, cur, rfl, _, hgb, _⟩
  · simp [Value.ownBlock]
  · intro e'
    obtain rfl : B = g := by simpa [Value.ownBlock] using e'
    have := (show W.heap[B]? = _ from h).symm.trans hgb
    simp at this
    exact hte this.2
theorem sbox_own {β : Type} (B : Nat) (t : TypeId) (cs : List Value) : Own (fun (_ : β) W => Box W B cs t) := fun s X Y row hs hg hrow =>
  hs.keep (hg.block B hs.lt fun e' => by
    obtain ⟨o, ho, hc⟩ := hrow B e'.symm
    rw [show X.heap[B]? = _ from hs] at ho
    cases ho
    cases hc)
/-- What an append to a row of type e and a store into a box of type t do to the blocks of a third type. -/
theorem KpS.appended {T t e : TypeId} {W w1 : World} {n₀ B size k : Nat} {v v' u : Value} {xs : List Value} {tmp : Obj} (hTe : T ≠ e) (hTt : T ≠ t) (hrow : W.ownsRow n₀ e size v k xs) (hv : Boxed W B t u)
    (hgrow : (W.alloc tmp).grownBy w1 v.ownBlock) (hb : Below n₀ W (w1.setCell ⟨B, 0, none⟩ v')) : KpS T n₀ W (w1.setCell ⟨B, 0, none⟩ v') := by
  refine ⟨hb, fun j cs hj => ?_⟩
  have hjl := (Array.getElem?_eq_some_iff.1 hj).1
  have h1 : j ≠ B := fun e1 => by
    subst e1
    have := (show W.heap[j]? = _ from hv).symm.trans hj
    simp at this
    exact hTt this.2.symm
  rw [Below.heap_setCell w1 ⟨B, 0, none⟩ v' j h1, hgrow.block j (by simp; omega) ?_, Below.heap_alloc W tmp j hjl]
  · exact hj
  · intro e1
    rcases hrow.2 with ⟨rfl, _⟩ | ⟨g, cap, cur, rfl, _, hgb, _⟩
    · simp [Value.ownBlock] at e1
    · obtain rfl : j = g := by simpa [Value.ownBlock] using e1
      rw [hj] at hgb
      simp at hgb
      exact hTe hgb.2
theorem NatV.putObj {W : World} {v : Value} {n D : Nat} {o : Obj} (h : NatV W v n) (hD : W.heap[D]? = some o) (ho : o.isCells = false) (o' : Obj) : NatV (W.putObj D o') v n := by
  obtain ⟨oa, c, rfl, h1, h2, h3⟩ := h
  refine ⟨oa, c, rfl, h1, h2, fun i x hx => ?_⟩
  obtain ⟨b, off, cs, he, _, ⟨rfl, hx9⟩, hc⟩ := h3 i x hx
  have hne : b ≠ D := by
    rintro rfl
    have h5 := hc 0 _ rfl
    unfold World.cell? at h5
    simp only [hD] at h5
    cases o <;> simp_all [Obj.isCells]
  refine ⟨b, off, _, he, trivial, ⟨rfl, hx9⟩, fun j u hu => ?_⟩
  rw [World.cell?_of_block (World.putObj_heap_other hne)]
  exact hc j u hu
theorem OwnS.words {base : Nat} {e : TypeId} {F : Foot} {w : World} {v : Value} {xs : List Nat} (h : w.ownsRow base e 1 v xs.length (xs.map u32V)) (hx : ∀ x ∈ xs, x < 4294967296) : OwnS wrdR 1 base e F w v xs := by
  refine ⟨xs.map u32V, h, ?_, ?_⟩
  · intro u hu
    obtain ⟨x, _, rfl⟩ := List.mem_map.1 hu
    rfl
  · intro i x hi
    refine ⟨?_, hx x (List.mem_of_getElem? hi)⟩
    have hl : i < xs.length := (List.getElem?_eq_some_iff.1 hi).1
    apply List.ext_getElem?
    intro j
    unfold chunk
    match j with
    | 0 =>
      rw [List.getElem?_take_of_lt (by omega), List.getElem?_drop, List.getElem?_map]
      simp [hi, u32V]
    | j + 1 => rw [List.getElem?_eq_none (by simp; omega), List.getElem?_eq_none (by simp)]
set_option maxRecDepth 100000 in
set_option maxHeartbeats 4000000 in
theorem read_in (n0 : Nat) (hn0 : 4 ≤ n0) (z : Int) (w : World) (hz : lenI z ≤ 100000) : CallsIn Go.Fence.wide n0 Tryz.prog 82 #[.string (strN (txtI z))] w (NumPost w z) := by
  have h1 : 1 ≤ n0 := by omega
  obtain ⟨i0, hi, hz0, hz1, hz2⟩ := info_parts wInfo
  have HI := hide (And.intro hi (And.intro hz0 (And.intro hz1 hz2)))
  clear hi hz0 hz1 hz2
  have cC : ∀ W : World, CallsIn Go.Fence.wide (n0 - 1) Tryz.prog 88 #[.string (strN (txtI z)), .string ⟨#[45]⟩] W fun e w' => e = .returned (.tuple #[.string (strN (txtN z.natAbs)), .bool (decide (z < 0))]) ∧ w' = W := fun W => by
    refine callsIn_wide.2 ((Tryz.strings_CutPrefix (strN (txtI z)) ⟨#[45]⟩ W).mono ?_)
    rintro e w' ⟨rfl, rfl⟩
    refine ⟨?_, rfl⟩
    rw [show (strN (txtI z)).data.toList = txtI z from by simp [strN], show (⟨#[45]⟩ : ByteArray).data.toList = [45] from rfl, trimPrefix_mag, hasPrefix_sgn, magT_txtI, sgnT_txtI]
    rfl
  have cG : ∀ W : World, CallsIn Go.Fence.wide (n0 - 1) Tryz.prog 110 #[.string (strN (txtN z.natAbs))] W fun e w' => e = .returned (.func (.func 124) #[] #[.pointer (some ⟨W.heap.size, 0, none⟩)]) ∧ w' = W.alloc (.cells #[.string (strN (txtN z.natAbs))] 9) := fun W => callsIn_wide.2 (groups_any _ W)
  have hf1 : Go.Fence.wide.fn 88 := trivial
  have hf2 : Go.Fence.wide.fn 110 := trivial
  have HC := hide cC
  have HG := hide cG
  clear cC cG
  obtain ⟨b, hb⟩ : ∃ b, b = decide (z < 0) := ⟨_, rfl⟩
  rw [← hb] at HC
  have HBZ := hide hb
  clear hb
  refine callsIn_of_wp_marks Tryz.func82 rfl trivial ?_ rfl
  simp only [Tryz.ntmps82, List.size_toArray, List.length_cons, List.length_nil, Nat.reduceAdd, Nat.reduceSub, Array.replicate_succ, Array.replicate_zero, List.push_toArray, List.append_toArray, List.nil_append, List.cons_append]
  gi_wp2_with (first | (gi_at_call 88; refine (HC.out _).mono ?_; rintro e w2 ⟨rfl, rfl⟩) | (gi_at_call 110; refine (HG.out _).mono ?_; rintro e w3 ⟨rfl, rfl⟩))
  have HSB := hide (Box.new ((w.alloc (.cells #[.bool false, .slice none 0 0] 102)).alloc (.cells #[.slice none 0 0] 100)) [.string (strN (txtN z.natAbs))] 9)
  have HSB : Hid (Box (((w.alloc (.cells #[.bool false, .slice none 0 0] 102)).alloc (.cells #[.slice none 0 0] 100)).alloc (.cells #[.string (strN (txtN z.natAbs))] 9)) (w.heap.size + 1 + 1) [.string (strN (txtN z.natAbs))] 9) := by
    have h5 := HSB.out
    rw [World.size_alloc, World.size_alloc] at h5
    exact h5
  have HRB : Hid (Box (((w.alloc (.cells #[.bool false, .slice none 0 0] 102)).alloc (.cells #[.slice none 0 0] 100)).alloc (.cells #[.string (strN (txtN z.natAbs))] 9)) w.heap.size [.bool false, .slice none 0 0] 102) := ((Box.new w [.bool false, .slice none 0 0] 102).next _).next _
  have bO : Boxed (((w.alloc (.cells #[.bool false, .slice none 0 0] 102)).alloc (.cells #[.slice none 0 0] 100)).alloc (.cells #[.string (strN (txtN z.natAbs))] 9)) (w.heap.size + 1) 100 (.slice none 0 0) := by
    have h5 := (Boxed.new (w.alloc (.cells #[.bool false, .slice none 0 0] 102)) 100 (.slice none 0 0)).alloc (.cells #[.string (strN (txtN z.natAbs))] 9)
    rw [World.size_alloc] at h5
    exact h5
  have hB0 : Below w.heap.size w (((w.alloc (.cells #[.bool false, .slice none 0 0] 102)).alloc (.cells #[.slice none 0 0] 100)).alloc (.cells #[.string (strN (txtN z.natAbs))] 9)) := bnew (bnew (bnew (Below.refl _ _) _) _) _
  have hsz0 : (((w.alloc (.cells #[.bool false, .slice none 0 0] 102)).alloc (.cells #[.slice none 0 0] 100)).alloc (.cells #[.string (strN (txtN z.natAbs))] 9)).heap.size = w.heap.size + 3 := by simp
  generalize ((w.alloc (.cells #[.bool false, .slice none 0 0] 102)).alloc (.cells #[.slice none 0 0] 100)).alloc (.cells #[.string (strN (txtN z.natAbs))] 9) = W0 at *
  refine wpIn_rangeFunc_ownG rfl h1 (gf := 124) (lb := #[.pointer (some ⟨w.heap.size + 1 + 1, 0, none⟩)]) rfl trivial (enters_of Tryz.func124 (by kernel_rfl) rfl)
    (groups_stops (n0 - 1) (by omega) (w.heap.size + 1 + 1) w.heap.size (strN (txtN z.natAbs)) hz (fun c hc => txtN_dgt z.natAbs c (by simpa [strN] using hc)) W0 (by omega) HSB.out) KpS.t (KpS.b (by omega)) (Below.refl _ _) (fun _ => rfl)
    (fun pre W => (∃ v, Boxed W (w.heap.size + 1) 100 v ∧ W.ownsRow w.heap.size 131 1 v pre.length (pre.map u32V) ∧ True) ∧ (Below w.heap.size w W ∧ Box W w.heap.size [.bool false, .slice none 0 0] 102))
    (fun _ _ _ => False)
    (OwnFrom.and (Own.from (holdsRow_own w.heap.size (w.heap.size + 1) 100 131 1 (fun pre : List Nat => pre.length) (fun pre => pre.map u32V) (fun pre v => True)) _) (OwnFrom.and (ownFrom_below (Nat.le_refl _) (by omega)) (Own.from (sbox_own w.heap.size 102 _) _)))
    (fun _ _ _ _ _ hs _ _ => hs)
    ⟨⟨_, bO, World.ownsRow_nil _ _ _ _, trivial⟩, hB0, HRB.out⟩
    (fun x => { tmps := #[.string (strN (txtI z)), undef, .pointer (some ⟨w.heap.size, 0, none⟩), .string (strN (txtN z.natAbs)), .bool b, .pointer (some ⟨w.heap.size + 1, 0, none⟩), .int .u32 (x : Int), .tuple #[.string (strN (txtN z.natAbs)), .bool b], .string (strN (txtI z)), .tuple #[.string (strN (txtN z.natAbs)), .bool b], .string (strN (txtN z.natAbs)), .bool b, .string (strN (txtN z.natAbs)), .func (.func 124) #[] #[.pointer (some ⟨w.heap.size + 1 + 1, 0, none⟩)], .int .u32 (x : Int), undef, undef, undef, undef, undef, undef, undef, undef], defers := [] }) ?assign ?body ?done ?stop
  case assign =>
    intro l x W K hK
    simp only [wEnc]
    gi_wp2
    exact hK
  case body =>
    rintro l pre x W ⟨⟨v, hv, hrow, _⟩, hB, hX⟩ hlt
    have hpl : pre.length < 100001 := by have : (strN (txtN z.natAbs)).size = lenI z := rfl; omega
    have hc := hv.cell
    gi_wp2_with (gi_at_builtin; (refine wpListIn_append_own _ rfl _ _ 100 rfl w.heap.size 131 i0 (.int .u32 0) 1 4 Tryz.underlying100 HI.out.1 HI.out.2.1 HI.out.2.2.1 HI.out.2.2.2 rfl (by decide) _ _ _ rfl (hrow.alloc _) ⟨W.heap.size, 0, none⟩ 1 1 [.int .u32 (x : Int)] rfl rfl (cell_one_new _ _ _) (by simp [Value.oneCell']) (by unfold maxLen; omega) (by omega) (by have := hB.size; simp; omega) ?_); intro v' w1 hown' hgrow _; obtain ⟨g', cap', rfl⟩ := ownsRow_succ hown'; obtain ⟨hv1, hv2, hr2, hk2, hb2⟩ := hv.appended (by decide) hrow hB.size (Nat.le_succ _) hown' hgrow; have hc1 := hv1.cell; have hf1 := hv1.frozen)
    exact ⟨hk2.from _, KpS.appended (by decide) (by decide) hrow hv hgrow hb2, ⟨_, hv2, by simpa [u32V] using hr2, trivial⟩, hB.trans hb2, (KpS.appended (T := 102) (by decide) (by decide) hrow hv hgrow hb2).2 _ _ hX⟩
  case done =>
    rintro D ys W hD ⟨k, hk, rfl⟩ ⟨⟨v, hv, hrow, _⟩, hB, hX⟩ hK
    obtain ⟨l, hl⟩ : ∃ l, l = grps (digT (strN (txtN z.natAbs)).data.toList) k := ⟨_, rfl⟩
    rw [← hl] at hrow
    have hdd : ∀ d ∈ digT (strN (txtN z.natAbs)).data.toList, d < 10 := digT_lt fun c hc => txtN_dgt z.natAbs c (by simpa [strN] using hc)
    have hwl : Wrd l := by
      intro d hd
      rw [hl] at hd
      obtain ⟨j, _, rfl⟩ := List.mem_map.1 hd
      exact grpF_lt hdd j
    have hvl : valB BW l = z.natAbs := by
      rw [hl]
      have h5 := grps_all (d := digT (strN (txtN z.natAbs)).data.toList) (k := k) (by rw [digT_len]; simpa [strN, Lib.size_eq] using hk)
      refine h5.trans ?_
      have h6 := valT_txtN z.natAbs
      simpa [valT, strN] using h6
    obtain ⟨oa, c, hv2, hcl, hcm, hsl⟩ := own_words (OwnS.words hrow fun x hx => by have := hwl x hx; omega)
    subst hv2
    have HNV := hide (NatV.cut hsl hwl hcl hcm hvl)
    have hf3 : Go.Fence.wide.fn 111 := trivial
    have hf4 : Go.Fence.wide.fn 90 := trivial
    have HT1 := hide ((callsIn_wide (n := n0 - 1)).2 (trimmed_any l oa c All W hsl hcl hcm))
    have HT2 := hide ((callsIn_wide (n := n0 - 1)).2 (signed_any b HNV.out))
    have hc := hv.cell
    have HK := hide hK
    have HBW := hide hB
    have HXW := hide hX
    have hDn : w.heap.size < D := by omega
    generalize (cutB l).length = cl at *
    generalize hll : l.length = len at *
    obtain ⟨P, hP⟩ : ∃ P, P = decide (0 < z.natAbs) := ⟨_, rfl⟩
    rw [← hP] at HT2
    have HPP := hide hP
    clear hl hdd hwl hvl hsl hrow hK hB hX hll hP hk
    gi_wp2_with (first
      | (gi_at_call 111; (with_reducible refine HT1.out.mono ?_); rintro e w5 ⟨rfl, rfl⟩)
      | (gi_at_call 90; (with_reducible refine HT2.out.mono ?_); rintro e w6 ⟨rfl, hb6⟩; have HB6 := hide hb6; have HX6 := hide (HXW.out.below hb6); have y0 := HX6.out.cell 0; have y1 := HX6.out.cell 1; simp only [List.getElem?_cons_zero, List.getElem?_cons_succ] at y0 y1; have f0 := HX6.out.free 0; have f1 := HX6.out.free 1; clear hb6))
    have hK6 : w6.heap[D]? = _ := (HB6.out.block D (Array.getElem?_eq_some_iff.1 HK.out).1).trans HK.out
    have hK7 : ((w6.setCell ⟨w.heap.size, 0, none⟩ (.bool (b && P))).setCell ⟨w.heap.size, 1, none⟩ (.slice oa cl c)).heap[D]? = _ := ((Below.heap_setCell _ ⟨w.heap.size, 1, none⟩ _ D (Nat.ne_of_gt hDn)).trans (Below.heap_setCell _ ⟨w.heap.size, 0, none⟩ _ D (Nat.ne_of_gt hDn))).trans hK6
    have hX7 := (HX6.out.put 0 (.bool (b && P))).put 1 (.slice oa cl c)
    have hN7 := (HNV.out.below HB6.out).other (W' := (w6.setCell ⟨w.heap.size, 0, none⟩ (.bool (b && P))).setCell ⟨w.heap.size, 1, none⟩ (.slice oa cl c)) HX6.out fun k hk => (Below.heap_setCell _ ⟨w.heap.size, 1, none⟩ _ k hk).trans (Below.heap_setCell _ ⟨w.heap.size, 0, none⟩ _ k hk)
    have hB7 : Below w.heap.size w ((w6.setCell ⟨w.heap.size, 0, none⟩ (.bool (b && P))).setCell ⟨w.heap.size, 1, none⟩ (.slice oa cl c)) := ((below_then HBW.out HB6.out).setCell (Nat.le_refl _) _).setCell (Nat.le_refl _) _
    generalize (w6.setCell ⟨w.heap.size, 0, none⟩ (.bool (b && P))).setCell ⟨w.heap.size, 1, none⟩ (.slice oa cl c) = W7 at *
    refine ⟨by simp, .inl ⟨_, _, rfl, run_takeDeferred hK7, ?_⟩⟩
    have hX8 : Box (W7.putObj D (.deferred none)) w.heap.size _ _ := hX7.keep (World.putObj_heap_other (Nat.ne_of_lt hDn))
    have z0 := hX8.cell 0
    have z1 := hX8.cell 1
    simp only [List.set_cons_zero, List.set_cons_succ, List.getElem?_cons_zero, List.getElem?_cons_succ] at z0 z1
    have hB8 : Below w.heap.size w (W7.putObj D (.deferred none)) := hB7.trans (belowK_b (w := w) (Nat.le_refl _) W7 D _ _ (Nat.le_of_lt hDn) hK7 rfl rfl)
    refine ⟨.agg #[.bool (b && P), .slice oa cl c], by simp [results, Tryz.results82, go_sem, z0, z1], _, rfl, ?_, hB8⟩
    have h5 := NumV.of b (hN7.putObj hK7 rfl (.deferred none))
    rw [← HPP.out, HBZ.out] at h5
    have h6 : sgnZ (decide (z < 0)) z.natAbs = z := by
      unfold sgnZ
      by_cases h : z < 0 <;> simp [h] <;> omega
    rw [h6, ← HBZ.out] at h5
    exact h5
  case stop =>
    rintro D c pre W _ _ h _
    exact h.elim
theorem read_any {z : Int} {w : World} (hz : lenI z ≤ 100000) : Calls Tryz.prog 82 #[.string (strN (txtI z))] w (NumPost w z) := (callsIn_wide (n := 4)).1 (read_in 4 (by omega) z w hz)
end Go.Proofs.YthpknfoahimopaaGreatDoor

set_option linter.unusedVariables false
set_option linter.unusedSimpArgs false
set_option linter.unnecessarySimpa false
namespace Go.Proofs.YthpknfoahimopaaGreatDoor
open Go.RowKit

theorem sum_same {x y : Int} (h : decide (x < 0) = decide (y < 0)) : sgnZ (decide (x < 0)) (x.natAbs + y.natAbs) = x + y := by
  unfold sgnZ
  rcases Int.lt_or_le x 0 with hx | hx <;> rcases Int.lt_or_le y 0 with hy | hy
  · simp [hx]; omega
  · have : ¬ y < 0 := by omega
    simp [hx, this] at h
  · have : ¬ x < 0 := by omega
    simp [hy, this] at h
  · have : ¬ x < 0 := by omega
    simp [this]; omega
theorem sum_left {x y : Int} (h : decide (x < 0) ≠ decide (y < 0)) (hle : y.natAbs ≤ x.natAbs) : sgnZ (decide (x < 0)) (x.natAbs - y.natAbs) = x + y := by
  unfold sgnZ
  rcases Int.lt_or_le x 0 with hx | hx <;> rcases Int.lt_or_le y 0 with hy | hy
  · simp [hx, hy] at h
  · simp [hx]; omega
  · have : ¬ x < 0 := by omega
    simp [this]; omega
  · have h1 : ¬ x < 0 := by omega
    have h2 : ¬ y < 0 := by omega
    simp [h1, h2] at h
theorem sum_right {x y : Int} (h : decide (x < 0) ≠ decide (y < 0)) (hle : x.natAbs ≤ y.natAbs) : sgnZ (decide (y < 0)) (y.natAbs - x.natAbs) = x + y := by
  rw [Int.add_comm]
  exact sum_left (fun e => h e.symm) hle
set_option maxRecDepth 100000 in
set_option maxHeartbeats 4000000 in
theorem numsum_same {x y : Int} {v1 v2 : Value} {w : World} (h1 : NumV w v1 x) (h2 : NumV w v2 y) (hx : Few x.natAbs) (hy : Few y.natAbs) (hab : decide (x < 0) = decide (y < 0)) : Calls Tryz.prog 100 #[v1, v2] w (NumPost w (x + y)) := by
  obtain ⟨u, rfl, hu⟩ := h1
  obtain ⟨v, rfl, hv⟩ := h2
  obtain ⟨R, hR⟩ : ∃ R, R = x.natAbs + y.natAbs := ⟨_, rfl⟩
  have HC : Hid (∀ w', Below w.heap.size w w' → Calls Tryz.prog 119 #[u, v] w' (NatPost w' R)) := fun w' hb => by rw [hR]; exact nplus_any (hu.below hb) (hv.below hb) hx hy
  have HS : Hid (∀ (d : Bool) (r : Value) (w' : World), NatV w' r R → Calls Tryz.prog 90 #[.bool d, r] w' fun e w2 => e = .returned (.agg #[.bool (d && decide (0 < R)), r]) ∧ Below w'.heap.size w' w2) := fun d r w' hr => signed_any d hr
  obtain ⟨a, ha⟩ : ∃ a, a = decide (x < 0) := ⟨_, rfl⟩
  obtain ⟨b, hb⟩ : ∃ b, b = decide (y < 0) := ⟨_, rfl⟩
  obtain ⟨P, hP⟩ : ∃ P, P = decide (0 < R) := ⟨_, rfl⟩
  rw [← hP] at HS
  rw [← ha, ← hb] at hab ⊢
  have HSG : Hid (sgnZ a R = x + y) := by show _ = _; rw [hR, ha]; exact sum_same (by rw [← ha, ← hb]; exact hab)
  have HPP := hide hP
  obtain ⟨oa, ca, la, rfl, _, _⟩ := nat_len hu
  obtain ⟨ob, cb, lb, rfl, _, _⟩ := nat_len hv
  have tq : (a == b) = true := by simpa using hab
  clear ha hb hP hu hv hx hy hab hR 
  have HX := hide (Boxed2.start w a b (.slice oa la ca) (.slice ob lb cb))
  obtain ⟨W, hW⟩ : ∃ W, ((w.alloc (.cells #[.bool a, .slice oa la ca] 102)).alloc (.cells #[.bool b, .slice ob lb cb] 102)).alloc (.cells #[.bool false, .slice none 0 0] 102) = W := ⟨_, rfl⟩
  have HX : Hid (Boxed2 w a b (.slice oa la ca) (.slice ob lb cb) W) := by show Boxed2 _ _ _ _ _ _; rw [← hW]; exact HX.out
  have HW := hide hW
  clear hW
  go_enter Tryz.func100, Tryz.ntmps100
  go_upto_region 1 with fail
  rw [HW.out]
  obtain ⟨y0, y1, y2, y3⟩ := HX.out.cells
  go_wp2_with fail
  have yy := HX.out.cells
  clear y0 y1 y2 y3
  go_region_held3 (fun w' => w'.cell? ⟨w.heap.size, 0, none⟩ = some (.bool a) ∧ w'.cell? ⟨w.heap.size, 1, none⟩ = some (.slice oa la ca) ∧ w'.cell? ⟨w.heap.size + 1, 0, none⟩ = some (.bool b) ∧ w'.cell? ⟨w.heap.size + 1, 1, none⟩ = some (.slice ob lb cb)) (first | with_reducible exact yy | with_reducible exact HX.out.draw.cells | with_reducible exact HX6.out.kept _ _) (first
    | (go_at_call 119; (with_reducible refine (HC.out _ HX.out.draw.low).mono ?_); rintro ec w5 ⟨r, rfl, hr, hb5⟩; have HX5 := hide (HX.out.draw.below hb5); have yy := HX5.out.cells; obtain ⟨oc, cc, lc, hrv, _, _⟩ := nat_len hr; subst hrv; have HR5 := hide hr; clear hr hb5)
    | (go_at_call 90; (with_reducible refine (HS.out _ _ _ HR5.out).mono ?_); rintro ec w6 ⟨rfl, hb6⟩; have HX6 := hide (HX5.out.below hb6); have HR6 := hide (HR5.out.below hb6); have yy := HX6.out.cells; obtain ⟨r0, r1, f0, f1⟩ := HX6.out.res; clear hb6))
  all_goals
    obtain ⟨z0, z1, hb7, hb8⟩ := HX6.out.put (a && P) (.slice oc lc cc)
    have HB7 := hide hb7
    have HB8 := hide hb8
    clear hb7 hb8
    go_wp2_with fail
    refine bodyPost_ret (v := .agg #[.bool (a && P), .slice oc lc cc]) (by simp [results, Tryz.results100, go_sem, z0, z1]) rfl ⟨_, rfl, ?_, HB7.out⟩
    have h5 := NumV.of a (HR6.out.other HX6.out.b2 HB8.out)
    rw [← HPP.out, HSG.out] at h5
    exact h5
set_option maxRecDepth 100000 in
set_option maxHeartbeats 4000000 in
theorem numsum_left {x y : Int} {v1 v2 : Value} {w : World} (h1 : NumV w v1 x) (h2 : NumV w v2 y) (hx : Few x.natAbs) (hy : Few y.natAbs) (hab : decide (x < 0) ≠ decide (y < 0)) (hle : y.natAbs ≤ x.natAbs) : Calls Tryz.prog 100 #[v1, v2] w (NumPost w (x + y)) := by
  obtain ⟨u, rfl, hu⟩ := h1
  obtain ⟨v, rfl, hv⟩ := h2
  obtain ⟨R, hR⟩ : ∃ R, R = x.natAbs - y.natAbs := ⟨_, rfl⟩
  have HC : Hid (∀ w', Below w.heap.size w w' → Calls Tryz.prog 120 #[u, v] w' (NatPost w' R)) := fun w' hb => by rw [hR]; exact nless_any (hu.below hb) (hv.below hb) hx hy hle
  have HCM : Hid (∀ w', Below w.heap.size w w' → Calls Tryz.prog 122 #[u, v] w' (CmpPost w' x.natAbs y.natAbs)) := fun w' hb => ncmp_nat (hu.below hb) (hv.below hb) hx hy
  have HLE := hide hle
  have HS : Hid (∀ (d : Bool) (r : Value) (w' : World), NatV w' r R → Calls Tryz.prog 90 #[.bool d, r] w' fun e w2 => e = .returned (.agg #[.bool (d && decide (0 < R)), r]) ∧ Below w'.heap.size w' w2) := fun d r w' hr => signed_any d hr
  obtain ⟨a, ha⟩ : ∃ a, a = decide (x < 0) := ⟨_, rfl⟩
  obtain ⟨b, hb⟩ : ∃ b, b = decide (y < 0) := ⟨_, rfl⟩
  obtain ⟨P, hP⟩ : ∃ P, P = decide (0 < R) := ⟨_, rfl⟩
  rw [← hP] at HS
  rw [← ha, ← hb] at hab ⊢
  have HSG : Hid (sgnZ a R = x + y) := by show _ = _; rw [hR, ha]; exact sum_left (by rw [← ha, ← hb]; exact hab) hle
  have HPP := hide hP
  obtain ⟨oa, ca, la, rfl, _, _⟩ := nat_len hu
  obtain ⟨ob, cb, lb, rfl, _, _⟩ := nat_len hv
  have tq : (a == b) = false := by simpa using hab
  clear ha hb hP hu hv hx hy hab hR hle
  have HX := hide (Boxed2.start w a b (.slice oa la ca) (.slice ob lb cb))
  obtain ⟨W, hW⟩ : ∃ W, ((w.alloc (.cells #[.bool a, .slice oa la ca] 102)).alloc (.cells #[.bool b, .slice ob lb cb] 102)).alloc (.cells #[.bool false, .slice none 0 0] 102) = W := ⟨_, rfl⟩
  have HX : Hid (Boxed2 w a b (.slice oa la ca) (.slice ob lb cb) W) := by show Boxed2 _ _ _ _ _ _; rw [← hW]; exact HX.out
  have HW := hide hW
  clear hW
  go_enter Tryz.func100, Tryz.ntmps100
  go_upto_region 1 with fail
  rw [HW.out]
  obtain ⟨y0, y1, y2, y3⟩ := HX.out.cells
  have HX0 := HX
  go_upto_region 4 with (go_at_call 122; (with_reducible refine (HCM.out _ HX0.out.low).mono ?_); rintro ec w9 ⟨r9, rfl, h5, h6, h7⟩; have hr : 0 ≤ r9 := Int.not_lt.1 (fun h => absurd (h5.1 h) (Nat.not_lt.2 HLE.out)); have HX := hide (HX0.out.below h7); obtain ⟨y0, y1, y2, y3⟩ := HX.out.cells; clear h5 h6 h7)
  have yy := HX.out.cells
  clear y0 y1 y2 y3
  go_region_held3 (fun w' => w'.cell? ⟨w.heap.size, 0, none⟩ = some (.bool a) ∧ w'.cell? ⟨w.heap.size, 1, none⟩ = some (.slice oa la ca) ∧ w'.cell? ⟨w.heap.size + 1, 0, none⟩ = some (.bool b) ∧ w'.cell? ⟨w.heap.size + 1, 1, none⟩ = some (.slice ob lb cb)) (first | with_reducible exact yy | with_reducible exact HX.out.draw.cells | with_reducible exact HX6.out.kept _ _) (first
    | (go_at_call 120; (with_reducible refine (HC.out _ HX.out.draw.low).mono ?_); rintro ec w5 ⟨r, rfl, hr, hb5⟩; have HX5 := hide (HX.out.draw.below hb5); have yy := HX5.out.cells; obtain ⟨oc, cc, lc, hrv, _, _⟩ := nat_len hr; subst hrv; have HR5 := hide hr; clear hr hb5)
    | (go_at_call 90; (with_reducible refine (HS.out _ _ _ HR5.out).mono ?_); rintro ec w6 ⟨rfl, hb6⟩; have HX6 := hide (HX5.out.below hb6); have HR6 := hide (HR5.out.below hb6); have yy := HX6.out.cells; obtain ⟨r0, r1, f0, f1⟩ := HX6.out.res; clear hb6))
  all_goals
    obtain ⟨z0, z1, hb7, hb8⟩ := HX6.out.put (a && P) (.slice oc lc cc)
    have HB7 := hide hb7
    have HB8 := hide hb8
    clear hb7 hb8
    go_wp2_with fail
    refine bodyPost_ret (v := .agg #[.bool (a && P), .slice oc lc cc]) (by simp [results, Tryz.results100, go_sem, z0, z1]) rfl ⟨_, rfl, ?_, HB7.out⟩
    have h5 := NumV.of a (HR6.out.other HX6.out.b2 HB8.out)
    rw [← HPP.out, HSG.out] at h5
    exact h5
set_option maxRecDepth 100000 in
set_option maxHeartbeats 4000000 in
theorem numsum_right {x y : Int} {v1 v2 : Value} {w : World} (h1 : NumV w v1 x) (h2 : NumV w v2 y) (hx : Few x.natAbs) (hy : Few y.natAbs) (hab : decide (x < 0) ≠ decide (y < 0)) (hle : x.natAbs < y.natAbs) : Calls Tryz.prog 100 #[v1, v2] w (NumPost w (x + y)) := by
  obtain ⟨u, rfl, hu⟩ := h1
  obtain ⟨v, rfl, hv⟩ := h2
  obtain ⟨R, hR⟩ : ∃ R, R = y.natAbs - x.natAbs := ⟨_, rfl⟩
  have HC : Hid (∀ w', Below w.heap.size w w' → Calls Tryz.prog 120 #[v, u] w' (NatPost w' R)) := fun w' hb => by rw [hR]; exact nless_any (hv.below hb) (hu.below hb) hy hx (Nat.le_of_lt hle)
  have HCM : Hid (∀ w', Below w.heap.size w w' → Calls Tryz.prog 122 #[u, v] w' (CmpPost w' x.natAbs y.natAbs)) := fun w' hb => ncmp_nat (hu.below hb) (hv.below hb) hx hy
  have HLE := hide hle
  have HS : Hid (∀ (d : Bool) (r : Value) (w' : World), NatV w' r R → Calls Tryz.prog 90 #[.bool d, r] w' fun e w2 => e = .returned (.agg #[.bool (d && decide (0 < R)), r]) ∧ Below w'.heap.size w' w2) := fun d r w' hr => signed_any d hr
  obtain ⟨a, ha⟩ : ∃ a, a = decide (x < 0) := ⟨_, rfl⟩
  obtain ⟨b, hb⟩ : ∃ b, b = decide (y < 0) := ⟨_, rfl⟩
  obtain ⟨P, hP⟩ : ∃ P, P = decide (0 < R) := ⟨_, rfl⟩
  rw [← hP] at HS
  rw [← ha, ← hb] at hab ⊢
  have HSG : Hid (sgnZ b R = x + y) := by show _ = _; rw [hR, hb]; exact sum_right (by rw [← ha, ← hb]; exact hab) (Nat.le_of_lt hle)
  have HPP := hide hP
  obtain ⟨oa, ca, la, rfl, _, _⟩ := nat_len hu
  obtain ⟨ob, cb, lb, rfl, _, _⟩ := nat_len hv
  have tq : (a == b) = false := by simpa using hab
  clear ha hb hP hu hv hx hy hab hR hle
  have HX := hide (Boxed2.start w a b (.slice oa la ca) (.slice ob lb cb))
  obtain ⟨W, hW⟩ : ∃ W, ((w.alloc (.cells #[.bool a, .slice oa la ca] 102)).alloc (.cells #[.bool b, .slice ob lb cb] 102)).alloc (.cells #[.bool false, .slice none 0 0] 102) = W := ⟨_, rfl⟩
  have HX : Hid (Boxed2 w a b (.slice oa la ca) (.slice ob lb cb) W) := by show Boxed2 _ _ _ _ _ _; rw [← hW]; exact HX.out
  have HW := hide hW
  clear hW
  go_enter Tryz.func100, Tryz.ntmps100
  go_upto_region 1 with fail
  rw [HW.out]
  obtain ⟨y0, y1, y2, y3⟩ := HX.out.cells
  have HX0 := HX
  go_upto_region 5 with (go_at_call 122; (with_reducible refine (HCM.out _ HX0.out.low).mono ?_); rintro ec w9 ⟨r9, rfl, h5, h6, h7⟩; have hr : r9 < 0 := h5.2 HLE.out; have HX := hide (HX0.out.below h7); obtain ⟨y0, y1, y2, y3⟩ := HX.out.cells; clear h5 h6 h7)
  have yy := HX.out.cells
  clear y0 y1 y2 y3
  go_region_held3 (fun w' => w'.cell? ⟨w.heap.size, 0, none⟩ = some (.bool a) ∧ w'.cell? ⟨w.heap.size, 1, none⟩ = some (.slice oa la ca) ∧ w'.cell? ⟨w.heap.size + 1, 0, none⟩ = some (.bool b) ∧ w'.cell? ⟨w.heap.size + 1, 1, none⟩ = some (.slice ob lb cb)) (first | with_reducible exact yy | with_reducible exact HX.out.draw.cells | with_reducible exact HX6.out.kept _ _) (first
    | (go_at_call 120; (with_reducible refine (HC.out _ HX.out.draw.low).mono ?_); rintro ec w5 ⟨r, rfl, hr, hb5⟩; have HX5 := hide (HX.out.draw.below hb5); have yy := HX5.out.cells; obtain ⟨oc, cc, lc, hrv, _, _⟩ := nat_len hr; subst hrv; have HR5 := hide hr; clear hr hb5)
    | (go_at_call 90; (with_reducible refine (HS.out _ _ _ HR5.out).mono ?_); rintro ec w6 ⟨rfl, hb6⟩; have HX6 := hide (HX5.out.below hb6); have HR6 := hide (HR5.out.below hb6); have yy := HX6.out.cells; obtain ⟨r0, r1, f0, f1⟩ := HX6.out.res; clear hb6))
  all_goals
    obtain ⟨z0, z1, hb7, hb8⟩ := HX6.out.put (b && P) (.slice oc lc cc)
    have HB7 := hide hb7
    have HB8 := hide hb8
    clear hb7 hb8
    go_wp2_with fail
    refine bodyPost_ret (v := .agg #[.bool (b && P), .slice oc lc cc]) (by simp [results, Tryz.results100, go_sem, z0, z1]) rfl ⟨_, rfl, ?_, HB7.out⟩
    have h5 := NumV.of b (HR6.out.other HX6.out.b2 HB8.out)
    rw [← HPP.out, HSG.out] at h5
    exact h5
theorem numsum_any {x y : Int} {v1 v2 : Value} {w : World} (h1 : NumV w v1 x) (h2 : NumV w v2 y) (hx : Few x.natAbs) (hy : Few y.natAbs) : Calls Tryz.prog 100 #[v1, v2] w (NumPost w (x + y)) := by
  by_cases hab : decide (x < 0) = decide (y < 0)
  · exact numsum_same h1 h2 hx hy hab
  · by_cases hle : y.natAbs ≤ x.natAbs
    · exact numsum_left h1 h2 hx hy hab hle
    · exact numsum_right h1 h2 hx hy hab (by omega)
end Go.Proofs.YthpknfoahimopaaGreatDoor

set_option linter.unusedVariables false
set_option linter.unusedSimpArgs false
namespace Go.Proofs.YthpknfoahimopaaGreatDoor

/-- The quotient rounded down, and what is left: it has the divisor's sign. -/
theorem quoI_uniq {x y q r q' r' : Int} (h : x = y * q + r) (h' : x = y * q' + r') (hr : (0 ≤ r ∧ r < y) ∨ (y < r ∧ r ≤ 0)) (hr' : (0 ≤ r' ∧ r' < y) ∨ (y < r' ∧ r' ≤ 0)) : q = q' ∧ r = r' := by
  have h1 : y * (q - q') = r' - r := by rw [Int.mul_sub]; omega
  have h2 : q = q' := by
    rcases Int.lt_trichotomy q q' with e | e | e
    · exfalso
      rcases hr with hr | hr
      · have : y * (q - q') ≤ y * (-1) := Int.mul_le_mul_of_nonneg_left (by omega) (by omega)
        omega
      · have : y * (-1) ≤ y * (q - q') := Int.mul_le_mul_of_nonpos_left (by omega) (by omega)
        omega
    · exact e
    · exfalso
      rcases hr with hr | hr
      · have : y * 1 ≤ y * (q - q') := Int.mul_le_mul_of_nonneg_left (by omega) (by omega)
        omega
      · have : y * (q - q') ≤ y * 1 := Int.mul_le_mul_of_nonpos_left (by omega) (by omega)
        omega
  exact ⟨h2, by subst h2; omega⟩
theorem fdiv_left (x : Int) {y : Int} (hy : y ≠ 0) : x = y * x.fdiv y + x.fmod y ∧ ((0 ≤ x.fmod y ∧ x.fmod y < y) ∨ (y < x.fmod y ∧ x.fmod y ≤ 0)) := by
  refine ⟨(Int.mul_fdiv_add_fmod x y).symm, ?_⟩
  rcases Int.lt_or_gt_of_ne hy with h | h
  · right
    have h1 := Int.fmod_nonneg_of_pos (-x) (show 0 < -y by omega)
    have h2 := Int.fmod_lt_of_pos (-x) (show 0 < -y by omega)
    rw [Int.neg_fmod_neg] at h1 h2
    omega
  · left
    exact ⟨Int.fmod_nonneg_of_pos x h, Int.fmod_lt_of_pos x h⟩
theorem fdiv_of {x y q r : Int} (h : x = y * q + r) (hr : (0 ≤ r ∧ r < y) ∨ (y < r ∧ r ≤ 0)) : q = x.fdiv y ∧ r = x.fmod y := by
  have hy : y ≠ 0 := by omega
  obtain ⟨h1, h2⟩ := fdiv_left x hy
  exact quoI_uniq h h1 hr h2
/-- The quotient by signs and magnitudes. -/
theorem down_same {a b : Nat} (hb : 0 < b) : ((a / b : Nat) : Int) = (a : Int).fdiv b ∧ ((a % b : Nat) : Int) = (a : Int).fmod b := by
  have h := Nat.div_add_mod a b
  have h2 := Nat.mod_lt a hb
  refine fdiv_of (by exact_mod_cast h.symm) (.inl ⟨by omega, by omega⟩)
theorem down_neg {a b : Nat} (hb : 0 < b) : ((a / b : Nat) : Int) = (-(a : Int)).fdiv (-(b : Int)) ∧ -((a % b : Nat) : Int) = (-(a : Int)).fmod (-(b : Int)) := by
  have h : ((b * (a / b) + a % b : Nat) : Int) = a := by rw [Nat.div_add_mod]
  have h2 := Nat.mod_lt a hb
  push_cast at h
  refine fdiv_of (by rw [Int.neg_mul]; push_cast; omega) (.inr ⟨by omega, by omega⟩)
theorem down_exact {a b : Nat} (hb : 0 < b) (h0 : a % b = 0) : -((a / b : Nat) : Int) = (-(a : Int)).fdiv b ∧ (0 : Int) = (-(a : Int)).fmod b ∧ -((a / b : Nat) : Int) = (a : Int).fdiv (-(b : Int)) ∧ (0 : Int) = (a : Int).fmod (-(b : Int)) := by
  have h : ((b * (a / b) + a % b : Nat) : Int) = a := by rw [Nat.div_add_mod]
  rw [h0] at h
  push_cast at h
  have h3 := fdiv_of (x := -(a : Int)) (y := b) (q := -((a / b : Nat) : Int)) (r := 0) (by rw [Int.mul_neg]; push_cast; omega) (.inl ⟨by omega, by omega⟩)
  have h4 := fdiv_of (x := (a : Int)) (y := -(b : Int)) (q := -((a / b : Nat) : Int)) (r := 0) (by rw [Int.mul_neg, Int.neg_mul]; push_cast; omega) (.inr ⟨by omega, by omega⟩)
  exact ⟨h3.1, h3.2, h4.1, h4.2⟩
theorem down_mixed {a b : Nat} (hb : 0 < b) (h0 : a % b ≠ 0) : -((a / b + 1 : Nat) : Int) = (-(a : Int)).fdiv b ∧ ((b - a % b : Nat) : Int) = (-(a : Int)).fmod b ∧ -((a / b + 1 : Nat) : Int) = (a : Int).fdiv (-(b : Int)) ∧ -((b - a % b : Nat) : Int) = (a : Int).fmod (-(b : Int)) := by
  have h : ((b * (a / b) + a % b : Nat) : Int) = a := by rw [Nat.div_add_mod]
  have h2 := Nat.mod_lt a hb
  obtain ⟨q, hq⟩ : ∃ q, q = a / b := ⟨_, rfl⟩
  obtain ⟨r, hr⟩ : ∃ r, r = a % b := ⟨_, rfl⟩
  rw [← hr] at h h0 h2 ⊢
  rw [← hq] at h ⊢
  push_cast at h
  have e : ((b - r : Nat) : Int) = b - r := by omega
  have e2 : (b : Int) * ((q : Int) + 1) = b * q + b := by rw [Int.mul_add, Int.mul_one]
  rw [e]
  have h3 := fdiv_of (x := -(a : Int)) (y := b) (q := -((q + 1 : Nat) : Int)) (r := b - r) (by rw [Int.mul_neg]; push_cast; omega) (.inl ⟨by omega, by omega⟩)
  have h4 := fdiv_of (x := (a : Int)) (y := -(b : Int)) (q := -((q + 1 : Nat) : Int)) (r := -((b : Int) - r)) (by rw [Int.mul_neg, Int.neg_mul]; push_cast; omega) (.inr ⟨by omega, by omega⟩)
  exact ⟨h3.1, h3.2, h4.1, h4.2⟩
end Go.Proofs.YthpknfoahimopaaGreatDoor

set_option linter.unusedVariables false
set_option linter.unusedSimpArgs false
namespace Go.Proofs.YthpknfoahimopaaGreatDoor

def sgZ (b : Bool) (n : Nat) : Int := if b then -(n : Int) else n
theorem down1 {x y : Int} (hy : y ≠ 0) (h : decide (x < 0) = decide (y < 0) ∨ x.natAbs % y.natAbs = 0) :
    sgZ (decide (x < 0) != decide (y < 0)) (x.natAbs / y.natAbs) = x.fdiv y ∧ sgZ (decide (y < 0)) (x.natAbs % y.natAbs) = x.fmod y := by
  have hb : 0 < y.natAbs := by omega
  obtain ⟨a, ha⟩ : ∃ a, a = x.natAbs := ⟨_, rfl⟩
  obtain ⟨b, hbb⟩ : ∃ b, b = y.natAbs := ⟨_, rfl⟩
  rw [← ha, ← hbb] at h ⊢
  rw [← hbb] at hb
  rcases Int.lt_or_le x 0 with hx | hx <;> rcases Int.lt_or_le y 0 with hy2 | hy2
  · have e1 : x = -(a : Int) := by omega
    have e2 : y = -(b : Int) := by omega
    have e3 : (decide (x < 0) != decide (y < 0)) = false := by simp [hx, hy2]
    have e4 : decide (y < 0) = true := by simp [hy2]
    have := down_neg (a := a) hb
    rw [e3, e4, sgZ, sgZ, if_neg (by simp), if_pos rfl, e1, e2]
    exact this
  · have hy3 : ¬ y < 0 := by omega
    have e1 : x = -(a : Int) := by omega
    have e2 : y = (b : Int) := by omega
    have e3 : (decide (x < 0) != decide (y < 0)) = true := by simp [hx, hy3]
    have e4 : decide (y < 0) = false := by simp [hy3]
    have h0 : a % b = 0 := by
      rcases h with h | h
      · simp [hx, hy3] at h
      · exact h
    have := down_exact (a := a) hb h0
    rw [e3, e4, sgZ, sgZ, if_pos rfl, if_neg (by simp), h0, e1, e2]
    exact ⟨this.1, this.2.1⟩
  · have hx3 : ¬ x < 0 := by omega
    have e1 : x = (a : Int) := by omega
    have e2 : y = -(b : Int) := by omega
    have e3 : (decide (x < 0) != decide (y < 0)) = true := by simp [hx3, hy2]
    have e4 : decide (y < 0) = true := by simp [hy2]
    have h0 : a % b = 0 := by
      rcases h with h | h
      · simp [hx3, hy2] at h
      · exact h
    have := down_exact (a := a) hb h0
    rw [e3, e4, sgZ, sgZ, if_pos rfl, if_pos rfl, h0, e1, e2]
    exact ⟨this.2.2.1, by simpa using this.2.2.2⟩
  · have hx3 : ¬ x < 0 := by omega
    have hy3 : ¬ y < 0 := by omega
    have e1 : x = (a : Int) := by omega
    have e2 : y = (b : Int) := by omega
    have e3 : (decide (x < 0) != decide (y < 0)) = false := by simp [hx3, hy3]
    have e4 : decide (y < 0) = false := by simp [hy3]
    have := down_same (a := a) hb
    rw [e3, e4, sgZ, sgZ, if_neg (by simp), if_neg (by simp), e1, e2]
    exact this
theorem down2 {x y : Int} (hy : y ≠ 0) (h : decide (x < 0) ≠ decide (y < 0)) (h0 : x.natAbs % y.natAbs ≠ 0) :
    sgZ true (x.natAbs / y.natAbs + 1) = x.fdiv y ∧ sgZ (decide (y < 0)) (y.natAbs - x.natAbs % y.natAbs) = x.fmod y := by
  have hb : 0 < y.natAbs := by omega
  obtain ⟨a, ha⟩ : ∃ a, a = x.natAbs := ⟨_, rfl⟩
  obtain ⟨b, hbb⟩ : ∃ b, b = y.natAbs := ⟨_, rfl⟩
  rw [← ha, ← hbb] at h0 ⊢
  rw [← hbb] at hb
  have hm := down_mixed (a := a) hb h0
  rcases Int.lt_or_le x 0 with hx | hx <;> rcases Int.lt_or_le y 0 with hy2 | hy2
  · simp [hx, hy2] at h
  · have hy3 : ¬ y < 0 := by omega
    have e1 : x = -(a : Int) := by omega
    have e2 : y = (b : Int) := by omega
    have e4 : decide (y < 0) = false := by simp [hy3]
    rw [e4, sgZ, sgZ, if_pos rfl, if_neg (by simp), e1, e2]
    exact ⟨hm.1, hm.2.1⟩
  · have e1 : x = (a : Int) := by omega
    have e2 : y = -(b : Int) := by omega
    have e4 : decide (y < 0) = true := by simp [hy2]
    rw [e4, sgZ, sgZ, if_pos rfl, if_pos rfl, e1, e2]
    exact ⟨hm.2.2.1, hm.2.2.2⟩
  · have hx3 : ¬ x < 0 := by omega
    have hy3 : ¬ y < 0 := by omega
    simp [hx3, hy3] at h
end Go.Proofs.YthpknfoahimopaaGreatDoor

set_option linter.unusedVariables false
set_option linter.unusedSimpArgs false
set_option linter.unnecessarySimpa false
namespace Go.Proofs.YthpknfoahimopaaGreatDoor
open Go.RowKit

structure Boxed4 (w : World) (a b : Bool) (u v : Value) (W : World) : Prop where
  b0 : Box W w.heap.size [.bool a, u] 102
  b1 : Box W (w.heap.size + 1) [.bool b, v] 102
  b2 : Box W (w.heap.size + 1 + 1) [.bool false, .slice none 0 0] 102
  b3 : Box W (w.heap.size + 1 + 1 + 1) [.bool false, .slice none 0 0] 102
  low : Below w.heap.size w W
theorem Boxed4.start (w : World) (a b : Bool) (u v : Value) : Boxed4 w a b u v ((((w.alloc (.cells #[.bool a, u] 102)).alloc (.cells #[.bool b, v] 102)).alloc (.cells #[.bool false, .slice none 0 0] 102)).alloc (.cells #[.bool false, .slice none 0 0] 102)) := by
  have h := Boxed2.start w a b u v
  have h3 := Box.new (((w.alloc (.cells #[.bool a, u] 102)).alloc (.cells #[.bool b, v] 102)).alloc (.cells #[.bool false, .slice none 0 0] 102)) [.bool false, .slice none 0 0] 102
  rw [World.size_alloc, World.size_alloc, World.size_alloc] at h3
  exact ⟨h.b0.next _, h.b1.next _, h.b2.next _, h3, h.low.alloc h.low.size _⟩
theorem Boxed4.below {w W W' : World} {a b : Bool} {u v : Value} (h : Boxed4 w a b u v W) (hb : Below W.heap.size W W') : Boxed4 w a b u v W' := ⟨h.b0.below hb, h.b1.below hb, h.b2.below hb, h.b3.below hb, below_then h.low hb⟩
theorem Boxed4.cells {w W : World} {a b : Bool} {u v : Value} (h : Boxed4 w a b u v W) : W.cell? ⟨w.heap.size, 0, none⟩ = some (.bool a) ∧ W.cell? ⟨w.heap.size, 1, none⟩ = some u ∧ W.cell? ⟨w.heap.size + 1, 0, none⟩ = some (.bool b) ∧ W.cell? ⟨w.heap.size + 1, 1, none⟩ = some v := by
  refine ⟨?_, ?_, ?_, ?_⟩
  · simpa using h.b0.cell 0
  · simpa using h.b0.cell 1
  · simpa using h.b1.cell 0
  · simpa using h.b1.cell 1
/-- What the stores of the results need. -/
def RCell (W : World) (B : Nat) : Prop := W.cell? ⟨B, 0, none⟩ = some (.bool false) ∧ W.cell? ⟨B, 1, none⟩ = some (.slice none 0 0) ∧ W.frozen? ⟨B, 0, none⟩ = false ∧ W.frozen? ⟨B, 1, none⟩ = false
theorem rcell_of {W : World} {B : Nat} (h : Box W B [.bool false, .slice none 0 0] 102) : RCell W B := ⟨by simpa using h.cell 0, by simpa using h.cell 1, h.free 0, h.free 1⟩
/-- The world behind the store of a number into block B. -/
abbrev put2 (W : World) (B : Nat) (d : Bool) (r : Value) : World := (W.setCell ⟨B, 0, none⟩ (.bool d)).setCell ⟨B, 1, none⟩ r
theorem put2_box {W : World} {B : Nat} {d0 d : Bool} {r0 r : Value} (h : Box W B [.bool d0, r0] 102) : Box (put2 W B d r) B [.bool d, r] 102 := (h.put 0 (.bool d)).put 1 r
theorem put2_far {W : World} {B C : Nat} {cs : List Value} {t : TypeId} {d : Bool} {r : Value} (h : Box W C cs t) (hne : C ≠ B) : Box (put2 W B d r) C cs t := (h.other hne _).other hne _
theorem put2_heap (W : World) (B : Nat) (d : Bool) (r : Value) : ∀ k, k ≠ B → (put2 W B d r).heap[k]? = W.heap[k]? := fun k hk => (Below.heap_setCell _ ⟨B, 1, none⟩ r k hk).trans (Below.heap_setCell W ⟨B, 0, none⟩ (.bool d) k hk)
theorem put2_below {n B : Nat} {w W : World} (h : Below n w W) (hB : n ≤ B) (d : Bool) (r : Value) : Below n w (put2 W B d r) := (h.setCell hB _).setCell hB _
def DownPost (w : World) (q r : Int) (e : Ending) (w' : World) : Prop := ∃ v u, e = .returned (.tuple #[v, u]) ∧ NumV w' v q ∧ NumV w' u r ∧ Below w.heap.size w w'
theorem Boxed4.keep {w W W' : World} {a b : Bool} {u v : Value} (h : Boxed4 w a b u v W) (hk : ∀ k, k ≠ w.heap.size + 1 + 1 → k ≠ w.heap.size + 1 + 1 + 1 → W'.heap[k]? = W.heap[k]?) : W'.cell? ⟨w.heap.size, 0, none⟩ = some (.bool a) ∧ W'.cell? ⟨w.heap.size, 1, none⟩ = some u ∧ W'.cell? ⟨w.heap.size + 1, 0, none⟩ = some (.bool b) ∧ W'.cell? ⟨w.heap.size + 1, 1, none⟩ = some v := by
  have e0 := hk w.heap.size (by omega) (by omega)
  have e1 := hk (w.heap.size + 1) (by omega) (by omega)
  obtain ⟨c0, c1, c2, c3⟩ := h.cells
  exact ⟨(World.cell?_of_block e0).trans c0, (World.cell?_of_block e0).trans c1, (World.cell?_of_block e1).trans c2, (World.cell?_of_block e1).trans c3⟩
section
variable {w W : World} {a b : Bool} {u v : Value}
theorem Boxed4.kept1 (h : Boxed4 w a b u v W) (d : Bool) (r : Value) : (put2 W (w.heap.size + 1 + 1) d r).cell? ⟨w.heap.size, 0, none⟩ = some (.bool a) ∧ (put2 W (w.heap.size + 1 + 1) d r).cell? ⟨w.heap.size, 1, none⟩ = some u ∧ (put2 W (w.heap.size + 1 + 1) d r).cell? ⟨w.heap.size + 1, 0, none⟩ = some (.bool b) ∧ (put2 W (w.heap.size + 1 + 1) d r).cell? ⟨w.heap.size + 1, 1, none⟩ = some v := h.keep fun k h1 _ => put2_heap _ _ _ _ k h1
theorem Boxed4.kept2 (h : Boxed4 w a b u v W) (d : Bool) (r : Value) : (put2 W (w.heap.size + 1 + 1 + 1) d r).cell? ⟨w.heap.size, 0, none⟩ = some (.bool a) ∧ (put2 W (w.heap.size + 1 + 1 + 1) d r).cell? ⟨w.heap.size, 1, none⟩ = some u ∧ (put2 W (w.heap.size + 1 + 1 + 1) d r).cell? ⟨w.heap.size + 1, 0, none⟩ = some (.bool b) ∧ (put2 W (w.heap.size + 1 + 1 + 1) d r).cell? ⟨w.heap.size + 1, 1, none⟩ = some v := h.keep fun k _ h1 => put2_heap _ _ _ _ k h1
theorem Boxed4.kept3 (h : Boxed4 w a b u v W) (d d' : Bool) (r r' : Value) : (put2 (put2 W (w.heap.size + 1 + 1) d r) (w.heap.size + 1 + 1 + 1) d' r').cell? ⟨w.heap.size, 0, none⟩ = some (.bool a) ∧ (put2 (put2 W (w.heap.size + 1 + 1) d r) (w.heap.size + 1 + 1 + 1) d' r').cell? ⟨w.heap.size, 1, none⟩ = some u ∧ (put2 (put2 W (w.heap.size + 1 + 1) d r) (w.heap.size + 1 + 1 + 1) d' r').cell? ⟨w.heap.size + 1, 0, none⟩ = some (.bool b) ∧ (put2 (put2 W (w.heap.size + 1 + 1) d r) (w.heap.size + 1 + 1 + 1) d' r').cell? ⟨w.heap.size + 1, 1, none⟩ = some v := h.keep fun k h1 h2 => (put2_heap _ _ _ _ k h2).trans (put2_heap _ _ _ _ k h1)
theorem Boxed4.kept4 (h : Boxed4 w a b u v W) (d d' : Bool) (r r' : Value) : (put2 (put2 W (w.heap.size + 1 + 1 + 1) d r) (w.heap.size + 1 + 1) d' r').cell? ⟨w.heap.size, 0, none⟩ = some (.bool a) ∧ (put2 (put2 W (w.heap.size + 1 + 1 + 1) d r) (w.heap.size + 1 + 1) d' r').cell? ⟨w.heap.size, 1, none⟩ = some u ∧ (put2 (put2 W (w.heap.size + 1 + 1 + 1) d r) (w.heap.size + 1 + 1) d' r').cell? ⟨w.heap.size + 1, 0, none⟩ = some (.bool b) ∧ (put2 (put2 W (w.heap.size + 1 + 1 + 1) d r) (w.heap.size + 1 + 1) d' r').cell? ⟨w.heap.size + 1, 1, none⟩ = some v := h.keep fun k h1 h2 => (put2_heap _ _ _ _ k h1).trans (put2_heap _ _ _ _ k h2)
end
theorem Boxed4.fin1 {w W : World} {a b : Bool} {u v : Value} (h : Boxed4 w a b u v W) (d1 d2 : Bool) (r1 r2 : Value) :
    (put2 (put2 W (w.heap.size + 1 + 1) d1 r1) (w.heap.size + 1 + 1 + 1) d2 r2).cell? ⟨w.heap.size + 1 + 1, 0, none⟩ = some (.bool d1) ∧ (put2 (put2 W (w.heap.size + 1 + 1) d1 r1) (w.heap.size + 1 + 1 + 1) d2 r2).cell? ⟨w.heap.size + 1 + 1, 1, none⟩ = some r1 ∧
    (put2 (put2 W (w.heap.size + 1 + 1) d1 r1) (w.heap.size + 1 + 1 + 1) d2 r2).cell? ⟨w.heap.size + 1 + 1 + 1, 0, none⟩ = some (.bool d2) ∧ (put2 (put2 W (w.heap.size + 1 + 1) d1 r1) (w.heap.size + 1 + 1 + 1) d2 r2).cell? ⟨w.heap.size + 1 + 1 + 1, 1, none⟩ = some r2 ∧
    Below w.heap.size w (put2 (put2 W (w.heap.size + 1 + 1) d1 r1) (w.heap.size + 1 + 1 + 1) d2 r2) := by
  have e1 := put2_far (d := d2) (r := r2) (put2_box (d := d1) (r := r1) h.b2) (B := w.heap.size + 1 + 1 + 1) (by omega)
  have e2 := put2_box (d := d2) (r := r2) (put2_far (d := d1) (r := r1) h.b3 (B := w.heap.size + 1 + 1) (by omega))
  exact ⟨by simpa using e1.cell 0, by simpa using e1.cell 1, by simpa using e2.cell 0, by simpa using e2.cell 1, put2_below (put2_below h.low (by omega) _ _) (by omega) _ _⟩
theorem Boxed4.fin2 {w W : World} {a b : Bool} {u v : Value} (h : Boxed4 w a b u v W) (d1 d2 : Bool) (r1 r2 : Value) :
    (put2 (put2 W (w.heap.size + 1 + 1 + 1) d2 r2) (w.heap.size + 1 + 1) d1 r1).cell? ⟨w.heap.size + 1 + 1, 0, none⟩ = some (.bool d1) ∧ (put2 (put2 W (w.heap.size + 1 + 1 + 1) d2 r2) (w.heap.size + 1 + 1) d1 r1).cell? ⟨w.heap.size + 1 + 1, 1, none⟩ = some r1 ∧
    (put2 (put2 W (w.heap.size + 1 + 1 + 1) d2 r2) (w.heap.size + 1 + 1) d1 r1).cell? ⟨w.heap.size + 1 + 1 + 1, 0, none⟩ = some (.bool d2) ∧ (put2 (put2 W (w.heap.size + 1 + 1 + 1) d2 r2) (w.heap.size + 1 + 1) d1 r1).cell? ⟨w.heap.size + 1 + 1 + 1, 1, none⟩ = some r2 ∧
    Below w.heap.size w (put2 (put2 W (w.heap.size + 1 + 1 + 1) d2 r2) (w.heap.size + 1 + 1) d1 r1) := by
  have e1 := put2_box (d := d1) (r := r1) (put2_far (d := d2) (r := r2) h.b2 (B := w.heap.size + 1 + 1 + 1) (by omega))
  have e2 := put2_far (d := d1) (r := r1) (put2_box (d := d2) (r := r2) h.b3) (B := w.heap.size + 1 + 1) (by omega)
  exact ⟨by simpa using e1.cell 0, by simpa using e1.cell 1, by simpa using e2.cell 0, by simpa using e2.cell 1, put2_below (put2_below h.low (by omega) _ _) (by omega) _ _⟩
def posB (n : Nat) : Bool := decide (0 < n)
theorem NatV.put2 {w W : World} {v : Value} {n : Nat} {a b : Bool} {x y : Value} (h : NatV W v n) (hX : Boxed4 w a b x y W) (d1 d2 : Bool) (o1 o2 : Option Addr) (l1 c1 l2 c2 : Nat) :
    NatV (Go.Proofs.YthpknfoahimopaaGreatDoor.put2 (Go.Proofs.YthpknfoahimopaaGreatDoor.put2 W (w.heap.size + 1 + 1) d1 (.slice o1 l1 c1)) (w.heap.size + 1 + 1 + 1) d2 (.slice o2 l2 c2)) v n ∧
    NatV (Go.Proofs.YthpknfoahimopaaGreatDoor.put2 (Go.Proofs.YthpknfoahimopaaGreatDoor.put2 W (w.heap.size + 1 + 1 + 1) d2 (.slice o2 l2 c2)) (w.heap.size + 1 + 1) d1 (.slice o1 l1 c1)) v n := by
  constructor
  · have h1 := h.other hX.b2 (put2_heap W (w.heap.size + 1 + 1) d1 (.slice o1 l1 c1))
    exact h1.other (put2_far hX.b3 (by omega)) (put2_heap _ (w.heap.size + 1 + 1 + 1) d2 (.slice o2 l2 c2))
  · have h1 := h.other hX.b3 (put2_heap W (w.heap.size + 1 + 1 + 1) d2 (.slice o2 l2 c2))
    exact h1.other (put2_far hX.b2 (by omega)) (put2_heap _ (w.heap.size + 1 + 1) d1 (.slice o1 l1 c1))
set_option maxRecDepth 100000 in
set_option maxHeartbeats 8000000 in
theorem numdown_near {x y : Int} {v1 v2 : Value} {w : World} (h1 : NumV w v1 x) (h2 : NumV w v2 y) (hx : Few x.natAbs) (hy : Few y.natAbs) (hy0 : y ≠ 0) (hab : decide (x < 0) = decide (y < 0)) : Calls Tryz.prog 95 #[v1, v2] w (DownPost w (x.fdiv y) (x.fmod y)) := by
  obtain ⟨u, rfl, hu⟩ := h1
  obtain ⟨v, rfl, hv⟩ := h2
  have hyn : y.natAbs ≠ 0 := by omega
  obtain ⟨Q, hQ⟩ : ∃ Q, Q = x.natAbs / y.natAbs := ⟨_, rfl⟩
  obtain ⟨R, hR⟩ : ∃ R, R = x.natAbs % y.natAbs := ⟨_, rfl⟩
  have hRy : R < y.natAbs := by rw [hR]; exact Nat.mod_lt _ (by omega)
  have HDV : Hid (∀ w', Below w.heap.size w w' → Calls Tryz.prog 116 #[u, v] w' (NatPost2 w' Q R)) := fun w' hb => by rw [hQ, hR]; exact ndivided_any (hu.below hb) (hv.below hb) hx hy hyn
  have hQf : Few Q := by rw [hQ]; exact hx.le (Nat.div_le_self _ _)
  have hRf : Few R := hy.le (Nat.le_of_lt hRy)
  have HS : Hid (∀ (d : Bool) (r : Value) (n : Nat) (w' : World), NatV w' r n → Calls Tryz.prog 90 #[.bool d, r] w' fun e w2 => e = .returned (.agg #[.bool (d && posB n), r]) ∧ Below w'.heap.size w' w2) := fun d r n w' hr => signed_any d hr
  obtain ⟨a, ha⟩ : ∃ a, a = decide (x < 0) := ⟨_, rfl⟩
  obtain ⟨b, hb⟩ : ∃ b, b = decide (y < 0) := ⟨_, rfl⟩
  rw [← ha, ← hb]
  have HLAW : Hid (sgZ (a != b) Q = x.fdiv y ∧ sgZ b R = x.fmod y) := by show _ ∧ _; rw [ha, hb, hQ, hR]; exact down1 hy0 (.inl hab)
  have HAB : Hid (a = b) := by show _ = _; rw [ha, hb]; exact hab
  have tq : (a == b) = true := by simpa using HAB.out
  obtain ⟨oa, ca, la, rfl, _, _⟩ := nat_len hu
  obtain ⟨ob, cb, lb, rfl, _, _⟩ := nat_len hv
  have HU := hide hu
  have HV := hide hv
  clear ha hb hu hv hx hy hab hQ hR hyn hRy hQf hRf hy0
  have HX := hide (Boxed4.start w a b (.slice oa la ca) (.slice ob lb cb))
  obtain ⟨W, hW⟩ : ∃ W, (((w.alloc (.cells #[.bool a, .slice oa la ca] 102)).alloc (.cells #[.bool b, .slice ob lb cb] 102)).alloc (.cells #[.bool false, .slice none 0 0] 102)).alloc (.cells #[.bool false, .slice none 0 0] 102) = W := ⟨_, rfl⟩
  have HX : Hid (Boxed4 w a b (.slice oa la ca) (.slice ob lb cb) W) := by show Boxed4 _ _ _ _ _ _; rw [← hW]; exact HX.out
  have HW := hide hW
  clear hW
  go_enter Tryz.func95, Tryz.ntmps95
  go_upto_region 1 with fail
  rw [HW.out]
  obtain ⟨y0, y1, y2, y3⟩ := HX.out.cells
  have HX0 := HX
  go_upto_region 2 with (go_at_call 116; (with_reducible refine (HDV.out _ HX0.out.low).mono ?_); rintro ec w9 ⟨q, r, rfl, hq, hr, h7⟩; have HX := hide (HX0.out.below h7); obtain ⟨y0, y1, y2, y3⟩ := HX.out.cells; obtain ⟨oq, cq, lq, hqv, _, _⟩ := nat_len hq; obtain ⟨orr, cr, lr, hrv, hr0, _⟩ := nat_len hr; subst hqv hrv; have HQ := hide hq; have HR := hide hr; have HLR := hide hr0; clear hq hr h7 hr0)
  go_upto_region 3 with fail
  clear y0 y1 y2 y3
  have yy0 := HX.out.cells
  have HX := hide (HX.out.below (Below.refl _ _).drew)
  have HQ := hide (HQ.out.below (Below.refl _ _).drew)
  have HR := hide (HR.out.below (Below.refl _ _).drew)
  have yy := HX.out.cells
  go_region_held3 (fun w' => w'.cell? ⟨w.heap.size, 0, none⟩ = some (.bool a) ∧ w'.cell? ⟨w.heap.size, 1, none⟩ = some (.slice oa la ca) ∧ w'.cell? ⟨w.heap.size + 1, 0, none⟩ = some (.bool b) ∧ w'.cell? ⟨w.heap.size + 1, 1, none⟩ = some (.slice ob lb cb)) (first | with_reducible exact yy | with_reducible exact yy0 | with_reducible exact HX.out.kept1 _ _ | with_reducible exact HX.out.kept2 _ _ | with_reducible exact HX.out.kept3 _ _ _ _ | with_reducible exact HX.out.kept4 _ _ _ _) (first
    | (go_at_call 90; (with_reducible refine (HS.out _ _ _ _ HQ.out).mono ?_); rintro ec wz ⟨rfl, hbz⟩; (try (have HQ := hide (HQ.out.below hbz))); (try (have HR := hide (HR.out.below hbz))); (try (have HN1 := hide (HN1.out.below hbz))); (try (have HP := hide (HP.out.below hbz))); (try (have HL := hide (HL.out.below hbz))); have HX := hide (HX.out.below hbz); have yy := HX.out.cells; obtain ⟨r0, r1, f0, f1⟩ := rcell_of HX.out.b2; obtain ⟨s0, s1, g0, g1⟩ := rcell_of HX.out.b3; clear hbz)
    | (go_at_call 90; (with_reducible refine (HS.out _ _ _ _ HR.out).mono ?_); rintro ec wz ⟨rfl, hbz⟩; (try (have HQ := hide (HQ.out.below hbz))); (try (have HR := hide (HR.out.below hbz))); (try (have HN1 := hide (HN1.out.below hbz))); (try (have HP := hide (HP.out.below hbz))); (try (have HL := hide (HL.out.below hbz))); have HX := hide (HX.out.below hbz); have yy := HX.out.cells; obtain ⟨r0, r1, f0, f1⟩ := rcell_of HX.out.b2; obtain ⟨s0, s1, g0, g1⟩ := rcell_of HX.out.b3; clear hbz))
  all_goals
    have HF1 := hide (HX.out.fin1 (false) (b && posB R) (.slice oq lq cq) (.slice orr lr cr))
    have HF2 := hide (HX.out.fin2 (false) (b && posB R) (.slice oq lq cq) (.slice orr lr cr))
    obtain ⟨z0, z1, z2, z3, _⟩ := HF1.out
    obtain ⟨z4, z5, z6, z7, _⟩ := HF2.out
    have hP1 := HQ.out.put2 HX.out (false) (b && posB R) oq orr lq cq lr cr
    have hP2 := HR.out.put2 HX.out (false) (b && posB R) oq orr lq cq lr cr
    have e1 : sgnZ false Q = x.fdiv y := by have h6 := HLAW.out.1; rw [HAB.out, bne_self_eq_false] at h6; exact h6
    have e2 : sgnZ b R = x.fmod y := HLAW.out.2
    have HE1 := hide e1
    have HE2 := hide e2
    have HP1 := hide hP1
    have HP2 := hide hP2
    clear e1 e2 hP1 hP2
    go_wp2_with fail
    first
      | (refine bodyPost_ret (v := .tuple #[.agg #[.bool (false), (.slice oq lq cq)], .agg #[.bool (b && posB R), (.slice orr lr cr)]]) (by simp [results, Tryz.results95, go_sem, z0, z1, z2, z3]) rfl ⟨_, _, rfl, ?_, ?_, HF1.out.2.2.2.2⟩; (rw [← HE1.out]; exact NumV.of false HP1.out.1); (rw [← HE2.out]; exact NumV.of b HP2.out.1))
      | (refine bodyPost_ret (v := .tuple #[.agg #[.bool (false), (.slice oq lq cq)], .agg #[.bool (b && posB R), (.slice orr lr cr)]]) (by simp [results, Tryz.results95, go_sem, z4, z5, z6, z7]) rfl ⟨_, _, rfl, ?_, ?_, HF2.out.2.2.2.2⟩; (rw [← HE1.out]; exact NumV.of false HP1.out.2); (rw [← HE2.out]; exact NumV.of b HP2.out.2))
set_option maxRecDepth 100000 in
set_option maxHeartbeats 8000000 in
theorem numdown_exact {x y : Int} {v1 v2 : Value} {w : World} (h1 : NumV w v1 x) (h2 : NumV w v2 y) (hx : Few x.natAbs) (hy : Few y.natAbs) (hy0 : y ≠ 0) (hab : decide (x < 0) ≠ decide (y < 0) ∧ x.natAbs % y.natAbs = 0) : Calls Tryz.prog 95 #[v1, v2] w (DownPost w (x.fdiv y) (x.fmod y)) := by
  obtain ⟨u, rfl, hu⟩ := h1
  obtain ⟨v, rfl, hv⟩ := h2
  have hyn : y.natAbs ≠ 0 := by omega
  obtain ⟨Q, hQ⟩ : ∃ Q, Q = x.natAbs / y.natAbs := ⟨_, rfl⟩
  obtain ⟨R, hR⟩ : ∃ R, R = x.natAbs % y.natAbs := ⟨_, rfl⟩
  have hRy : R < y.natAbs := by rw [hR]; exact Nat.mod_lt _ (by omega)
  have HDV : Hid (∀ w', Below w.heap.size w w' → Calls Tryz.prog 116 #[u, v] w' (NatPost2 w' Q R)) := fun w' hb => by rw [hQ, hR]; exact ndivided_any (hu.below hb) (hv.below hb) hx hy hyn
  have hQf : Few Q := by rw [hQ]; exact hx.le (Nat.div_le_self _ _)
  have hRf : Few R := hy.le (Nat.le_of_lt hRy)
  have HS : Hid (∀ (d : Bool) (r : Value) (n : Nat) (w' : World), NatV w' r n → Calls Tryz.prog 90 #[.bool d, r] w' fun e w2 => e = .returned (.agg #[.bool (d && posB n), r]) ∧ Below w'.heap.size w' w2) := fun d r n w' hr => signed_any d hr
  obtain ⟨a, ha⟩ : ∃ a, a = decide (x < 0) := ⟨_, rfl⟩
  obtain ⟨b, hb⟩ : ∃ b, b = decide (y < 0) := ⟨_, rfl⟩
  rw [← ha, ← hb]
  have HLAW : Hid (sgZ (a != b) Q = x.fdiv y ∧ sgZ b R = x.fmod y) := by show _ ∧ _; rw [ha, hb, hQ, hR]; exact down1 hy0 (.inr hab.2)
  have HAB : Hid (a ≠ b ∧ R = 0) := by show _ ∧ _; rw [ha, hb, hR]; exact hab
  have tq : (a == b) = false := by simpa using HAB.out.1
  obtain ⟨oa, ca, la, rfl, _, _⟩ := nat_len hu
  obtain ⟨ob, cb, lb, rfl, _, _⟩ := nat_len hv
  have HU := hide hu
  have HV := hide hv
  clear ha hb hu hv hx hy hab hQ hR hyn hRy hQf hRf hy0
  have HX := hide (Boxed4.start w a b (.slice oa la ca) (.slice ob lb cb))
  obtain ⟨W, hW⟩ : ∃ W, (((w.alloc (.cells #[.bool a, .slice oa la ca] 102)).alloc (.cells #[.bool b, .slice ob lb cb] 102)).alloc (.cells #[.bool false, .slice none 0 0] 102)).alloc (.cells #[.bool false, .slice none 0 0] 102) = W := ⟨_, rfl⟩
  have HX : Hid (Boxed4 w a b (.slice oa la ca) (.slice ob lb cb) W) := by show Boxed4 _ _ _ _ _ _; rw [← hW]; exact HX.out
  have HW := hide hW
  clear hW
  go_enter Tryz.func95, Tryz.ntmps95
  go_upto_region 1 with fail
  rw [HW.out]
  obtain ⟨y0, y1, y2, y3⟩ := HX.out.cells
  have HX0 := HX
  go_upto_region 2 with (go_at_call 116; (with_reducible refine (HDV.out _ HX0.out.low).mono ?_); rintro ec w9 ⟨q, r, rfl, hq, hr, h7⟩; have HX := hide (HX0.out.below h7); obtain ⟨y0, y1, y2, y3⟩ := HX.out.cells; obtain ⟨oq, cq, lq, hqv, _, _⟩ := nat_len hq; obtain ⟨orr, cr, lr, hrv, hr0, _⟩ := nat_len hr; subst hqv hrv; have HQ := hide hq; have HR := hide hr; have HLR := hide hr0; clear hq hr h7 hr0)
  have tl : ((lr : Int) == 0) = true := by have := HLR.out.2 HAB.out.2; simp; omega
  go_upto_region 3 with fail
  clear y0 y1 y2 y3
  have yy0 := HX.out.cells
  have HX := hide (HX.out.below (Below.refl _ _).drew)
  have HQ := hide (HQ.out.below (Below.refl _ _).drew)
  have HR := hide (HR.out.below (Below.refl _ _).drew)
  have yy := HX.out.cells
  go_region_held3 (fun w' => w'.cell? ⟨w.heap.size, 0, none⟩ = some (.bool a) ∧ w'.cell? ⟨w.heap.size, 1, none⟩ = some (.slice oa la ca) ∧ w'.cell? ⟨w.heap.size + 1, 0, none⟩ = some (.bool b) ∧ w'.cell? ⟨w.heap.size + 1, 1, none⟩ = some (.slice ob lb cb)) (first | with_reducible exact yy | with_reducible exact yy0 | with_reducible exact HX.out.kept1 _ _ | with_reducible exact HX.out.kept2 _ _ | with_reducible exact HX.out.kept3 _ _ _ _ | with_reducible exact HX.out.kept4 _ _ _ _) (first
    | (go_at_call 90; (with_reducible refine (HS.out _ _ _ _ HQ.out).mono ?_); rintro ec wz ⟨rfl, hbz⟩; (try (have HQ := hide (HQ.out.below hbz))); (try (have HR := hide (HR.out.below hbz))); (try (have HN1 := hide (HN1.out.below hbz))); (try (have HP := hide (HP.out.below hbz))); (try (have HL := hide (HL.out.below hbz))); have HX := hide (HX.out.below hbz); have yy := HX.out.cells; obtain ⟨r0, r1, f0, f1⟩ := rcell_of HX.out.b2; obtain ⟨s0, s1, g0, g1⟩ := rcell_of HX.out.b3; clear hbz)
    | (go_at_call 90; (with_reducible refine (HS.out _ _ _ _ HR.out).mono ?_); rintro ec wz ⟨rfl, hbz⟩; (try (have HQ := hide (HQ.out.below hbz))); (try (have HR := hide (HR.out.below hbz))); (try (have HN1 := hide (HN1.out.below hbz))); (try (have HP := hide (HP.out.below hbz))); (try (have HL := hide (HL.out.below hbz))); have HX := hide (HX.out.below hbz); have yy := HX.out.cells; obtain ⟨r0, r1, f0, f1⟩ := rcell_of HX.out.b2; obtain ⟨s0, s1, g0, g1⟩ := rcell_of HX.out.b3; clear hbz))
  all_goals
    have HF1 := hide (HX.out.fin1 (posB Q) (b && posB R) (.slice oq lq cq) (.slice orr lr cr))
    have HF2 := hide (HX.out.fin2 (posB Q) (b && posB R) (.slice oq lq cq) (.slice orr lr cr))
    obtain ⟨z0, z1, z2, z3, _⟩ := HF1.out
    obtain ⟨z4, z5, z6, z7, _⟩ := HF2.out
    have hP1 := HQ.out.put2 HX.out (posB Q) (b && posB R) oq orr lq cq lr cr
    have hP2 := HR.out.put2 HX.out (posB Q) (b && posB R) oq orr lq cq lr cr
    have e1 : sgnZ true Q = x.fdiv y := by have h6 := HLAW.out.1; rw [show (a != b) = true from by simpa using HAB.out.1] at h6; exact h6
    have e2 : sgnZ b R = x.fmod y := HLAW.out.2
    have HE1 := hide e1
    have HE2 := hide e2
    have HP1 := hide hP1
    have HP2 := hide hP2
    clear e1 e2 hP1 hP2
    go_wp2_with fail
    first
      | (refine bodyPost_ret (v := .tuple #[.agg #[.bool (posB Q), (.slice oq lq cq)], .agg #[.bool (b && posB R), (.slice orr lr cr)]]) (by simp [results, Tryz.results95, go_sem, z0, z1, z2, z3]) rfl ⟨_, _, rfl, ?_, ?_, HF1.out.2.2.2.2⟩; (rw [← HE1.out]; exact NumV.of true HP1.out.1); (rw [← HE2.out]; exact NumV.of b HP2.out.1))
      | (refine bodyPost_ret (v := .tuple #[.agg #[.bool (posB Q), (.slice oq lq cq)], .agg #[.bool (b && posB R), (.slice orr lr cr)]]) (by simp [results, Tryz.results95, go_sem, z4, z5, z6, z7]) rfl ⟨_, _, rfl, ?_, ?_, HF2.out.2.2.2.2⟩; (rw [← HE1.out]; exact NumV.of true HP1.out.2); (rw [← HE2.out]; exact NumV.of b HP2.out.2))
set_option maxRecDepth 100000 in
set_option maxHeartbeats 8000000 in
theorem numdown_far {x y : Int} {v1 v2 : Value} {w : World} (h1 : NumV w v1 x) (h2 : NumV w v2 y) (hx : Few x.natAbs) (hy : Few y.natAbs) (hy0 : y ≠ 0) (hab : decide (x < 0) ≠ decide (y < 0) ∧ x.natAbs % y.natAbs ≠ 0) : Calls Tryz.prog 95 #[v1, v2] w (DownPost w (x.fdiv y) (x.fmod y)) := by
  obtain ⟨u, rfl, hu⟩ := h1
  obtain ⟨v, rfl, hv⟩ := h2
  have hyn : y.natAbs ≠ 0 := by omega
  obtain ⟨Q, hQ⟩ : ∃ Q, Q = x.natAbs / y.natAbs := ⟨_, rfl⟩
  obtain ⟨R, hR⟩ : ∃ R, R = x.natAbs % y.natAbs := ⟨_, rfl⟩
  have hRy : R < y.natAbs := by rw [hR]; exact Nat.mod_lt _ (by omega)
  have HDV : Hid (∀ w', Below w.heap.size w w' → Calls Tryz.prog 116 #[u, v] w' (NatPost2 w' Q R)) := fun w' hb => by rw [hQ, hR]; exact ndivided_any (hu.below hb) (hv.below hb) hx hy hyn
  have hQf : Few Q := by rw [hQ]; exact hx.le (Nat.div_le_self _ _)
  have hRf : Few R := hy.le (Nat.le_of_lt hRy)
  have HS : Hid (∀ (d : Bool) (r : Value) (n : Nat) (w' : World), NatV w' r n → Calls Tryz.prog 90 #[.bool d, r] w' fun e w2 => e = .returned (.agg #[.bool (d && posB n), r]) ∧ Below w'.heap.size w' w2) := fun d r n w' hr => signed_any d hr
  have HPL : Hid (∀ (w' : World) (p : Value), NatV w' p Q → ∀ n : Value, NatV w' n 1 → Calls Tryz.prog 119 #[p, n] w' (NatPost w' (Q + 1))) := fun w' p hp n hn => nplus_any hp hn hQf (few_word (by omega))
  have HLS : Hid (∀ (w' : World) (p : Value), NatV w' p y.natAbs → ∀ n : Value, NatV w' n R → Calls Tryz.prog 120 #[p, n] w' (NatPost w' (y.natAbs - R))) := fun w' p hp n hn => nless_any hp hn hy hRf (Nat.le_of_lt hRy)
  obtain ⟨a, ha⟩ : ∃ a, a = decide (x < 0) := ⟨_, rfl⟩
  obtain ⟨b, hb⟩ : ∃ b, b = decide (y < 0) := ⟨_, rfl⟩
  rw [← ha, ← hb]
  have HLAW : Hid (sgZ true (Q + 1) = x.fdiv y ∧ sgZ b (y.natAbs - R) = x.fmod y) := by show _ ∧ _; rw [hb, hQ, hR]; exact down2 hy0 hab.1 hab.2
  have HAB : Hid (a ≠ b ∧ R ≠ 0) := by show _ ∧ _; rw [ha, hb, hR]; exact hab
  obtain ⟨L, hL⟩ : ∃ L, L = y.natAbs - R := ⟨_, rfl⟩
  rw [← hL] at HLS HLAW
  clear hL
  have tq : (a == b) = false := by simpa using HAB.out.1
  obtain ⟨oa, ca, la, rfl, _, _⟩ := nat_len hu
  obtain ⟨ob, cb, lb, rfl, _, _⟩ := nat_len hv
  have HU := hide hu
  have HV := hide hv
  clear ha hb hu hv hx hy hab hQ hR hyn hRy hQf hRf hy0
  have HX := hide (Boxed4.start w a b (.slice oa la ca) (.slice ob lb cb))
  obtain ⟨W, hW⟩ : ∃ W, (((w.alloc (.cells #[.bool a, .slice oa la ca] 102)).alloc (.cells #[.bool b, .slice ob lb cb] 102)).alloc (.cells #[.bool false, .slice none 0 0] 102)).alloc (.cells #[.bool false, .slice none 0 0] 102) = W := ⟨_, rfl⟩
  have HX : Hid (Boxed4 w a b (.slice oa la ca) (.slice ob lb cb) W) := by show Boxed4 _ _ _ _ _ _; rw [← hW]; exact HX.out
  have HW := hide hW
  clear hW
  go_enter Tryz.func95, Tryz.ntmps95
  go_upto_region 1 with fail
  rw [HW.out]
  obtain ⟨y0, y1, y2, y3⟩ := HX.out.cells
  have HX0 := HX
  go_upto_region 2 with (go_at_call 116; (with_reducible refine (HDV.out _ HX0.out.low).mono ?_); rintro ec w9 ⟨q, r, rfl, hq, hr, h7⟩; have HX := hide (HX0.out.below h7); obtain ⟨y0, y1, y2, y3⟩ := HX.out.cells; obtain ⟨oq, cq, lq, hqv, _, _⟩ := nat_len hq; obtain ⟨orr, cr, lr, hrv, hr0, _⟩ := nat_len hr; subst hqv hrv; have HQ := hide hq; have HR := hide hr; have HLR := hide hr0; clear hq hr h7 hr0)
  have tl : ((lr : Int) == 0) = false := by have := HLR.out; have h2 := HAB.out.2; simp; intro h; exact h2 (this.1 h)
  go_upto_region 4 with fail
  clear y0 y1 y2 y3
  have yy0 := HX.out.cells
  have HXa := hide (HX.out.below (bnew (Below.refl _ _) (.cells #[.int .u32 1] 131)).drew)
  have HQa := hide (HQ.out.below (bnew (Below.refl _ _) (.cells #[.int .u32 1] 131)).drew)
  have HRa := hide (HR.out.below (bnew (Below.refl _ _) (.cells #[.int .u32 1] 131)).drew)
  have HN1a := hide ((natlit w9 131 1 1 rfl (by omega) (by omega)).below (Below.refl _ _).drew)
  have HX := hide (HX.out.below (Below.refl _ _).drew)
  have HQ := hide (HQ.out.below (Below.refl _ _).drew)
  have HR := hide (HR.out.below (Below.refl _ _).drew)
  have yy := HX.out.cells
  go_region_held3 (fun w' => w'.cell? ⟨w.heap.size, 0, none⟩ = some (.bool a) ∧ w'.cell? ⟨w.heap.size, 1, none⟩ = some (.slice oa la ca) ∧ w'.cell? ⟨w.heap.size + 1, 0, none⟩ = some (.bool b) ∧ w'.cell? ⟨w.heap.size + 1, 1, none⟩ = some (.slice ob lb cb)) (first | with_reducible exact yy | with_reducible exact HXa.out.cells | with_reducible exact (HX.out.below (bnew (Below.refl _ _) (.cells #[.int .u32 1] 131))).cells | with_reducible exact yy0 | with_reducible exact HX.out.kept1 _ _ | with_reducible exact HX.out.kept2 _ _ | with_reducible exact HX.out.kept3 _ _ _ _ | with_reducible exact HX.out.kept4 _ _ _ _) (first
    | (go_at_call 119; (with_reducible refine (HPL.out _ _ HQ.out _ HN1.out).mono ?_); rintro ec wz ⟨p, rfl, hp, hbz⟩; (try (have HQ := hide (HQ.out.below hbz))); (try (have HR := hide (HR.out.below hbz))); (try (have HN1 := hide (HN1.out.below hbz))); (try (have HP := hide (HP.out.below hbz))); (try (have HL := hide (HL.out.below hbz))); have HX := hide (HX.out.below hbz); have yy := HX.out.cells; obtain ⟨r0, r1, f0, f1⟩ := rcell_of HX.out.b2; obtain ⟨s0, s1, g0, g1⟩ := rcell_of HX.out.b3; obtain ⟨op, cp, lp, hpv, _, _⟩ := nat_len hp; subst hpv; have HP := hide hp; clear hp hbz)
    | (go_at_call 119; have HX := hide (HX.out.below (bnew (Below.refl _ _) (.cells #[.int .u32 1] 131))); (try (have HQ := hide (HQ.out.below (bnew (Below.refl _ _) (.cells #[.int .u32 1] 131))))); (try (have HR := hide (HR.out.below (bnew (Below.refl _ _) (.cells #[.int .u32 1] 131))))); (try (have HL := hide (HL.out.below (bnew (Below.refl _ _) (.cells #[.int .u32 1] 131))))); have HN1 := hide (natlit wz 131 1 1 rfl (by omega) (by omega)); (with_reducible refine (HPL.out _ _ HQ.out _ HN1.out).mono ?_); rintro ec wz ⟨p, rfl, hp, hbz⟩; (try (have HQ := hide (HQ.out.below hbz))); (try (have HR := hide (HR.out.below hbz))); (try (have HN1 := hide (HN1.out.below hbz))); (try (have HP := hide (HP.out.below hbz))); (try (have HL := hide (HL.out.below hbz))); have HX := hide (HX.out.below hbz); have yy := HX.out.cells; obtain ⟨r0, r1, f0, f1⟩ := rcell_of HX.out.b2; obtain ⟨s0, s1, g0, g1⟩ := rcell_of HX.out.b3; obtain ⟨op, cp, lp, hpv, _, _⟩ := nat_len hp; subst hpv; have HP := hide hp; clear hp hbz)
    | (go_at_call 119; have HX := HXa; have HQ := HQa; have HR := HRa; have HN1 := HN1a; (with_reducible refine (HPL.out _ _ HQ.out _ HN1.out).mono ?_); rintro ec wz ⟨p, rfl, hp, hbz⟩; (try (have HQ := hide (HQ.out.below hbz))); (try (have HR := hide (HR.out.below hbz))); (try (have HN1 := hide (HN1.out.below hbz))); (try (have HP := hide (HP.out.below hbz))); (try (have HL := hide (HL.out.below hbz))); have HX := hide (HX.out.below hbz); have yy := HX.out.cells; obtain ⟨r0, r1, f0, f1⟩ := rcell_of HX.out.b2; obtain ⟨s0, s1, g0, g1⟩ := rcell_of HX.out.b3; obtain ⟨op, cp, lp, hpv, _, _⟩ := nat_len hp; subst hpv; have HP := hide hp; clear hp hbz)
    | (go_at_call 120; (with_reducible refine (HLS.out _ _ (HV.out.below HX.out.low) _ HR.out).mono ?_); rintro ec wz ⟨p, rfl, hp, hbz⟩; (try (have HQ := hide (HQ.out.below hbz))); (try (have HR := hide (HR.out.below hbz))); (try (have HN1 := hide (HN1.out.below hbz))); (try (have HP := hide (HP.out.below hbz))); (try (have HL := hide (HL.out.below hbz))); have HX := hide (HX.out.below hbz); have yy := HX.out.cells; obtain ⟨r0, r1, f0, f1⟩ := rcell_of HX.out.b2; obtain ⟨s0, s1, g0, g1⟩ := rcell_of HX.out.b3; obtain ⟨ol, cl, ll, hpv, _, _⟩ := nat_len hp; subst hpv; have HL := hide hp; clear hp hbz)
    | (go_at_call 120; have HX := hide (HX.out.below (bnew (Below.refl _ _) (.cells #[.int .u32 1] 131))); (try (have HQ := hide (HQ.out.below (bnew (Below.refl _ _) (.cells #[.int .u32 1] 131))))); (try (have HR := hide (HR.out.below (bnew (Below.refl _ _) (.cells #[.int .u32 1] 131))))); (try (have HL := hide (HL.out.below (bnew (Below.refl _ _) (.cells #[.int .u32 1] 131))))); have HN1 := hide (natlit wz 131 1 1 rfl (by omega) (by omega)); (with_reducible refine (HLS.out _ _ (HV.out.below HX.out.low) _ HR.out).mono ?_); rintro ec wz ⟨p, rfl, hp, hbz⟩; (try (have HQ := hide (HQ.out.below hbz))); (try (have HR := hide (HR.out.below hbz))); (try (have HN1 := hide (HN1.out.below hbz))); (try (have HP := hide (HP.out.below hbz))); (try (have HL := hide (HL.out.below hbz))); have HX := hide (HX.out.below hbz); have yy := HX.out.cells; obtain ⟨r0, r1, f0, f1⟩ := rcell_of HX.out.b2; obtain ⟨s0, s1, g0, g1⟩ := rcell_of HX.out.b3; obtain ⟨ol, cl, ll, hpv, _, _⟩ := nat_len hp; subst hpv; have HL := hide hp; clear hp hbz)
    | (go_at_call 120; have HX := HXa; have HQ := HQa; have HR := HRa; have HN1 := HN1a; (with_reducible refine (HLS.out _ _ (HV.out.below HX.out.low) _ HR.out).mono ?_); rintro ec wz ⟨p, rfl, hp, hbz⟩; (try (have HQ := hide (HQ.out.below hbz))); (try (have HR := hide (HR.out.below hbz))); (try (have HN1 := hide (HN1.out.below hbz))); (try (have HP := hide (HP.out.below hbz))); (try (have HL := hide (HL.out.below hbz))); have HX := hide (HX.out.below hbz); have yy := HX.out.cells; obtain ⟨r0, r1, f0, f1⟩ := rcell_of HX.out.b2; obtain ⟨s0, s1, g0, g1⟩ := rcell_of HX.out.b3; obtain ⟨ol, cl, ll, hpv, _, _⟩ := nat_len hp; subst hpv; have HL := hide hp; clear hp hbz)
    | (go_at_call 90; (with_reducible refine (HS.out _ _ _ _ HP.out).mono ?_); rintro ec wz ⟨rfl, hbz⟩; (try (have HQ := hide (HQ.out.below hbz))); (try (have HR := hide (HR.out.below hbz))); (try (have HN1 := hide (HN1.out.below hbz))); (try (have HP := hide (HP.out.below hbz))); (try (have HL := hide (HL.out.below hbz))); have HX := hide (HX.out.below hbz); have yy := HX.out.cells; obtain ⟨r0, r1, f0, f1⟩ := rcell_of HX.out.b2; obtain ⟨s0, s1, g0, g1⟩ := rcell_of HX.out.b3; clear hbz)
    | (go_at_call 90; (with_reducible refine (HS.out _ _ _ _ HL.out).mono ?_); rintro ec wz ⟨rfl, hbz⟩; (try (have HQ := hide (HQ.out.below hbz))); (try (have HR := hide (HR.out.below hbz))); (try (have HN1 := hide (HN1.out.below hbz))); (try (have HP := hide (HP.out.below hbz))); (try (have HL := hide (HL.out.below hbz))); have HX := hide (HX.out.below hbz); have yy := HX.out.cells; obtain ⟨r0, r1, f0, f1⟩ := rcell_of HX.out.b2; obtain ⟨s0, s1, g0, g1⟩ := rcell_of HX.out.b3; clear hbz)
    | (go_at_call 90; have HX := hide (HX.out.below (bnew (Below.refl _ _) (.cells #[.int .u32 1] 131))); (try (have HQ := hide (HQ.out.below (bnew (Below.refl _ _) (.cells #[.int .u32 1] 131))))); (try (have HR := hide (HR.out.below (bnew (Below.refl _ _) (.cells #[.int .u32 1] 131))))); (try (have HL := hide (HL.out.below (bnew (Below.refl _ _) (.cells #[.int .u32 1] 131))))); have HN1 := hide (natlit wz 131 1 1 rfl (by omega) (by omega)); (with_reducible refine (HS.out _ _ _ _ HL.out).mono ?_); rintro ec wz ⟨rfl, hbz⟩; (try (have HQ := hide (HQ.out.below hbz))); (try (have HR := hide (HR.out.below hbz))); (try (have HN1 := hide (HN1.out.below hbz))); (try (have HP := hide (HP.out.below hbz))); (try (have HL := hide (HL.out.below hbz))); have HX := hide (HX.out.below hbz); have yy := HX.out.cells; obtain ⟨r0, r1, f0, f1⟩ := rcell_of HX.out.b2; obtain ⟨s0, s1, g0, g1⟩ := rcell_of HX.out.b3; clear hbz))
  all_goals
    have HF1 := hide (HX.out.fin1 (posB (Q + 1)) (b && posB L) (.slice op lp cp) (.slice ol ll cl))
    have HF2 := hide (HX.out.fin2 (posB (Q + 1)) (b && posB L) (.slice op lp cp) (.slice ol ll cl))
    obtain ⟨z0, z1, z2, z3, _⟩ := HF1.out
    obtain ⟨z4, z5, z6, z7, _⟩ := HF2.out
    have hP1 := HP.out.put2 HX.out (posB (Q + 1)) (b && posB L) op ol lp cp ll cl
    have hP2 := HL.out.put2 HX.out (posB (Q + 1)) (b && posB L) op ol lp cp ll cl
    have e1 : sgnZ true (Q + 1) = x.fdiv y := HLAW.out.1
    have e2 : sgnZ b L = x.fmod y := HLAW.out.2
    have HE1 := hide e1
    have HE2 := hide e2
    have HP1 := hide hP1
    have HP2 := hide hP2
    clear e1 e2 hP1 hP2
    go_wp2_with fail
    first
      | (refine bodyPost_ret (v := .tuple #[.agg #[.bool (posB (Q + 1)), (.slice op lp cp)], .agg #[.bool (b && posB L), (.slice ol ll cl)]]) (by simp [results, Tryz.results95, go_sem, z0, z1, z2, z3]) rfl ⟨_, _, rfl, ?_, ?_, HF1.out.2.2.2.2⟩; (rw [← HE1.out]; exact NumV.of true HP1.out.1); (rw [← HE2.out]; exact NumV.of b HP2.out.1))
      | (refine bodyPost_ret (v := .tuple #[.agg #[.bool (posB (Q + 1)), (.slice op lp cp)], .agg #[.bool (b && posB L), (.slice ol ll cl)]]) (by simp [results, Tryz.results95, go_sem, z4, z5, z6, z7]) rfl ⟨_, _, rfl, ?_, ?_, HF2.out.2.2.2.2⟩; (rw [← HE1.out]; exact NumV.of true HP1.out.2); (rw [← HE2.out]; exact NumV.of b HP2.out.2))
end Go.Proofs.YthpknfoahimopaaGreatDoor

set_option linter.unusedVariables false
set_option linter.unusedSimpArgs false
namespace Go.Proofs.YthpknfoahimopaaGreatDoor

/-- In lowest terms. -/
def LowQ (p q : Int) : Prop := 0 < q ∧ p.gcd q = 1
theorem low_uniq {p q p' q' : Int} (h : LowQ p q) (h' : LowQ p' q') (he : p * q' = p' * q) : p = p' ∧ q = q' := by
  have d1 : q ∣ q' := by
    have h1 : q ∣ p * q' := ⟨p', by rw [he, Int.mul_comm]⟩
    have h2 := Int.natAbs_dvd_natAbs.2 h1
    rw [Int.natAbs_mul] at h2
    exact Int.natAbs_dvd_natAbs.1 (Nat.Coprime.dvd_of_dvd_mul_left (show Nat.Coprime q.natAbs p.natAbs by have h3 := h.2; rw [Int.gcd_comm] at h3; exact h3) h2)
  have d2 : q' ∣ q := by
    have h1 : q' ∣ p' * q := ⟨p, by rw [← he, Int.mul_comm]⟩
    have h2 := Int.natAbs_dvd_natAbs.2 h1
    rw [Int.natAbs_mul] at h2
    exact Int.natAbs_dvd_natAbs.1 (Nat.Coprime.dvd_of_dvd_mul_left (show Nat.Coprime q'.natAbs p'.natAbs by have h3 := h'.2; rw [Int.gcd_comm] at h3; exact h3) h2)
  have e : q = q' := by
    have h1 := Int.le_of_dvd h'.1 d1
    have h2 := Int.le_of_dvd h.1 d2
    omega
  subst e
  have hq := h.1
  exact ⟨Int.eq_of_mul_eq_mul_right (by omega) he, rfl⟩
/-- The lowest terms of n / d. -/
def lowG (n d : Int) : Int := if d < 0 then -(n.gcd d : Int) else n.gcd d
def lowF (n d : Int) : Int × Int := (n.fdiv (lowG n d), d.fdiv (lowG n d))
theorem lowF_ok {n d : Int} (hd : d ≠ 0) : LowQ (lowF n d).1 (lowF n d).2 ∧ (lowF n d).1 * d = n * (lowF n d).2 := by
  have hg0 : 0 < n.gcd d := Int.gcd_pos_of_ne_zero_right n hd
  obtain ⟨a, ha⟩ := Int.gcd_dvd_left n d
  obtain ⟨b, hb⟩ := Int.gcd_dvd_right n d
  obtain ⟨g, hg⟩ : ∃ g : Nat, g = n.gcd d := ⟨_, rfl⟩
  rw [← hg] at ha hb hg0
  have hab : a.gcd b = 1 := by
    have h1 : g = g * a.gcd b := by
      have h2 := hg
      rw [ha, hb, Int.gcd_mul_left, Int.natAbs_natCast] at h2
      exact h2
    exact Nat.eq_of_mul_eq_mul_left hg0 (by omega)
  have hg1 : (g : Int) ≠ 0 := by omega
  unfold lowF lowG
  rw [← hg]
  clear hg
  by_cases hs : d < 0
  · rw [if_pos hs]
    have e1 : n.fdiv (-(g : Int)) = -a := by
      rw [ha, show (g : Int) * a = -(g : Int) * (-a) by rw [Int.neg_mul_neg]]
      exact Int.mul_fdiv_cancel_left _ (by omega)
    have e2 : d.fdiv (-(g : Int)) = -b := by
      rw [hb, show (g : Int) * b = -(g : Int) * (-b) by rw [Int.neg_mul_neg]]
      exact Int.mul_fdiv_cancel_left _ (by omega)
    rw [e1, e2]
    refine ⟨⟨?_, by rw [Int.neg_gcd, Int.gcd_neg]; exact hab⟩, ?_⟩
    · by_cases h0 : 0 < -b
      · exact h0
      · exfalso
        have : 0 ≤ (g : Int) * b := Int.mul_nonneg (by omega) (by omega)
        omega
    · show -a * d = n * -b
      rw [ha, hb, Int.mul_neg, Int.neg_mul, Int.mul_left_comm, Int.mul_assoc]
  · rw [if_neg hs]
    have e1 : n.fdiv (g : Int) = a := by rw [ha]; exact Int.mul_fdiv_cancel_left _ hg1
    have e2 : d.fdiv (g : Int) = b := by rw [hb]; exact Int.mul_fdiv_cancel_left _ hg1
    rw [e1, e2]
    refine ⟨⟨?_, hab⟩, ?_⟩
    · by_cases h0 : 0 < b
      · exact h0
      · exfalso
        have : (g : Int) * b ≤ (g : Int) * 0 := Int.mul_le_mul_of_nonneg_left (by omega) (by omega)
        omega
    · show a * d = n * b
      rw [ha, hb, Int.mul_left_comm, Int.mul_assoc]
/-- Two numbers and a fraction that is equal to theirs: its lowest terms. -/
theorem lowF_of {n d p q : Int} (hd : d ≠ 0) (h : LowQ p q) (he : p * d = n * q) : lowF n d = (p, q) := by
  obtain ⟨h1, h2⟩ := lowF_ok (n := n) hd
  have h3 : (lowF n d).1 * q = p * (lowF n d).2 := by
    refine Int.eq_of_mul_eq_mul_right hd ?_
    rw [Int.mul_right_comm, h2, Int.mul_right_comm p, he, Int.mul_right_comm]
  obtain ⟨h4, h5⟩ := low_uniq h1 h h3
  exact Prod.ext h4 h5
theorem lowF_low {p q : Int} (h : LowQ p q) : lowF p q = (p, q) := lowF_of (by have := h.1; omega) h rfl
/-- Fractions that are equal have the same lowest terms. -/
theorem lowF_eq {n d n' d' : Int} (hd : d ≠ 0) (hd' : d' ≠ 0) (he : n * d' = n' * d) : lowF n d = lowF n' d' := by
  obtain ⟨h1, h2⟩ := lowF_ok (n := n') hd'
  refine lowF_of hd h1 ?_
  refine Int.eq_of_mul_eq_mul_right hd' ?_
  show (lowF n' d').1 * d * d' = n * (lowF n' d').2 * d'
  rw [Int.mul_right_comm, h2, Int.mul_right_comm n', ← he, Int.mul_right_comm]
end Go.Proofs.YthpknfoahimopaaGreatDoor

set_option linter.unusedVariables false
set_option linter.unusedSimpArgs false
namespace Go.Proofs.YthpknfoahimopaaGreatDoor

def addF (x y : Int × Int) : Int × Int := lowF (x.1 * y.2 + y.1 * x.2) (x.2 * y.2)
def subF (x y : Int × Int) : Int × Int := lowF (x.1 * y.2 - y.1 * x.2) (x.2 * y.2)
def mulF (x y : Int × Int) : Int × Int := lowF (x.1 * y.1) (x.2 * y.2)
def divF (x y : Int × Int) : Int × Int := lowF (x.1 * y.2) (x.2 * y.1)
/-- A fraction that is equal to n / d. -/
def EqF (x : Int × Int) (n d : Int) : Prop := x.2 ≠ 0 ∧ d ≠ 0 ∧ x.1 * d = n * x.2
theorem EqF.low {n d : Int} (hd : d ≠ 0) : EqF (lowF n d) n d := by
  obtain ⟨h1, h2⟩ := lowF_ok (n := n) hd
  exact ⟨by have := h1.1; omega, hd, h2⟩
theorem EqF.self {x : Int × Int} (h : x.2 ≠ 0) : EqF x x.1 x.2 := ⟨h, h, rfl⟩
theorem EqF.add {x y : Int × Int} {n d n' d' : Int} (h : EqF x n d) (h' : EqF y n' d') : addF x y = lowF (n * d' + n' * d) (d * d') := by
  obtain ⟨h1, h2, h3⟩ := h
  obtain ⟨h4, h5, h6⟩ := h'
  refine lowF_eq (Int.mul_ne_zero h1 h4) (Int.mul_ne_zero h2 h5) ?_
  grind
theorem EqF.mul {x y : Int × Int} {n d n' d' : Int} (h : EqF x n d) (h' : EqF y n' d') : mulF x y = lowF (n * n') (d * d') := by
  obtain ⟨h1, h2, h3⟩ := h
  obtain ⟨h4, h5, h6⟩ := h'
  refine lowF_eq (Int.mul_ne_zero h1 h4) (Int.mul_ne_zero h2 h5) ?_
  grind
theorem addF_comm {x y : Int × Int} : addF x y = addF y x := by
  unfold addF
  rw [Int.add_comm, Int.mul_comm x.2]
theorem mulF_comm {x y : Int × Int} : mulF x y = mulF y x := by
  unfold mulF
  rw [Int.mul_comm x.2, Int.mul_comm x.1]
theorem addF_assoc {x y z : Int × Int} (hx : x.2 ≠ 0) (hy : y.2 ≠ 0) (hz : z.2 ≠ 0) : addF (addF x y) z = addF x (addF y z) := by
  have hxy := Int.mul_ne_zero hx hy
  have hyz := Int.mul_ne_zero hy hz
  have h1 : addF (addF x y) z = lowF _ _ := EqF.add (EqF.low hxy) (EqF.self hz)
  have h2 : addF x (addF y z) = lowF _ _ := EqF.add (EqF.self hx) (EqF.low hyz)
  rw [h1, h2]
  refine lowF_eq (Int.mul_ne_zero hxy hz) (Int.mul_ne_zero hx hyz) ?_
  grind
theorem mulF_assoc {x y z : Int × Int} (hx : x.2 ≠ 0) (hy : y.2 ≠ 0) (hz : z.2 ≠ 0) : mulF (mulF x y) z = mulF x (mulF y z) := by
  have hxy := Int.mul_ne_zero hx hy
  have hyz := Int.mul_ne_zero hy hz
  have h1 : mulF (mulF x y) z = lowF _ _ := EqF.mul (EqF.low hxy) (EqF.self hz)
  have h2 : mulF x (mulF y z) = lowF _ _ := EqF.mul (EqF.self hx) (EqF.low hyz)
  rw [h1, h2]
  refine lowF_eq (Int.mul_ne_zero hxy hz) (Int.mul_ne_zero hx hyz) ?_
  grind
theorem mulF_add {x y z : Int × Int} (hx : x.2 ≠ 0) (hy : y.2 ≠ 0) (hz : z.2 ≠ 0) : mulF x (addF y z) = addF (mulF x y) (mulF x z) := by
  have hxy := Int.mul_ne_zero hx hy
  have hyz := Int.mul_ne_zero hy hz
  have hxz := Int.mul_ne_zero hx hz
  have h1 : mulF x (addF y z) = lowF _ _ := EqF.mul (EqF.self hx) (EqF.low hyz)
  have h2 : addF (mulF x y) (mulF x z) = lowF _ _ := EqF.add (EqF.low hxy) (EqF.low hxz)
  rw [h1, h2]
  refine lowF_eq (Int.mul_ne_zero hx hyz) (Int.mul_ne_zero hxy hxz) ?_
  grind
theorem addF_zero {x : Int × Int} (h : LowQ x.1 x.2) : addF x (0, 1) = x := by
  unfold addF
  simp only [Int.mul_one, Int.zero_mul, Int.add_zero]
  exact lowF_low h
theorem mulF_one {x : Int × Int} (h : LowQ x.1 x.2) : mulF x (1, 1) = x := by
  unfold mulF
  simp only [Int.mul_one]
  exact lowF_low h
end Go.Proofs.YthpknfoahimopaaGreatDoor

set_option linter.unusedVariables false
set_option linter.unusedSimpArgs false
namespace Go.Proofs.YthpknfoahimopaaGreatDoor

theorem subF_add {x y : Int × Int} (h : LowQ x.1 x.2) (hy : y.2 ≠ 0) : addF (subF x y) y = x := by
  have hx : x.2 ≠ 0 := by have := h.1; omega
  have hxy := Int.mul_ne_zero hx hy
  have h1 : addF (subF x y) y = lowF _ _ := EqF.add (EqF.low hxy) (EqF.self hy)
  rw [h1]
  refine lowF_of (Int.mul_ne_zero hxy hy) h ?_
  grind
theorem divF_mul {x y : Int × Int} (h : LowQ x.1 x.2) (hy : y.2 ≠ 0) (hy1 : y.1 ≠ 0) : mulF (divF x y) y = x := by
  have hx : x.2 ≠ 0 := by have := h.1; omega
  have hxy := Int.mul_ne_zero hx hy1
  have h1 : mulF (divF x y) y = lowF _ _ := EqF.mul (EqF.low hxy) (EqF.self hy)
  rw [h1]
  refine lowF_of (Int.mul_ne_zero hxy hy) h ?_
  grind
/-- The sign of a number. -/
def sgI (x : Int) : Int := if x < 0 then -1 else if x = 0 then 0 else 1
theorem sgI_mul {x d : Int} (hd : 0 < d) : sgI (x * d) = sgI x := by
  unfold sgI
  by_cases h1 : x < 0
  · rw [if_pos h1, if_pos (Int.mul_neg_of_neg_of_pos h1 hd)]
  · by_cases h2 : x = 0
    · subst h2
      simp
    · have h3 : 0 < x * d := Int.mul_pos (by omega) hd
      rw [if_neg h1, if_neg h2, if_neg (by omega), if_neg (by omega)]
theorem sgI_low {n d : Int} (hd : 0 < d) : sgI (lowF n d).1 = sgI n := by
  obtain ⟨h1, h2⟩ := lowF_ok (n := n) (show d ≠ 0 by omega)
  rw [← sgI_mul (x := (lowF n d).1) hd, h2, sgI_mul h1.1]
/-- The order of two fractions. -/
def cmpF (x y : Int × Int) : Int := sgI (x.1 * y.2 - y.1 * x.2)
theorem cmpF_sub {x y : Int × Int} (hx : 0 < x.2) (hy : 0 < y.2) : sgI (subF x y).1 = cmpF x y := sgI_low (Int.mul_pos hx hy)
theorem cmpF_neg (x y : Int × Int) : cmpF y x = -cmpF x y := by
  unfold cmpF sgI
  split <;> split <;> (try split) <;> (try split) <;> omega
theorem cmpF_zero {x y : Int × Int} (hx : LowQ x.1 x.2) (hy : LowQ y.1 y.2) : cmpF x y = 0 ↔ x = y := by
  unfold cmpF sgI
  constructor
  · intro h
    have h1 : x.1 * y.2 = y.1 * x.2 := by
      split at h
      · omega
      · split at h <;> omega
    obtain ⟨h2, h3⟩ := low_uniq hx hy h1
    exact Prod.ext h2 h3
  · rintro rfl
    simp
/-- A fraction is read back from a multiple of both of its numbers. -/
theorem lowF_mul {x : Int × Int} (h : LowQ x.1 x.2) {k : Int} (hk : k ≠ 0) : lowF (x.1 * k) (x.2 * k) = x := by
  have hx : x.2 ≠ 0 := by have := h.1; omega
  refine lowF_of (Int.mul_ne_zero hx hk) h ?_
  grind
/-- What is left above the floor. -/
theorem floor_rest {x : Int × Int} (h : LowQ x.1 x.2) : 0 ≤ cmpF (subF x (x.1.fdiv x.2, 1)) (0, 1) ∧ cmpF (subF x (x.1.fdiv x.2, 1)) (1, 1) < 0 := by
  have hx := h.1
  obtain ⟨h1, h2⟩ := fdiv_left x.1 (show x.2 ≠ 0 by omega)
  obtain ⟨m, hm⟩ : ∃ m, m = x.1.fdiv x.2 := ⟨_, rfl⟩
  obtain ⟨r, hr⟩ : ∃ r, r = x.1.fmod x.2 := ⟨_, rfl⟩
  rw [← hm, ← hr] at h1
  rw [← hr] at h2
  rw [← hm]
  have h3 : 0 ≤ r ∧ r < x.2 := by omega
  have e : subF x (m, 1) = lowF r x.2 := by
    unfold subF
    simp only [Int.mul_one]
    congr 1
    rw [h1, Int.mul_comm m]
    omega
  obtain ⟨h4, h5⟩ := lowF_ok (n := r) (show x.2 ≠ 0 by omega)
  rw [e]
  generalize lowF r x.2 = z at *
  have h6 := h4.1
  have h7 : 0 ≤ z.1 := by
    by_cases e : 0 ≤ z.1
    · exact e
    · exfalso
      have a1 : z.1 * x.2 < 0 := Int.mul_neg_of_neg_of_pos (by omega) hx
      have a2 : 0 ≤ r * z.2 := Int.mul_nonneg h3.1 (by omega)
      omega
  have h8 : z.1 < z.2 := by
    by_cases e : z.1 < z.2
    · exact e
    · exfalso
      have a1 : z.2 * x.2 ≤ z.1 * x.2 := Int.mul_le_mul_of_nonneg_right (by omega) (by omega)
      have a2 : r * z.2 < x.2 * z.2 := Int.mul_lt_mul_of_pos_right h3.2 h6
      rw [Int.mul_comm x.2] at a2
      omega
  unfold cmpF sgI
  simp only [Int.mul_one, Int.zero_mul, Int.sub_zero, Int.one_mul]
  constructor
  · rw [if_neg (by omega)]
    split <;> omega
  · rw [if_pos (by omega)]
    omega
end Go.Proofs.YthpknfoahimopaaGreatDoor

set_option linter.unusedVariables false
set_option linter.unusedSimpArgs false
set_option linter.unnecessarySimpa false
namespace Go.Proofs.YthpknfoahimopaaGreatDoor
open Go.RowKit

set_option maxRecDepth 100000 in
set_option maxHeartbeats 4000000 in
theorem numgcd_any {x y : Int} {v1 v2 : Value} {w : World} (h1 : NumV w v1 x) (h2 : NumV w v2 y) (hx : Few x.natAbs) (hy : Few y.natAbs) : Calls Tryz.prog 89 #[v1, v2] w (NumPost w (x.gcd y : Int)) := by
  obtain ⟨u, rfl, hu⟩ := h1
  obtain ⟨v, rfl, hv⟩ := h2
  have HC : Hid (∀ w', Below w.heap.size w w' → Calls Tryz.prog 91 #[u, v] w' (NatPost w' (x.gcd y))) := fun w' hb => ncommon_any (hu.below hb) (hv.below hb) hx hy
  obtain ⟨R, hR⟩ : ∃ R, R = x.gcd y := ⟨_, rfl⟩
  rw [← hR] at HC ⊢
  have HS : Hid (∀ (r : Value) (w' : World), NatV w' r R → Calls Tryz.prog 90 #[.bool false, r] w' fun e w2 => e = .returned (.agg #[.bool false, r]) ∧ Below w'.heap.size w' w2) := fun r w' hr => signed_any false hr
  obtain ⟨a, ha⟩ : ∃ a, a = decide (x < 0) := ⟨_, rfl⟩
  obtain ⟨b, hb⟩ : ∃ b, b = decide (y < 0) := ⟨_, rfl⟩
  rw [← ha, ← hb]
  obtain ⟨oa, ca, la, rfl, _, _⟩ := nat_len hu
  obtain ⟨ob, cb, lb, rfl, _, _⟩ := nat_len hv
  clear ha hb hu hv hx hy hR
  have HX := hide (Boxed2.start w a b (.slice oa la ca) (.slice ob lb cb))
  obtain ⟨W, hW⟩ : ∃ W, ((w.alloc (.cells #[.bool a, .slice oa la ca] 102)).alloc (.cells #[.bool b, .slice ob lb cb] 102)).alloc (.cells #[.bool false, .slice none 0 0] 102) = W := ⟨_, rfl⟩
  have HX : Hid (Boxed2 w a b (.slice oa la ca) (.slice ob lb cb) W) := by show Boxed2 _ _ _ _ _ _; rw [← hW]; exact HX.out
  have HW := hide hW
  clear hW
  go_enter Tryz.func89, Tryz.ntmps89
  go_upto_region 1 with fail
  rw [HW.out]
  obtain ⟨y0, y1, y2, y3⟩ := HX.out.cells
  go_wp2_with (first
    | (go_at_call 91; (with_reducible refine (HC.out _ HX.out.low).mono ?_); rintro ec w5 ⟨r, rfl, hr, hb5⟩; have HX5 := hide (HX.out.below hb5); obtain ⟨oc, cc, lc, hrv, _, _⟩ := nat_len hr; subst hrv; have HR5 := hide hr; clear hr hb5)
    | (go_at_call 90; (with_reducible refine (HS.out _ _ HR5.out).mono ?_); rintro ec w6 ⟨rfl, hb6⟩; have HX6 := hide (HX5.out.below hb6); have HR6 := hide (HR5.out.below hb6); obtain ⟨r0, r1, f0, f1⟩ := HX6.out.res; clear hb6))
  obtain ⟨z0, z1, hb7, hb8⟩ := HX6.out.put false (.slice oc lc cc)
  refine bodyPost_ret (v := .agg #[.bool false, .slice oc lc cc]) (by simp [results, Tryz.results89, go_sem, z0, z1]) rfl ⟨_, rfl, ?_, hb7⟩
  exact NumV.of false (HR6.out.other HX6.out.b2 hb8)
theorem NumV.other {W W' : World} {v : Value} {z : Int} {B : Nat} {d : Bool} {o : Option Addr} {l c : Nat} {t : TypeId} (h : NumV W v z) (hb : Box W B [.bool d, .slice o l c] t) (hk : ∀ k, k ≠ B → W'.heap[k]? = W.heap[k]?) : NumV W' v z := by
  obtain ⟨u, rfl, hu⟩ := h
  exact ⟨u, rfl, hu.other hb hk⟩
set_option maxRecDepth 100000 in
set_option maxHeartbeats 4000000 in
theorem numsub_any {x y : Int} {v1 v2 : Value} {w : World} (h1 : NumV w v1 x) (h2 : NumV w v2 y) (hx : Few x.natAbs) (hy : Few y.natAbs) : Calls Tryz.prog 108 #[v1, v2] w (NumPost w (x - y)) := by
  have HV1 := hide h1
  have HN : Hid (∀ w', Below w.heap.size w w' → Calls Tryz.prog 93 #[v2] w' (NumPost w' (-y))) := fun w' hb => numneg_any (h2.below hb)
  have HC : Hid (∀ w' u, Below w.heap.size w w' → NumV w' u (-y) → Calls Tryz.prog 100 #[v1, u] w' (NumPost w' (x - y))) := fun w' u hb hu => by
    have h5 := numsum_any (h1.below hb) hu hx (by rw [Int.natAbs_neg]; exact hy)
    rw [← Int.sub_eq_add_neg] at h5
    exact h5
  obtain ⟨u, rfl, hu⟩ := h1
  obtain ⟨v, rfl, hv⟩ := h2
  obtain ⟨a, ha⟩ : ∃ a, a = decide (x < 0) := ⟨_, rfl⟩
  obtain ⟨b, hb⟩ : ∃ b, b = decide (y < 0) := ⟨_, rfl⟩
  rw [← ha] at HC ⊢
  rw [← hb] at HN ⊢
  obtain ⟨oa, ca, la, rfl, _, _⟩ := nat_len hu
  obtain ⟨ob, cb, lb, rfl, _, _⟩ := nat_len hv
  clear ha hb hu hv hx hy HV1
  have HX := hide (Boxed2.start w a b (.slice oa la ca) (.slice ob lb cb))
  obtain ⟨W, hW⟩ : ∃ W, ((w.alloc (.cells #[.bool a, .slice oa la ca] 102)).alloc (.cells #[.bool b, .slice ob lb cb] 102)).alloc (.cells #[.bool false, .slice none 0 0] 102) = W := ⟨_, rfl⟩
  have HX : Hid (Boxed2 w a b (.slice oa la ca) (.slice ob lb cb) W) := by show Boxed2 _ _ _ _ _ _; rw [← hW]; exact HX.out
  have HW := hide hW
  clear hW
  go_enter Tryz.func108, Tryz.ntmps108
  go_wp2_with fail
  rw [HW.out]
  have yy := HX.out.cells
  go_region_held3 (fun w' => w'.cell? ⟨w.heap.size, 0, none⟩ = some (.bool a) ∧ w'.cell? ⟨w.heap.size, 1, none⟩ = some (.slice oa la ca) ∧ w'.cell? ⟨w.heap.size + 1, 0, none⟩ = some (.bool b) ∧ w'.cell? ⟨w.heap.size + 1, 1, none⟩ = some (.slice ob lb cb)) (first | with_reducible exact yy | with_reducible exact HX.out.draw.cells | with_reducible exact HX6.out.kept _ _) (first
    | (go_at_call 93; (with_reducible refine (HN.out _ HX.out.draw.low).mono ?_); rintro ec w5 ⟨r, rfl, hr, hb5⟩; have HX5 := hide (HX.out.draw.below hb5); have yy := HX5.out.cells; have HR5 := hide hr; clear hr hb5)
    | (go_at_call 100; (with_reducible refine (HC.out _ _ HX5.out.low HR5.out).mono ?_); rintro ec w6 ⟨r2, rfl, hr, hb6⟩; have HX6 := hide (HX5.out.below hb6); have yy := HX6.out.cells; obtain ⟨q0, q1, f0, f1⟩ := HX6.out.res; have HR7 := hide hr; obtain ⟨u9, hv9, hu9⟩ := hr; obtain ⟨o9, c9, l9, hv8, _, _⟩ := nat_len hu9; subst hv8; subst hv9; clear hb6 hu9))
  all_goals
    obtain ⟨z0, z1, hb7, hb8⟩ := HX6.out.put (decide (x - y < 0)) (.slice o9 l9 c9)
    have HB7 := hide hb7
    have HB8 := hide hb8
    clear hb7 hb8
    go_wp2_with fail
    refine bodyPost_ret (v := .agg #[.bool (decide (x - y < 0)), .slice o9 l9 c9]) (by simp [results, Tryz.results108, go_sem, z0, z1]) rfl ⟨_, rfl, ?_, HB7.out⟩
    exact HR7.out.other HX6.out.b2 HB8.out
end Go.Proofs.YthpknfoahimopaaGreatDoor

set_option linter.unusedVariables false
set_option linter.unusedSimpArgs false
set_option linter.unnecessarySimpa false
namespace Go.Proofs.YthpknfoahimopaaGreatDoor
open Go.RowKit

def Lim (z : Int) : Prop := lenI z ≤ 1024
theorem lt_len (n : Nat) : n < 10 ^ (txtN n).length := by
  have h := valT_lt (txtN_dgt n)
  rw [valT_txtN] at h
  exact h
theorem few_len {z : Int} {k : Nat} (h : lenI z ≤ k) (hk : k ≤ 1000000) : Few z.natAbs := few_of (lt_len z.natAbs) (Nat.le_trans h hk)
theorem Lim.few {z : Int} (h : Lim z) : Few z.natAbs := few_len h (by omega)
theorem few_mulK {x y : Int} {k l : Nat} (hx : lenI x ≤ k) (hy : lenI y ≤ l) (h : k + l ≤ 1000000) : Few (x * y).natAbs := by
  rw [Int.natAbs_mul]
  refine few_of (k := k + l) ?_ h
  rw [Nat.pow_add]
  exact Nat.mul_lt_mul'' (Nat.lt_of_lt_of_le (lt_len x.natAbs) (Nat.pow_le_pow_right (by omega) hx)) (Nat.lt_of_lt_of_le (lt_len y.natAbs) (Nat.pow_le_pow_right (by omega) hy))
theorem few_leK {x y z : Int} {k : Nat} (hx : lenI x ≤ k) (hy : lenI y ≤ k) (h : k + 1 ≤ 1000000) (hz : z.natAbs ≤ x.natAbs + y.natAbs) : Few z.natAbs := by
  have h1 := Nat.lt_of_lt_of_le (lt_len x.natAbs) (Nat.pow_le_pow_right (by omega) hx)
  have h2 := Nat.lt_of_lt_of_le (lt_len y.natAbs) (Nat.pow_le_pow_right (by omega) hy)
  refine few_of (k := k + 1) ?_ h
  rw [Nat.pow_succ]
  omega
theorem few_mul {x y : Int} (hx : Lim x) (hy : Lim y) : Few (x * y).natAbs := few_mulK hx hy (by omega)
theorem few_add {x y : Int} (hx : Lim x) (hy : Lim y) : Few (x + y).natAbs := few_leK hx hy (by omega) (by omega)
theorem few_sub {x y : Int} (hx : Lim x) (hy : Lim y) : Few (x - y).natAbs := few_leK hx hy (by omega) (by omega)
theorem few_gcd {x y : Int} (hx : Lim x) (hy : Lim y) : Few ((x.gcd y : Int)).natAbs := by
  by_cases h : x = 0
  · subst h
    simp
    exact hy.few
  · exact hx.few.le (by show ((x.gcd y : Nat) : Int).natAbs ≤ _; rw [Int.natAbs_natCast]; exact Nat.gcd_le_left _ (by omega))
theorem chk_lim {z : Int} (h : Lim z) : chkI (txtI z) = 0 := by
  rw [chkI_txtI, if_neg (by have : lenI z ≤ 1024 := h; unfold lenI at this; omega)]
theorem txtI_len (z : Int) : (txtI z).length ≤ lenI z + 1 := by
  unfold txtI lenI
  split <;> simp
theorem icheck_lim {z : Int} (h : Lim z) (w : World) : Calls Tryz.prog 49 #[.string (strN (txtI z))] w fun e w' => e = .returned (.int .i64 0) ∧ Below w.heap.size w w' := by
  refine (icheck_any (strN (txtI z)) ?_ w).mono ?_
  · have h1 := txtI_len z
    have h2 : lenI z ≤ 1024 := h
    show (txtI z).length ≤ _
    omega
  · rintro e w' ⟨rfl, hb⟩
    exact ⟨by rw [show (strN (txtI z)).data.toList = txtI z from by simp [strN], chk_lim h], hb⟩
theorem read_lim {z : Int} (h : Lim z) (w : World) : Calls Tryz.prog 82 #[.string (strN (txtI z))] w (NumPost w z) := read_any (by have : lenI z ≤ 1024 := h; omega)
/-- Two texts side by side. -/
def Two (w : World) (g : Nat) (s t : ByteArray) : Prop := Box w g [.string s, .string t] 22
set_option maxRecDepth 100000 in
set_option maxHeartbeats 4000000 in
theorem checked_lim {x y : Int} {g : Nat} {w : World} (h : Two w g (strN (txtI x)) (strN (txtI y))) (hx : Lim x) (hy : Lim y) : Calls Tryz.prog 94 #[.slice (some ⟨g, 0, none⟩) 2 2] w fun e w' => e = .returned (.int .i64 0) ∧ Below w.heap.size w w' := by
  have H := hide h
  have H1 : Hid (∀ w', Calls Tryz.prog 49 #[.string (strN (txtI x))] w' fun e w2 => e = .returned (.int .i64 0) ∧ Below w'.heap.size w' w2) := fun w' => icheck_lim hx w'
  have H2 : Hid (∀ w', Calls Tryz.prog 49 #[.string (strN (txtI y))] w' fun e w2 => e = .returned (.int .i64 0) ∧ Below w'.heap.size w' w2) := fun w' => icheck_lim hy w'
  clear h
  go_enter Tryz.func94, Tryz.ntmps94
  go_wp2_with fail
  go_loopg [8] 2 (fun gm iv wx => ∃ k : Nat, k ≤ 2 ∧ gm = 2 - k ∧ iv = .int .i64 k ∧ Hid (Below w.heap.size w wx))
  case atStart => exact ⟨0, by omega, by omega, rfl, Below.refl _ _⟩
  case round =>
    obtain ⟨k, hk, hgm, rfl, HB⟩ := hrel
    have HGM := hide hgm
    clear hgm
    have hbx : Box wr g [.string (strN (txtI x)), .string (strN (txtI y))] 22 := Box.below H.out HB.out
    have c0 := hbx.cell 0
    have c1 := hbx.cell 1
    simp only [List.getElem?_cons_zero, List.getElem?_cons_succ] at c0 c1
    clear hbx
    match k, hk with
    | 0, _ =>
      go_wp2_with (go_at_call 49; (with_reducible refine (H1.out _).mono ?_); rintro ec w5 ⟨rfl, hb5⟩; have HB5 : Hid (Below w.heap.size w w5) := below_then HB.out hb5; clear hb5)
      go_roundg 1
      case rel => exact ⟨1, by omega, by omega, by rfl, HB5⟩
      case measure => rw [HGM.out]; omega
    | 1, _ =>
      go_wp2_with (go_at_call 49; (with_reducible refine (H2.out _).mono ?_); rintro ec w5 ⟨rfl, hb5⟩; have HB5 : Hid (Below w.heap.size w w5) := below_then HB.out hb5; clear hb5)
      go_roundg 0
      case rel => exact ⟨2, by omega, by omega, by rfl, HB5⟩
      case measure => rw [HGM.out]; omega
    | 2, _ =>
      go_wp2_with fail
      go_ret
      exact ⟨rfl, HB.out⟩
set_option maxRecDepth 100000 in
theorem numsign_any {z : Int} {v : Value} {w : World} (h : NumV w v z) : Calls Tryz.prog 83 #[v] w fun e w' => e = .returned (.int .i64 (sgI z)) ∧ Below w.heap.size w w' := by
  obtain ⟨u, rfl, hu⟩ := h
  obtain ⟨oa, ca, la, rfl, hl, _⟩ := nat_len hu
  obtain ⟨b, hb⟩ : ∃ b, b = decide (z < 0) := ⟨_, rfl⟩
  rw [← hb]
  have HBD := hide hb
  have HL := hide hl
  clear hb hu hl
  cases b
  · have hz : ¬ z < 0 := by simpa using HBD.out.symm
    by_cases h0 : la = 0
    · have HZ : Hid (sgI z = 0) := by have h5 := HL.out.1 h0; show _ = _; unfold sgI; rw [if_neg hz, if_pos (by omega)]
      have tq : decide (0 < la) = false := by simp; omega
      clear h0 hz
      go_enter Tryz.func83, Tryz.ntmps83
      go_wp2_with fail
      go_ret
      exact ⟨by rw [HZ.out]; rfl, bnew (Below.refl _ _) _⟩
    · have HZ : Hid (sgI z = 1) := by
        have h5 := HL.out
        show _ = _
        unfold sgI
        rw [if_neg hz, if_neg]
        rintro rfl
        exact h0 (h5.2 rfl)
      have tq : decide (0 < la) = true := by simp; omega
      clear h0 hz
      go_enter Tryz.func83, Tryz.ntmps83
      go_wp2_with fail
      go_ret
      exact ⟨by rw [HZ.out]; rfl, bnew (Below.refl _ _) _⟩
  · have hz : z < 0 := by simpa using HBD.out.symm
    have HZ : Hid (sgI z = -1) := by show _ = _; unfold sgI; rw [if_pos hz]
    clear hz
    go_enter Tryz.func83, Tryz.ntmps83
    go_wp2_with fail
    go_ret
    exact ⟨by rw [HZ.out]; rfl, bnew (Below.refl _ _) _⟩
theorem isign_any {x : Int} (hx : Lim x) (w : World) : Calls Tryz.prog 42 #[.string (strN (txtI x))] w fun e w' => e = .returned (.tuple #[.int .i64 (sgI x), .int .i64 0]) ∧ Below w.heap.size w w' := by
  have H1 := hide (icheck_lim hx w)
  have H2 : Hid (∀ w', Calls Tryz.prog 82 #[.string (strN (txtI x))] w' (NumPost w' x)) := fun w' => read_lim hx w'
  go_enter Tryz.func42, Tryz.ntmps42
  go_wp2_with (first
    | (go_at_call 49; (with_reducible refine H1.out.mono ?_); rintro ec w5 ⟨rfl, hb5⟩; have HB5 := hide hb5; clear hb5)
    | (go_at_call 82; (with_reducible refine (H2.out _).mono ?_); rintro ec w6 ⟨v, rfl, hv, hb6⟩; have HB6 := hide (below_then HB5.out hb6); have HV := hide hv; clear hv hb6)
    | (go_at_call 83; (with_reducible refine (numsign_any HV.out).mono ?_); rintro ec w7 ⟨rfl, hb7⟩; have HB7 := hide (below_then HB6.out hb7); clear hb7))
  go_ret2
  exact ⟨rfl, HB7.out⟩
theorem ineg_any {x : Int} (hx : Lim x) {w : World} (ht : Tbl w) : Calls Tryz.prog 51 #[.string (strN (txtI x))] w fun e w' => e = .returned (resI (-x)) ∧ Below w.heap.size w w' := by
  have H1 := hide (icheck_lim hx w)
  have H2 : Hid (∀ w', Calls Tryz.prog 82 #[.string (strN (txtI x))] w' (NumPost w' x)) := fun w' => read_lim hx w'
  have HT := hide ht
  have HF : Hid (Few (-x).natAbs) := by rw [Int.natAbs_neg]; exact hx.few
  obtain ⟨r1, r2, hr⟩ : ∃ r1 r2, resI (-x) = .tuple #[r1, r2] := by unfold resI; split <;> exact ⟨_, _, rfl⟩
  have HR : Hid (∀ v w', NumV w' v (-x) → Below w.heap.size w w' → Calls Tryz.prog 92 #[v] w' fun e w2 => e = .returned (.tuple #[r1, r2]) ∧ Below w'.heap.size w' w2) := fun v w' hv hb => by rw [← hr]; exact result_any hv HF.out (ht.below hb)
  rw [hr]
  clear ht hr
  go_enter Tryz.func51, Tryz.ntmps51
  go_wp2_with (first
    | (go_at_call 49; (with_reducible refine H1.out.mono ?_); rintro ec w5 ⟨rfl, hb5⟩; have HB5 := hide hb5; clear hb5)
    | (go_at_call 82; (with_reducible refine (H2.out _).mono ?_); rintro ec w6 ⟨v, rfl, hv, hb6⟩; have HB6 := hide (below_then HB5.out hb6); have HV := hide hv; clear hv hb6)
    | (go_at_call 93; (with_reducible refine (numneg_any HV.out).mono ?_); rintro ec w7 ⟨v2, rfl, hv, hb7⟩; have HB7 := hide (below_then HB6.out hb7); have HV2 := hide hv; clear hv hb7)
    | (go_at_call 92; (with_reducible refine (HR.out _ _ HV2.out HB7.out).mono ?_); rintro ec w8 ⟨rfl, hb8⟩; have HB8 := hide (below_then HB7.out hb8); clear hb8))
  go_ret2
  exact ⟨rfl, HB8.out⟩
theorem iof_any {n : Int} (hn : I64 n) {w : World} (ht : Tbl w) : Calls Tryz.prog 43 #[.int .i64 n] w fun e w' => e = .returned (.string (strN (txtI n))) ∧ Below w.heap.size w w' := by
  have H1 := hide (itoa_any hn.1 hn.2 ht)
  go_enter Tryz.func43, Tryz.ntmps43
  go_wp2_with (go_at_call 84; (with_reducible refine H1.out.mono ?_); rintro ec w5 ⟨rfl, hb5⟩; have HB5 := hide hb5; clear hb5)
  go_ret
  exact ⟨rfl, HB5.out⟩
set_option maxRecDepth 100000 in
set_option maxHeartbeats 4000000 in
theorem both_mul {x y : Int} (hx : Lim x) (hy : Lim y) {w : World} (ht : Tbl w) : Calls Tryz.prog 85 #[.string (strN (txtI x)), .string (strN (txtI y)), .func (.func 86) #[] #[]] w fun e w' => e = .returned (resI (x * y)) ∧ Below w.heap.size w w' := by
  have HTW : Hid (Two (w.alloc (.cells #[.string (strN (txtI x)), .string (strN (txtI y))] 22)) w.heap.size (strN (txtI x)) (strN (txtI y))) := Box.new w _ _
  have HB0 : Hid (Below w.heap.size w (w.alloc (.cells #[.string (strN (txtI x)), .string (strN (txtI y))] 22))) := bnew (Below.refl _ _) _
  have H1 := hide (checked_lim HTW.out hx hy)
  have HX : Hid (∀ w', Calls Tryz.prog 82 #[.string (strN (txtI x))] w' (NumPost w' x)) := fun w' => read_lim hx w'
  have HY : Hid (∀ w', Calls Tryz.prog 82 #[.string (strN (txtI y))] w' (NumPost w' y)) := fun w' => read_lim hy w'
  have HOP : Hid (∀ v u w', NumV w' v x → NumV w' u y → Calls Tryz.prog 86 #[v, u] w' (NumPost w' (x * y))) := fun v u w' h1 h2 => numprod_any h1 h2 hx.few hy.few
  have HF : Hid (Few (x * y).natAbs) := few_mul hx hy
  obtain ⟨r1, r2, hr⟩ : ∃ r1 r2, resI (x * y) = .tuple #[r1, r2] := by unfold resI; split <;> exact ⟨_, _, rfl⟩
  have HR : Hid (∀ v w', NumV w' v (x * y) → Below w.heap.size w w' → Calls Tryz.prog 92 #[v] w' fun e w2 => e = .returned (.tuple #[r1, r2]) ∧ Below w'.heap.size w' w2) := fun v w' hv hb => by rw [← hr]; exact result_any hv HF.out (ht.below hb)
  rw [hr]
  clear ht hr hx hy
  go_enter Tryz.func85, Tryz.ntmps85
  go_wp2_with (first
    | (go_at_call 94; (with_reducible refine H1.out.mono ?_); rintro ec w5 ⟨rfl, hb5⟩; have HB5 := hide (below_then HB0.out hb5); clear hb5)
    | (go_at_call 82; have _t := HB5; (with_reducible refine (HX.out _).mono ?_); rintro ec w6 ⟨v, rfl, hv, hb6⟩; have HB6 := hide (below_then HB5.out hb6); have HV := hide hv; have HBX := HB5; clear HB5 hv hb6 _t)
    | (go_at_call 82; (with_reducible refine (HY.out _).mono ?_); rintro ec w7 ⟨u, rfl, hv, hb7⟩; have HB7 := hide (below_then HB6.out hb7); have HU := hide hv; have HV := hide (HV.out.below hb7); clear hv hb7)
    | (go_at_call 86; (with_reducible refine (HOP.out _ _ _ HV.out HU.out).mono ?_); rintro ec w8 ⟨v2, rfl, hv, hb8⟩; have HB8 := hide (below_then HB7.out hb8); have HV2 := hide hv; clear hv hb8)
    | (go_at_call 92; (with_reducible refine (HR.out _ _ HV2.out HB8.out).mono ?_); rintro ec w9 ⟨rfl, hb9⟩; have HB9 := hide (below_then HB8.out hb9); clear hb9))
  go_ret2
  exact ⟨rfl, HB9.out⟩
theorem imul_any {x y : Int} (hx : Lim x) (hy : Lim y) {w : World} (ht : Tbl w) : Calls Tryz.prog 44 #[.string (strN (txtI x)), .string (strN (txtI y))] w fun e w' => e = .returned (resI (x * y)) ∧ Below w.heap.size w w' := by
  have H1 := hide (both_mul hx hy ht)
  obtain ⟨r1, r2, hr⟩ : ∃ r1 r2, resI (x * y) = .tuple #[r1, r2] := by unfold resI; split <;> exact ⟨_, _, rfl⟩
  rw [hr] at H1 ⊢
  clear hr
  go_enter Tryz.func44, Tryz.ntmps44
  go_wp2_with (go_at_call 85; (with_reducible refine H1.out.mono ?_); rintro ec w5 ⟨rfl, hb5⟩; have HB5 := hide hb5; clear hb5)
  go_ret2
  exact ⟨rfl, HB5.out⟩
set_option maxRecDepth 100000 in
set_option maxHeartbeats 4000000 in
theorem both_add {x y : Int} (hx : Lim x) (hy : Lim y) {w : World} (ht : Tbl w) : Calls Tryz.prog 85 #[.string (strN (txtI x)), .string (strN (txtI y)), .func (.func 100) #[] #[]] w fun e w' => e = .returned (resI (x + y)) ∧ Below w.heap.size w w' := by
  have HTW : Hid (Two (w.alloc (.cells #[.string (strN (txtI x)), .string (strN (txtI y))] 22)) w.heap.size (strN (txtI x)) (strN (txtI y))) := Box.new w _ _
  have HB0 : Hid (Below w.heap.size w (w.alloc (.cells #[.string (strN (txtI x)), .string (strN (txtI y))] 22))) := bnew (Below.refl _ _) _
  have H1 := hide (checked_lim HTW.out hx hy)
  have HX : Hid (∀ w', Calls Tryz.prog 82 #[.string (strN (txtI x))] w' (NumPost w' x)) := fun w' => read_lim hx w'
  have HY : Hid (∀ w', Calls Tryz.prog 82 #[.string (strN (txtI y))] w' (NumPost w' y)) := fun w' => read_lim hy w'
  have HOP : Hid (∀ v u w', NumV w' v x → NumV w' u y → Calls Tryz.prog 100 #[v, u] w' (NumPost w' (x + y))) := fun v u w' h1 h2 => numsum_any h1 h2 hx.few hy.few
  have HF : Hid (Few (x + y).natAbs) := few_add hx hy
  obtain ⟨r1, r2, hr⟩ : ∃ r1 r2, resI (x + y) = .tuple #[r1, r2] := by unfold resI; split <;> exact ⟨_, _, rfl⟩
  have HR : Hid (∀ v w', NumV w' v (x + y) → Below w.heap.size w w' → Calls Tryz.prog 92 #[v] w' fun e w2 => e = .returned (.tuple #[r1, r2]) ∧ Below w'.heap.size w' w2) := fun v w' hv hb => by rw [← hr]; exact result_any hv HF.out (ht.below hb)
  rw [hr]
  clear ht hr hx hy
  go_enter Tryz.func85, Tryz.ntmps85
  go_wp2_with (first
    | (go_at_call 94; (with_reducible refine H1.out.mono ?_); rintro ec w5 ⟨rfl, hb5⟩; have HB5 := hide (below_then HB0.out hb5); clear hb5)
    | (go_at_call 82; have _t := HB5; (with_reducible refine (HX.out _).mono ?_); rintro ec w6 ⟨v, rfl, hv, hb6⟩; have HB6 := hide (below_then HB5.out hb6); have HV := hide hv; have HBX := HB5; clear HB5 hv hb6 _t)
    | (go_at_call 82; (with_reducible refine (HY.out _).mono ?_); rintro ec w7 ⟨u, rfl, hv, hb7⟩; have HB7 := hide (below_then HB6.out hb7); have HU := hide hv; have HV := hide (HV.out.below hb7); clear hv hb7)
    | (go_at_call 100; (with_reducible refine (HOP.out _ _ _ HV.out HU.out).mono ?_); rintro ec w8 ⟨v2, rfl, hv, hb8⟩; have HB8 := hide (below_then HB7.out hb8); have HV2 := hide hv; clear hv hb8)
    | (go_at_call 92; (with_reducible refine (HR.out _ _ HV2.out HB8.out).mono ?_); rintro ec w9 ⟨rfl, hb9⟩; have HB9 := hide (below_then HB8.out hb9); clear hb9))
  go_ret2
  exact ⟨rfl, HB9.out⟩
theorem iadd_any {x y : Int} (hx : Lim x) (hy : Lim y) {w : World} (ht : Tbl w) : Calls Tryz.prog 59 #[.string (strN (txtI x)), .string (strN (txtI y))] w fun e w' => e = .returned (resI (x + y)) ∧ Below w.heap.size w w' := by
  have H1 := hide (both_add hx hy ht)
  obtain ⟨r1, r2, hr⟩ : ∃ r1 r2, resI (x + y) = .tuple #[r1, r2] := by unfold resI; split <;> exact ⟨_, _, rfl⟩
  rw [hr] at H1 ⊢
  clear hr
  go_enter Tryz.func59, Tryz.ntmps59
  go_wp2_with (go_at_call 85; (with_reducible refine H1.out.mono ?_); rintro ec w5 ⟨rfl, hb5⟩; have HB5 := hide hb5; clear hb5)
  go_ret2
  exact ⟨rfl, HB5.out⟩
set_option maxRecDepth 100000 in
set_option maxHeartbeats 4000000 in
theorem both_sub {x y : Int} (hx : Lim x) (hy : Lim y) {w : World} (ht : Tbl w) : Calls Tryz.prog 85 #[.string (strN (txtI x)), .string (strN (txtI y)), .func (.func 108) #[] #[]] w fun e w' => e = .returned (resI (x - y)) ∧ Below w.heap.size w w' := by
  have HTW : Hid (Two (w.alloc (.cells #[.string (strN (txtI x)), .string (strN (txtI y))] 22)) w.heap.size (strN (txtI x)) (strN (txtI y))) := Box.new w _ _
  have HB0 : Hid (Below w.heap.size w (w.alloc (.cells #[.string (strN (txtI x)), .string (strN (txtI y))] 22))) := bnew (Below.refl _ _) _
  have H1 := hide (checked_lim HTW.out hx hy)
  have HX : Hid (∀ w', Calls Tryz.prog 82 #[.string (strN (txtI x))] w' (NumPost w' x)) := fun w' => read_lim hx w'
  have HY : Hid (∀ w', Calls Tryz.prog 82 #[.string (strN (txtI y))] w' (NumPost w' y)) := fun w' => read_lim hy w'
  have HOP : Hid (∀ v u w', NumV w' v x → NumV w' u y → Calls Tryz.prog 108 #[v, u] w' (NumPost w' (x - y))) := fun v u w' h1 h2 => numsub_any h1 h2 hx.few hy.few
  have HF : Hid (Few (x - y).natAbs) := few_sub hx hy
  obtain ⟨r1, r2, hr⟩ : ∃ r1 r2, resI (x - y) = .tuple #[r1, r2] := by unfold resI; split <;> exact ⟨_, _, rfl⟩
  have HR : Hid (∀ v w', NumV w' v (x - y) → Below w.heap.size w w' → Calls Tryz.prog 92 #[v] w' fun e w2 => e = .returned (.tuple #[r1, r2]) ∧ Below w'.heap.size w' w2) := fun v w' hv hb => by rw [← hr]; exact result_any hv HF.out (ht.below hb)
  rw [hr]
  clear ht hr hx hy
  go_enter Tryz.func85, Tryz.ntmps85
  go_wp2_with (first
    | (go_at_call 94; (with_reducible refine H1.out.mono ?_); rintro ec w5 ⟨rfl, hb5⟩; have HB5 := hide (below_then HB0.out hb5); clear hb5)
    | (go_at_call 82; have _t := HB5; (with_reducible refine (HX.out _).mono ?_); rintro ec w6 ⟨v, rfl, hv, hb6⟩; have HB6 := hide (below_then HB5.out hb6); have HV := hide hv; have HBX := HB5; clear HB5 hv hb6 _t)
    | (go_at_call 82; (with_reducible refine (HY.out _).mono ?_); rintro ec w7 ⟨u, rfl, hv, hb7⟩; have HB7 := hide (below_then HB6.out hb7); have HU := hide hv; have HV := hide (HV.out.below hb7); clear hv hb7)
    | (go_at_call 108; (with_reducible refine (HOP.out _ _ _ HV.out HU.out).mono ?_); rintro ec w8 ⟨v2, rfl, hv, hb8⟩; have HB8 := hide (below_then HB7.out hb8); have HV2 := hide hv; clear hv hb8)
    | (go_at_call 92; (with_reducible refine (HR.out _ _ HV2.out HB8.out).mono ?_); rintro ec w9 ⟨rfl, hb9⟩; have HB9 := hide (below_then HB8.out hb9); clear hb9))
  go_ret2
  exact ⟨rfl, HB9.out⟩
theorem isub_any {x y : Int} (hx : Lim x) (hy : Lim y) {w : World} (ht : Tbl w) : Calls Tryz.prog 72 #[.string (strN (txtI x)), .string (strN (txtI y))] w fun e w' => e = .returned (resI (x - y)) ∧ Below w.heap.size w w' := by
  have H1 := hide (both_sub hx hy ht)
  obtain ⟨r1, r2, hr⟩ : ∃ r1 r2, resI (x - y) = .tuple #[r1, r2] := by unfold resI; split <;> exact ⟨_, _, rfl⟩
  rw [hr] at H1 ⊢
  clear hr
  go_enter Tryz.func72, Tryz.ntmps72
  go_wp2_with (go_at_call 85; (with_reducible refine H1.out.mono ?_); rintro ec w5 ⟨rfl, hb5⟩; have HB5 := hide hb5; clear hb5)
  go_ret2
  exact ⟨rfl, HB5.out⟩
set_option maxRecDepth 100000 in
set_option maxHeartbeats 4000000 in
theorem both_gcd {x y : Int} (hx : Lim x) (hy : Lim y) {w : World} (ht : Tbl w) : Calls Tryz.prog 85 #[.string (strN (txtI x)), .string (strN (txtI y)), .func (.func 89) #[] #[]] w fun e w' => e = .returned (resI ((x.gcd y : Int))) ∧ Below w.heap.size w w' := by
  have HTW : Hid (Two (w.alloc (.cells #[.string (strN (txtI x)), .string (strN (txtI y))] 22)) w.heap.size (strN (txtI x)) (strN (txtI y))) := Box.new w _ _
  have HB0 : Hid (Below w.heap.size w (w.alloc (.cells #[.string (strN (txtI x)), .string (strN (txtI y))] 22))) := bnew (Below.refl _ _) _
  have H1 := hide (checked_lim HTW.out hx hy)
  have HX : Hid (∀ w', Calls Tryz.prog 82 #[.string (strN (txtI x))] w' (NumPost w' x)) := fun w' => read_lim hx w'
  have HY : Hid (∀ w', Calls Tryz.prog 82 #[.string (strN (txtI y))] w' (NumPost w' y)) := fun w' => read_lim hy w'
  have HOP : Hid (∀ v u w', NumV w' v x → NumV w' u y → Calls Tryz.prog 89 #[v, u] w' (NumPost w' ((x.gcd y : Int)))) := fun v u w' h1 h2 => numgcd_any h1 h2 hx.few hy.few
  have HF : Hid (Few ((x.gcd y : Int)).natAbs) := few_gcd hx hy
  obtain ⟨r1, r2, hr⟩ : ∃ r1 r2, resI ((x.gcd y : Int)) = .tuple #[r1, r2] := by unfold resI; split <;> exact ⟨_, _, rfl⟩
  have HR : Hid (∀ v w', NumV w' v ((x.gcd y : Int)) → Below w.heap.size w w' → Calls Tryz.prog 92 #[v] w' fun e w2 => e = .returned (.tuple #[r1, r2]) ∧ Below w'.heap.size w' w2) := fun v w' hv hb => by rw [← hr]; exact result_any hv HF.out (ht.below hb)
  rw [hr]
  clear ht hr hx hy
  go_enter Tryz.func85, Tryz.ntmps85
  go_wp2_with (first
    | (go_at_call 94; (with_reducible refine H1.out.mono ?_); rintro ec w5 ⟨rfl, hb5⟩; have HB5 := hide (below_then HB0.out hb5); clear hb5)
    | (go_at_call 82; have _t := HB5; (with_reducible refine (HX.out _).mono ?_); rintro ec w6 ⟨v, rfl, hv, hb6⟩; have HB6 := hide (below_then HB5.out hb6); have HV := hide hv; have HBX := HB5; clear HB5 hv hb6 _t)
    | (go_at_call 82; (with_reducible refine (HY.out _).mono ?_); rintro ec w7 ⟨u, rfl, hv, hb7⟩; have HB7 := hide (below_then HB6.out hb7); have HU := hide hv; have HV := hide (HV.out.below hb7); clear hv hb7)
    | (go_at_call 89; (with_reducible refine (HOP.out _ _ _ HV.out HU.out).mono ?_); rintro ec w8 ⟨v2, rfl, hv, hb8⟩; have HB8 := hide (below_then HB7.out hb8); have HV2 := hide hv; clear hv hb8)
    | (go_at_call 92; (with_reducible refine (HR.out _ _ HV2.out HB8.out).mono ?_); rintro ec w9 ⟨rfl, hb9⟩; have HB9 := hide (below_then HB8.out hb9); clear hb9))
  go_ret2
  exact ⟨rfl, HB9.out⟩
theorem igcd_any {x y : Int} (hx : Lim x) (hy : Lim y) {w : World} (ht : Tbl w) : Calls Tryz.prog 50 #[.string (strN (txtI x)), .string (strN (txtI y))] w fun e w' => e = .returned (resI ((x.gcd y : Int))) ∧ Below w.heap.size w w' := by
  have H1 := hide (both_gcd hx hy ht)
  obtain ⟨r1, r2, hr⟩ : ∃ r1 r2, resI ((x.gcd y : Int)) = .tuple #[r1, r2] := by unfold resI; split <;> exact ⟨_, _, rfl⟩
  rw [hr] at H1 ⊢
  clear hr
  go_enter Tryz.func50, Tryz.ntmps50
  go_wp2_with (go_at_call 85; (with_reducible refine H1.out.mono ?_); rintro ec w5 ⟨rfl, hb5⟩; have HB5 := hide hb5; clear hb5)
  go_ret2
  exact ⟨rfl, HB5.out⟩
end Go.Proofs.YthpknfoahimopaaGreatDoor

set_option linter.unusedVariables false
set_option linter.unusedSimpArgs false
set_option linter.unnecessarySimpa false
namespace Go.Proofs.YthpknfoahimopaaGreatDoor
open Go.RowKit

set_option maxRecDepth 100000 in
set_option maxHeartbeats 4000000 in
theorem icompare_any {x y : Int} (hx : Lim x) (hy : Lim y) {w : World} : Calls Tryz.prog 80 #[.string (strN (txtI x)), .string (strN (txtI y))] w fun e w' => e = .returned (.tuple #[.int .i64 (sgI (x - y)), .int .i64 0]) ∧ Below w.heap.size w w' := by
  have HTW : Hid (Two (w.alloc (.cells #[.string (strN (txtI x)), .string (strN (txtI y))] 22)) w.heap.size (strN (txtI x)) (strN (txtI y))) := Box.new w _ _
  have HB0 : Hid (Below w.heap.size w (w.alloc (.cells #[.string (strN (txtI x)), .string (strN (txtI y))] 22))) := bnew (Below.refl _ _) _
  have H1 := hide (checked_lim HTW.out hx hy)
  have HX : Hid (∀ w', Calls Tryz.prog 82 #[.string (strN (txtI x))] w' (NumPost w' x)) := fun w' => read_lim hx w'
  have HY : Hid (∀ w', Calls Tryz.prog 82 #[.string (strN (txtI y))] w' (NumPost w' y)) := fun w' => read_lim hy w'
  have HOP : Hid (∀ v u w', NumV w' v x → NumV w' u (-y) → Calls Tryz.prog 100 #[v, u] w' (NumPost w' (x - y))) := fun v u w' h1 h2 => by
    have h5 := numsum_any h1 h2 hx.few (by rw [Int.natAbs_neg]; exact hy.few)
    rw [← Int.sub_eq_add_neg] at h5
    exact h5
  clear hx hy
  go_enter Tryz.func80, Tryz.ntmps80
  go_wp2_with (first
    | (go_at_call 94; (with_reducible refine H1.out.mono ?_); rintro ec w5 ⟨rfl, hb5⟩; have HB5 := hide (below_then HB0.out hb5); clear hb5)
    | (go_at_call 82; have _t := HB5; (with_reducible refine (HX.out _).mono ?_); rintro ec w6 ⟨v, rfl, hv, hb6⟩; have HB6 := hide (below_then HB5.out hb6); have HV := hide hv; have HBX := HB5; clear HB5 hv hb6 _t)
    | (go_at_call 82; (with_reducible refine (HY.out _).mono ?_); rintro ec w7 ⟨u, rfl, hv, hb7⟩; have HB7 := hide (below_then HB6.out hb7); have HU := hide hv; have HV := hide (HV.out.below hb7); clear hv hb7)
    | (go_at_call 93; (with_reducible refine (numneg_any HU.out).mono ?_); rintro ec w8 ⟨u2, rfl, hv, hb8⟩; have HB8 := hide (below_then HB7.out hb8); have HU2 := hide hv; have HV := hide (HV.out.below hb8); clear hv hb8)
    | (go_at_call 100; (with_reducible refine (HOP.out _ _ _ HV.out HU2.out).mono ?_); rintro ec w9 ⟨v2, rfl, hv, hb9⟩; have HB9 := hide (below_then HB8.out hb9); have HV2 := hide hv; clear hv hb9)
    | (go_at_call 83; (with_reducible refine (numsign_any HV2.out).mono ?_); rintro ec w10 ⟨rfl, hb10⟩; have HB10 := hide (below_then HB9.out hb10); clear hb10))
  go_ret2
  exact ⟨rfl, HB10.out⟩
theorem few_fdiv {x y : Int} (hx : Lim x) : Few (x.fdiv y).natAbs := by
  have h : (x.fdiv y).natAbs ≤ x.natAbs + 1 := by
    by_cases hy : y = 0
    · subst hy; simp
    · have h1 : y.natAbs ≠ 0 := by omega
      by_cases hs : decide (x < 0) = decide (y < 0) ∨ x.natAbs % y.natAbs = 0
      · have h5 := (down1 hy hs).1
        rw [← h5]
        have h6 : x.natAbs / y.natAbs ≤ x.natAbs := Nat.div_le_self _ _
        generalize x.natAbs / y.natAbs = q at *
        unfold sgZ
        split <;> omega
      · have h5 := (down2 hy (fun e => hs (.inl e)) (fun e => hs (.inr e))).1
        rw [← h5]
        have h6 : x.natAbs / y.natAbs ≤ x.natAbs := Nat.div_le_self _ _
        generalize x.natAbs / y.natAbs = q at *
        unfold sgZ
        rw [if_pos rfl]
        omega
  have h1 : lenI 1 ≤ 1024 := Nat.le_trans (txtN_len9 (d := 1) (by omega)) (by omega)
  exact few_leK (x := x) (y := 1) hx h1 (by omega) h
theorem numdown_any {x y : Int} {v1 v2 : Value} {w : World} (h1 : NumV w v1 x) (h2 : NumV w v2 y) (hx : Few x.natAbs) (hy : Few y.natAbs) (hy0 : y ≠ 0) : Calls Tryz.prog 95 #[v1, v2] w (DownPost w (x.fdiv y) (x.fmod y)) := by
  by_cases hab : decide (x < 0) = decide (y < 0)
  · exact numdown_near h1 h2 hx hy hy0 hab
  · by_cases h0 : x.natAbs % y.natAbs = 0
    · exact numdown_exact h1 h2 hx hy hy0 ⟨hab, h0⟩
    · exact numdown_far h1 h2 hx hy hy0 ⟨hab, h0⟩
theorem strN_inj {l m : List UInt8} (h : strN l = strN m) : l = m := by
  have := congrArg (fun s : ByteArray => s.data.toList) h
  simpa [strN] using this
theorem strN_toList (l : List UInt8) : (strN l).toList = l := by rw [ByteArray.toList_eq]; simp [strN]
theorem ba_beq (a b : ByteArray) : (a == b) = (a.data == b.data) := by cases a; cases b; rfl
theorem m_of_beq {x y : Int} (h : (strN (txtI x) == strN (txtI y)) = true) : txtI x = txtI y := by
  rw [ba_beq] at h
  have h5 := eq_of_beq h
  exact strN_inj (congrArg ByteArray.mk h5)
set_option maxRecDepth 100000 in
set_option maxHeartbeats 4000000 in
theorem iquo_any {x y : Int} (hx : Lim x) (hy : Lim y) (hy0 : y ≠ 0) {w : World} (ht : Tbl w) : Calls Tryz.prog 52 #[.string (strN (txtI x)), .string (strN (txtI y))] w fun e w' => e = .returned (resI (x.fdiv y)) ∧ Below w.heap.size w w' := by
  have HTW : Hid (Two (w.alloc (.cells #[.string (strN (txtI x)), .string (strN (txtI y))] 22)) w.heap.size (strN (txtI x)) (strN (txtI y))) := Box.new w _ _
  have HB0 : Hid (Below w.heap.size w (w.alloc (.cells #[.string (strN (txtI x)), .string (strN (txtI y))] 22))) := bnew (Below.refl _ _) _
  have H1 := hide (checked_lim HTW.out hx hy)
  have HX : Hid (∀ w', Calls Tryz.prog 82 #[.string (strN (txtI x))] w' (NumPost w' x)) := fun w' => read_lim hx w'
  have HY : Hid (∀ w', Calls Tryz.prog 82 #[.string (strN (txtI y))] w' (NumPost w' y)) := fun w' => read_lim hy w'
  have HOP : Hid (∀ v u w', NumV w' v x → NumV w' u y → Calls Tryz.prog 95 #[v, u] w' (DownPost w' (x.fdiv y) (x.fmod y))) := fun v u w' h1 h2 => numdown_any h1 h2 hx.few hy.few hy0
  have HF : Hid (Few (x.fdiv y).natAbs) := few_fdiv hx
  obtain ⟨r1, r2, hr⟩ : ∃ r1 r2, resI (x.fdiv y) = .tuple #[r1, r2] := by unfold resI; split <;> exact ⟨_, _, rfl⟩
  have HR : Hid (∀ v w', NumV w' v (x.fdiv y) → Below w.heap.size w w' → Calls Tryz.prog 92 #[v] w' fun e w2 => e = .returned (.tuple #[r1, r2]) ∧ Below w'.heap.size w' w2) := fun v w' hv hb => by rw [← hr]; exact result_any hv HF.out (ht.below hb)
  rw [hr]
  have tq : ((strN (txtI y)).toList == [48]) = false := by
    rw [strN_toList, Bool.eq_false_iff]
    intro h
    exact hy0 (txtI_inj (y := 0) (eq_of_beq h))
  clear ht hr hx hy hy0
  go_enter Tryz.func52, Tryz.ntmps52
  go_wp2_with (first
    | (go_at_call 94; (with_reducible refine H1.out.mono ?_); rintro ec w5 ⟨rfl, hb5⟩; have HB5 := hide (below_then HB0.out hb5); clear hb5)
    | (go_at_call 82; have _t := HB5; (with_reducible refine (HX.out _).mono ?_); rintro ec w6 ⟨v, rfl, hv, hb6⟩; have HB6 := hide (below_then HB5.out hb6); have HV := hide hv; have HBX := HB5; clear HB5 hv hb6 _t)
    | (go_at_call 82; (with_reducible refine (HY.out _).mono ?_); rintro ec w7 ⟨u, rfl, hv, hb7⟩; have HB7 := hide (below_then HB6.out hb7); have HU := hide hv; have HV := hide (HV.out.below hb7); clear hv hb7)
    | (go_at_call 95; (with_reducible refine (HOP.out _ _ _ HV.out HU.out).mono ?_); rintro ec w8 ⟨q, r, rfl, hq, hr, hb8⟩; have HB8 := hide (below_then HB7.out hb8); have HQ := hide hq; obtain ⟨uq, hq1, hq2⟩ := hq; obtain ⟨ur, hr1, hr2⟩ := hr; obtain ⟨oq, cq, lq, hqv, _, _⟩ := nat_len hq2; obtain ⟨orr, crr, lr, hrv, _, _⟩ := nat_len hr2; subst hqv; subst hrv; subst hq1; subst hr1; obtain ⟨dq, hdq⟩ : ∃ dq, dq = decide (x.fdiv y < 0) := ⟨_, rfl⟩; obtain ⟨dr, hdr⟩ : ∃ dr, dr = decide (x.fmod y < 0) := ⟨_, rfl⟩; rw [← hdq] at HQ; simp only [← hdq, ← hdr]; have HW9 : Hid (Below w8.heap.size w8 ((w8.alloc (.cells #[.bool dq, .slice oq lq cq] 102)).alloc (.cells #[.bool dr, .slice orr lr crr] 102))) := bnew (bnew (Below.refl _ _) _) _; clear hq2 hr2 hb8 hdq hdr)
    | (go_at_call 92; (with_reducible refine (HR.out _ _ (HQ.out.below HW9.out) (below_then HB8.out HW9.out)).mono ?_); rintro ec w10 ⟨rfl, hb10⟩; have HB10 := hide (below_then (below_then HB8.out HW9.out) hb10); clear hb10))
  go_ret2
  exact ⟨rfl, HB10.out⟩
end Go.Proofs.YthpknfoahimopaaGreatDoor

set_option linter.unusedVariables false
set_option linter.unusedSimpArgs false
set_option linter.unnecessarySimpa false
namespace Go.Proofs.YthpknfoahimopaaGreatDoor
open Go.RowKit

/-- The error of a fraction with two texts. -/
def chkF (l m : List UInt8) : Int := if chkI l ≠ 0 then chkI l else if chkI m ≠ 0 then chkI m else if 0 < readI m ∧ (readI l).gcd (readI m) = 1 then 0 else 3
/-- The first error of two. -/
def errOr (e1 e2 : Int) : Int := if e1 ≠ 0 then e1 else e2
/-- The error of two numbers as a fraction. -/
def frE (p q : Int) : Int := if 0 < q ∧ p.gcd q = 1 then 0 else 3
theorem txtN_mono {a b : Nat} (h : a ≤ b) : (txtN a).length ≤ (txtN b).length := by
  by_cases h0 : a = 0
  · subst h0
    exact txtN_len_pos b
  · rw [txtN_len h0]
    exact digB_len_le (by omega) (Nat.lt_of_le_of_lt h (lt_len b))
theorem txtI_one : txtI 1 = [49] := by
  have h := txtN_val (c := 49) (l := []) (by intro x hx; rw [List.mem_singleton] at hx; subst hx; unfold isDgt; decide) (.inr rfl)
  rw [show valT [49] = 1 from by decide] at h
  unfold txtI
  rw [if_neg (by omega)]
  exact h
theorem Lim.mono {a b : Int} (hb : Lim b) (h : a.natAbs ≤ b.natAbs) : Lim a := Nat.le_trans (txtN_mono h) hb
theorem lim_gcd {x y : Int} (hx : Lim x) (hy : Lim y) : Lim (x.gcd y : Int) := by
  by_cases h : x = 0
  · subst h
    exact hy.mono (by simp)
  · exact hx.mono (by rw [Int.natAbs_natCast]; exact Nat.gcd_le_left _ (by omega))
theorem resI_lim {z : Int} (h : Lim z) : resI z = .tuple #[.string (strN (txtI z)), .int .i64 0] := by
  unfold resI
  rw [if_neg (by have : lenI z ≤ 1024 := h; omega)]
theorem lim_of_chk {s : ByteArray} (h : chkI s.data.toList = 0) : ∃ z, s = strN (txtI z) ∧ Lim z := by
  obtain ⟨z, h1, h2⟩ := chkI_ok h
  refine ⟨z, ?_, h2⟩
  rw [← h1]
  cases s
  rfl
theorem chkI_ne (s : ByteArray) {w : World} (hs : s.size ≤ 140737488355328) {e : Int} (he : chkI s.data.toList = e) : Calls Tryz.prog 49 #[.string s] w fun e' w' => e' = .returned (.int .i64 e) ∧ Below w.heap.size w w' := by
  rw [← he]
  exact icheck_any s hs w
theorem chkI_vals (l : List UInt8) : chkI l = 0 ∨ chkI l = 3 ∨ chkI l = 11 := by
  unfold chkI
  split
  · split
    · exact .inr (.inr rfl)
    · exact .inl rfl
  · exact .inr (.inl rfl)
set_option maxRecDepth 100000 in
set_option maxHeartbeats 4000000 in
theorem fcheck_bad (s t : ByteArray) {e1 e2 : Int} {w : World} (hs : s.size ≤ 140737488355328) (ht : t.size ≤ 140737488355328) (h1 : chkI s.data.toList = e1) (h2 : chkI t.data.toList = e2) (hb : e1 ≠ 0 ∨ e2 ≠ 0) :
    Calls Tryz.prog 25 #[.agg #[.string s, .string t]] w fun e w' => e = .returned (.int .i64 (errOr e1 e2)) ∧ Below w.heap.size w w' := by
  have H1 : Hid (∀ w', Calls Tryz.prog 49 #[.string s] w' fun e w2 => e = .returned (.int .i64 e1) ∧ Below w'.heap.size w' w2) := fun w' => chkI_ne s hs h1
  have H2 : Hid (∀ w', Calls Tryz.prog 49 #[.string t] w' fun e w2 => e = .returned (.int .i64 e2) ∧ Below w'.heap.size w' w2) := fun w' => chkI_ne t ht h2
  have hbx : Box ((w.alloc (.cells #[.string s, .string t] 26)).alloc (.cells #[.string s, .string t] 22)) (w.heap.size + 1) [.string s, .string t] 22 := by
    have h5 := Box.new (w.alloc (.cells #[.string s, .string t] 26)) [.string s, .string t] 22
    rw [World.size_alloc] at h5
    exact h5
  have HBX := hide hbx
  have HB0 : Hid (Below w.heap.size w ((w.alloc (.cells #[.string s, .string t] 26)).alloc (.cells #[.string s, .string t] 22))) := bnew (bnew (Below.refl _ _) _) _
  have HBAD := hide hb
  clear h1 h2 hs ht hbx hb
  go_enter Tryz.func25, Tryz.ntmps25
  go_wp2_with fail
  generalize hW : (w.alloc (.cells #[.string s, .string t] 26)).alloc (.cells #[.string s, .string t] 22) = W at *
  have HW := hide hW
  clear hW
  go_loopg [4, 5, 16] 2 (fun gm s4 s5 iv wx => ∃ k : Nat, k ≤ 2 ∧ gm = 2 - k ∧ iv = .int .i64 k ∧ Hid (0 < k → e1 = 0) ∧ Hid (1 < k → e2 = 0) ∧ Hid (Below W.heap.size W wx))
  case atStart => exact ⟨0, by omega, by omega, rfl, (fun h => absurd h (by omega)), (fun h => absurd h (by omega)), Below.refl _ _⟩
  case round =>
    obtain ⟨k, hk, hgm, rfl, HE1, HE2, HB⟩ := hrel
    have HGM := hide hgm
    clear hgm
    have hbx : Box wr (w.heap.size + 1) [.string s, .string t] 22 := HBX.out.below HB.out
    have c0 := hbx.cell 0
    have c1 := hbx.cell 1
    simp only [List.getElem?_cons_zero, List.getElem?_cons_succ] at c0 c1
    clear hbx
    match k, hk with
    | 0, _ =>
      by_cases h : e1 = 0
      · have HEZ := hide h
        have tq : (e1 != 0) = false := by simp [h]
        clear h
        go_wp2_with (go_at_call 49; (with_reducible refine (H1.out _).mono ?_); rintro ec w5 ⟨rfl, hb5⟩; have HB5 : Hid (Below W.heap.size W w5) := below_then HB.out hb5; clear hb5)
        go_roundg 1
        case rel => exact ⟨1, by omega, by omega, by rfl, (fun _ => HEZ.out), (fun h => absurd h (by omega)), HB5⟩
        case measure => rw [HGM.out]; omega
      · have tq : (e1 != 0) = true := by simpa using h
        have HRE : Hid (errOr e1 e2 = e1) := if_pos h
        clear h
        go_wp2_with (go_at_call 49; (with_reducible refine (H1.out _).mono ?_); rintro ec w5 ⟨rfl, hb5⟩; have HB5 : Hid (Below W.heap.size W w5) := below_then HB.out hb5; clear hb5)
        go_ret
        exact ⟨by rw [HRE.out]; rfl, below_then HB0.out HB5.out⟩
    | 1, _ =>
      have h0 : e1 = 0 := HE1.out (by omega)
      by_cases h : e2 = 0
      · exact absurd h0 (by rcases HBAD.out with h5 | h5; exact h5; exact absurd h h5)
      · have tq : (e2 != 0) = true := by simpa using h
        have HRE : Hid (errOr e1 e2 = e2) := by show errOr e1 e2 = e2; unfold errOr; rw [h0, if_neg (by simp)]
        clear h h0
        go_wp2_with (go_at_call 49; (with_reducible refine (H2.out _).mono ?_); rintro ec w5 ⟨rfl, hb5⟩; have HB5 : Hid (Below W.heap.size W w5) := below_then HB.out hb5; clear hb5)
        go_ret
        exact ⟨by rw [HRE.out]; rfl, below_then HB0.out HB5.out⟩
    | 2, _ =>
      exfalso
      rcases HBAD.out with h5 | h5
      · exact h5 (HE1.out (by omega))
      · exact h5 (HE2.out (by omega))
set_option maxRecDepth 100000 in
set_option maxHeartbeats 4000000 in
theorem fcheck_ok {p q : Int} (hp : Lim p) (hq : Lim q) {w : World} (ht : Tbl w) : Calls Tryz.prog 25 #[.agg #[.string (strN (txtI p)), .string (strN (txtI q))]] w fun e w' => e = .returned (.int .i64 (frE p q)) ∧ Below w.heap.size w w' := by
  have H1 : Hid (∀ w', Calls Tryz.prog 49 #[.string (strN (txtI p))] w' fun e w2 => e = .returned (.int .i64 0) ∧ Below w'.heap.size w' w2) := fun w' => icheck_lim hp w'
  have H2 : Hid (∀ w', Calls Tryz.prog 49 #[.string (strN (txtI q))] w' fun e w2 => e = .returned (.int .i64 0) ∧ Below w'.heap.size w' w2) := fun w' => icheck_lim hq w'
  have HSI : Hid (∀ w', Calls Tryz.prog 42 #[.string (strN (txtI q))] w' fun e w2 => e = .returned (.tuple #[.int .i64 (sgI q), .int .i64 0]) ∧ Below w'.heap.size w' w2) := fun w' => isign_any hq w'
  have HG : Hid (∀ w', Below w.heap.size w w' → Calls Tryz.prog 50 #[.string (strN (txtI p)), .string (strN (txtI q))] w' fun e w2 => e = .returned (.tuple #[.string (strN (txtI (p.gcd q : Int))), .int .i64 0]) ∧ Below w'.heap.size w' w2) := fun w' hb => by
    have h5 := igcd_any hp hq (ht.below hb)
    rw [resI_lim (lim_gcd hp hq)] at h5
    exact h5
  obtain ⟨s, hs⟩ : ∃ s, s = strN (txtI p) := ⟨_, rfl⟩
  obtain ⟨t, htt⟩ : ∃ t, t = strN (txtI q) := ⟨_, rfl⟩
  rw [← hs] at H1 HG
  rw [← htt] at H2 HSI HG
  rw [← hs, ← htt]
  have hbx : Box ((w.alloc (.cells #[.string s, .string t] 26)).alloc (.cells #[.string s, .string t] 22)) (w.heap.size + 1) [.string s, .string t] 22 := by
    have h5 := Box.new (w.alloc (.cells #[.string s, .string t] 26)) [.string s, .string t] 22
    rw [World.size_alloc] at h5
    exact h5
  have HBX := hide hbx
  have HBF : Hid (Box ((w.alloc (.cells #[.string s, .string t] 26)).alloc (.cells #[.string s, .string t] 22)) w.heap.size [.string s, .string t] 26) := (Box.new w _ _).next _
  have HB0 : Hid (Below w.heap.size w ((w.alloc (.cells #[.string s, .string t] 26)).alloc (.cells #[.string s, .string t] 22))) := bnew (bnew (Below.refl _ _) _) _
  obtain ⟨sg, hsg⟩ : ∃ sg, sg = sgI q := ⟨_, rfl⟩
  rw [← hsg] at HSI
  obtain ⟨gs, hgs⟩ : ∃ gs, gs = strN (txtI (p.gcd q : Int)) := ⟨_, rfl⟩
  rw [← hgs] at HG
  have HSG := hide hsg
  have HGS := hide hgs
  clear hbx hs htt hp hq ht hsg hgs
  go_enter Tryz.func25, Tryz.ntmps25
  go_wp2_with fail
  generalize hW : (w.alloc (.cells #[.string s, .string t] 26)).alloc (.cells #[.string s, .string t] 22) = W at *
  have HW := hide hW
  clear hW
  go_loopg [4, 5, 16] 2 (fun gm s4 s5 iv wx => ∃ k : Nat, k ≤ 2 ∧ gm = 2 - k ∧ iv = .int .i64 k ∧ Hid (Below W.heap.size W wx))
  case atStart => exact ⟨0, by omega, by omega, rfl, Below.refl _ _⟩
  case round =>
    obtain ⟨k, hk, hgm, rfl, HB⟩ := hrel
    have HGM := hide hgm
    clear hgm
    have hbx : Box wr (w.heap.size + 1) [.string s, .string t] 22 := HBX.out.below HB.out
    have c0 := hbx.cell 0
    have c1 := hbx.cell 1
    simp only [List.getElem?_cons_zero, List.getElem?_cons_succ] at c0 c1
    clear hbx
    match k, hk with
    | 0, _ =>
      go_wp2_with (go_at_call 49; (with_reducible refine (H1.out _).mono ?_); rintro ec w5 ⟨rfl, hb5⟩; have HB5 : Hid (Below W.heap.size W w5) := below_then HB.out hb5; clear hb5)
      go_roundg 1
      case rel => exact ⟨1, by omega, by omega, by rfl, HB5⟩
      case measure => rw [HGM.out]; omega
    | 1, _ =>
      go_wp2_with (go_at_call 49; (with_reducible refine (H2.out _).mono ?_); rintro ec w5 ⟨rfl, hb5⟩; have HB5 : Hid (Below W.heap.size W w5) := below_then HB.out hb5; clear hb5)
      go_roundg 0
      case rel => exact ⟨2, by omega, by omega, by rfl, HB5⟩
      case measure => rw [HGM.out]; omega
    | 2, _ =>
      have HBR := hide (below_then HB0.out HB.out)
      have hbf : Box wr w.heap.size [.string s, .string t] 26 := HBF.out.below HB.out
      have d0 := hbf.cell 0
      have d1 := hbf.cell 1
      simp only [List.getElem?_cons_zero, List.getElem?_cons_succ] at d0 d1
      have HBFR := hide hbf
      clear hbf c0 c1
      by_cases hq0 : 0 < q
      · have hsg1 : sg = 1 := by rw [HSG.out]; unfold sgI; rw [if_neg (by omega), if_neg (by omega)]
        subst hsg1
        have HSG1 := HSG
        by_cases hg : p.gcd q = 1
        · have HR : Hid (frE p q = 0) := if_pos ⟨hq0, hg⟩
          have tg : (gs.toList == [49]) = true := by rw [HGS.out, strN_toList, hg]; exact beq_iff_eq.2 txtI_one
          clear hg hq0
          go_wp2_with (first
            | (go_at_call 42; (with_reducible refine (HSI.out _).mono ?_); rintro ec w6 ⟨rfl, hb6⟩; have HB6 := hide (below_then HBR.out hb6); have d0 := (HBFR.out.below hb6).cell 0; have d1 := (HBFR.out.below hb6).cell 1; simp only [List.getElem?_cons_zero, List.getElem?_cons_succ] at d0 d1; clear hb6)
            | (go_at_call 50; (with_reducible refine (HG.out _ HB6.out).mono ?_); rintro ec w7 ⟨rfl, hb7⟩; have HB7 := hide (below_then HB6.out hb7); clear hb7))
          go_ret
          exact ⟨by rw [HR.out]; rfl, HB7.out⟩
        · have HR : Hid (frE p q = 3) := if_neg (fun h => hg h.2)
          have tg : (gs.toList == [49]) = false := by
            rw [HGS.out, strN_toList, Bool.eq_false_iff]
            intro h
            have h5 := txtI_inj (x := (p.gcd q : Int)) (y := 1) ((eq_of_beq h).trans txtI_one.symm)
            exact hg (by omega)
          clear hg hq0
          go_wp2_with (first
            | (go_at_call 42; (with_reducible refine (HSI.out _).mono ?_); rintro ec w6 ⟨rfl, hb6⟩; have HB6 := hide (below_then HBR.out hb6); have d0 := (HBFR.out.below hb6).cell 0; have d1 := (HBFR.out.below hb6).cell 1; simp only [List.getElem?_cons_zero, List.getElem?_cons_succ] at d0 d1; clear hb6)
            | (go_at_call 50; (with_reducible refine (HG.out _ HB6.out).mono ?_); rintro ec w7 ⟨rfl, hb7⟩; have HB7 := hide (below_then HB6.out hb7); clear hb7))
          go_ret
          exact ⟨by rw [HR.out]; rfl, HB7.out⟩
      · have HR : Hid (frE p q = 3) := if_neg (fun h => hq0 h.1)
        have hsg1 : sg ≤ 0 := by rw [HSG.out]; unfold sgI; split; omega; split <;> omega
        have tg : decide (sg ≤ 0) = true := by simpa using hsg1
        clear hq0
        go_wp2_with (go_at_call 42; (with_reducible refine (HSI.out _).mono ?_); rintro ec w6 ⟨rfl, hb6⟩; have HB6 := hide (below_then HBR.out hb6); clear hb6)
        go_ret
        exact ⟨by rw [HR.out]; rfl, HB6.out⟩
theorem fcheck_any (s t : ByteArray) (hs : s.size ≤ 140737488355328) (ht : t.size ≤ 140737488355328) {w : World} (htb : Tbl w) : Calls Tryz.prog 25 #[.agg #[.string s, .string t]] w fun e w' => e = .returned (.int .i64 (chkF s.data.toList t.data.toList)) ∧ Below w.heap.size w w' := by
  by_cases h1 : chkI s.data.toList = 0
  · by_cases h2 : chkI t.data.toList = 0
    · obtain ⟨p, rfl, hp⟩ := lim_of_chk h1
      obtain ⟨q, rfl, hq⟩ := lim_of_chk h2
      have h5 := fcheck_ok hp hq htb
      have e : chkF (strN (txtI p)).data.toList (strN (txtI q)).data.toList = frE p q := by
        unfold chkF
        rw [h1, h2, show (strN (txtI p)).data.toList = txtI p from by simp [strN], show (strN (txtI q)).data.toList = txtI q from by simp [strN], readI_txtI, readI_txtI]
        rfl
      rw [e]
      exact h5
    · have h5 := fcheck_bad s t (w := w) hs ht h1 rfl (.inr h2)
      have e : chkF s.data.toList t.data.toList = chkI t.data.toList := by
        unfold chkF
        rw [h1, if_neg (by simp), if_pos h2]
      rw [show errOr (0 : Int) (chkI t.data.toList) = chkI t.data.toList from if_neg (by simp)] at h5
      rw [e]
      exact h5
  · have h5 := fcheck_bad s t (w := w) hs ht rfl rfl (.inl h1)
    have e : chkF s.data.toList t.data.toList = chkI s.data.toList := by
      unfold chkF
      rw [if_pos h1]
    rw [show errOr (chkI s.data.toList) (chkI t.data.toList) = chkI s.data.toList from if_pos h1] at h5
    rw [e]
    exact h5
end Go.Proofs.YthpknfoahimopaaGreatDoor

set_option linter.unusedVariables false
set_option linter.unusedSimpArgs false
set_option linter.unnecessarySimpa false
namespace Go.Proofs.YthpknfoahimopaaGreatDoor
open Go.RowKit

theorem fdiv_abs_le {x y : Int} (hy : y ≠ 0) : (x.fdiv y).natAbs ≤ x.natAbs := by
  have h1 : 0 < y.natAbs := by omega
  have h6 : x.natAbs / y.natAbs ≤ x.natAbs := Nat.div_le_self _ _
  by_cases hs : decide (x < 0) = decide (y < 0) ∨ x.natAbs % y.natAbs = 0
  · have h5 := (down1 hy hs).1
    rw [← h5]
    generalize x.natAbs / y.natAbs = q at *
    unfold sgZ
    split <;> omega
  · have h0 : x.natAbs % y.natAbs ≠ 0 := fun e => hs (.inr e)
    have h5 := (down2 hy (fun e => hs (.inl e)) h0).1
    rw [← h5]
    have h2 : y.natAbs ≠ 1 := fun e => h0 (by rw [e, Nat.mod_one])
    have h3 : x.natAbs ≠ 0 := fun e => h0 (by rw [e, Nat.zero_mod])
    have h7 : x.natAbs / y.natAbs < x.natAbs := Nat.div_lt_self (by omega) (by omega)
    generalize x.natAbs / y.natAbs = q at *
    unfold sgZ
    rw [if_pos rfl]
    omega
theorem lim_fdiv {x : Int} (hx : Lim x) {y : Int} (hy : y ≠ 0) : Lim (x.fdiv y) := hx.mono (fdiv_abs_le hy)
theorem lim_neg {x : Int} (hx : Lim x) : Lim (-x) := hx.mono (by omega)
theorem txtI_ne0 {z : Int} (h : z ≠ 0) : ((strN (txtI z)).toList == [48]) = false := by
  rw [strN_toList, Bool.eq_false_iff]
  intro e
  refine h (txtI_inj (x := z) (y := 0) ((eq_of_beq e).trans ?_))
  rfl
theorem txtI_first (z : Int) : ∃ h : 0 < (strN (txtI z)).size, ((((strN (txtI z))[0]'h).toNat : Int) == 45) = decide (z < 0) := by
  obtain ⟨c, r, e, hc⟩ : ∃ c r, txtI z = c :: r ∧ (c = 45 ↔ z < 0) := by
    unfold txtI
    by_cases h : z < 0
    · rw [if_pos h]
      exact ⟨45, _, rfl, by simp [h]⟩
    · rw [if_neg h]
      cases e : txtN z.natAbs with
      | nil => exact absurd e (txtN_ne _)
      | cons c r =>
        refine ⟨c, r, rfl, ?_⟩
        constructor
        · rintro rfl
          exact absurd e (txtN_head _)
        · exact fun h5 => absurd h5 h
  rw [e]
  refine ⟨Nat.succ_pos _, ?_⟩
  show ((c.toNat : Int) == 45) = _
  by_cases h : z < 0
  · have := hc.2 h
    subst this
    simp [h]
  · have hn : c ≠ 45 := fun e => h (hc.1 e)
    rw [decide_eq_false h, Bool.eq_false_iff]
    intro e5
    have h6 := eq_of_beq e5
    exact hn (UInt8.toNat_inj.1 (by show c.toNat = 45; omega))
/-- A fraction as a value. -/
def fracV (x : Int × Int) : Value := .agg #[.string (strN (txtI x.1)), .string (strN (txtI x.2))]
set_option maxRecDepth 100000 in
set_option maxHeartbeats 4000000 in
theorem fmake_pos {p q : Int} (hp : Lim p) (hq : Lim q) (h0 : 0 < q) {w : World} (ht : Tbl w) : Calls Tryz.prog 12 #[.string (strN (txtI p)), .string (strN (txtI q))] w fun e w' => e = .returned (.tuple #[fracV (lowF p q), .int .i64 0]) ∧ Below w.heap.size w w' := by
  have H1 : Hid (∀ w', Calls Tryz.prog 49 #[.string (strN (txtI p))] w' fun e w2 => e = .returned (.int .i64 0) ∧ Below w'.heap.size w' w2) := fun w' => icheck_lim hp w'
  have H2 : Hid (∀ w', Calls Tryz.prog 49 #[.string (strN (txtI q))] w' fun e w2 => e = .returned (.int .i64 0) ∧ Below w'.heap.size w' w2) := fun w' => icheck_lim hq w'
  obtain ⟨g, hg⟩ : ∃ g : Int, g = p.gcd q := ⟨_, rfl⟩
  have hgl : Lim g := by rw [hg]; exact lim_gcd hp hq
  have hg0 : 0 < g := by rw [hg]; have := Int.gcd_pos_of_ne_zero_right p (b := q) (by omega); omega
  have hl : lowF p q = (p.fdiv g, q.fdiv g) := by unfold lowF lowG; rw [if_neg (by omega), ← hg]
  have HG : Hid (∀ w', Below w.heap.size w w' → Calls Tryz.prog 50 #[.string (strN (txtI p)), .string (strN (txtI q))] w' fun e w2 => e = .returned (.tuple #[.string (strN (txtI g)), .int .i64 0]) ∧ Below w'.heap.size w' w2) := fun w' hb => by
    have h5 := igcd_any hp hq (ht.below hb)
    rw [← hg, resI_lim hgl] at h5
    exact h5
  have HQ1 : Hid (∀ w', Below w.heap.size w w' → Calls Tryz.prog 52 #[.string (strN (txtI p)), .string (strN (txtI g))] w' fun e w2 => e = .returned (.tuple #[.string (strN (txtI (p.fdiv g))), .int .i64 0]) ∧ Below w'.heap.size w' w2) := fun w' hb => by
    have h5 := iquo_any hp hgl (by omega) (ht.below hb)
    rw [resI_lim (lim_fdiv hp (by omega))] at h5
    exact h5
  have HQ2 : Hid (∀ w', Below w.heap.size w w' → Calls Tryz.prog 52 #[.string (strN (txtI q)), .string (strN (txtI g))] w' fun e w2 => e = .returned (.tuple #[.string (strN (txtI (q.fdiv g))), .int .i64 0]) ∧ Below w'.heap.size w' w2) := fun w' hb => by
    have h5 := iquo_any hq hgl (by omega) (ht.below hb)
    rw [resI_lim (lim_fdiv hq (by omega))] at h5
    exact h5
  have tz : ((strN (txtI q)).toList == [48]) = false := txtI_ne0 (by omega)
  have hfb := txtI_first q
  rw [decide_eq_false (by omega)] at hfb
  unfold fracV
  rw [hl]
  obtain ⟨s, hs⟩ : ∃ s, s = strN (txtI p) := ⟨_, rfl⟩
  obtain ⟨t, htt⟩ : ∃ t, t = strN (txtI q) := ⟨_, rfl⟩
  rw [← hs] at H1 HG HQ1
  rw [← htt] at H2 HG HQ2 tz hfb
  rw [← hs, ← htt]
  have HTT := hide htt
  obtain ⟨gs, hgs⟩ : ∃ gs, gs = strN (txtI g) := ⟨_, rfl⟩
  rw [← hgs] at HG HQ1 HQ2
  obtain ⟨n, hn⟩ : ∃ n, n = strN (txtI (p.fdiv g)) := ⟨_, rfl⟩
  obtain ⟨d, hd⟩ : ∃ d, d = strN (txtI (q.fdiv g)) := ⟨_, rfl⟩
  rw [← hn] at HQ1 ⊢
  rw [← hd] at HQ2 ⊢
  clear hs htt hgs hn hd hl hg0 hgl hg h0 ht hp hq
  obtain ⟨tsz, tm⟩ := hfb
  have HB0 : Hid (Below w.heap.size w ((w.alloc (.cells #[.string ⟨#[]⟩, .string ⟨#[]⟩] 26)).alloc (.cells #[.string s, .string t] 22))) := bnew (bnew (Below.refl _ _) _) _
  have hbx : Box ((w.alloc (.cells #[.string ⟨#[]⟩, .string ⟨#[]⟩] 26)).alloc (.cells #[.string s, .string t] 22)) (w.heap.size + 1) [.string s, .string t] 22 := by
    have h5 := Box.new (w.alloc (.cells #[.string ⟨#[]⟩, .string ⟨#[]⟩] 26)) [.string s, .string t] 22
    rw [World.size_alloc] at h5
    exact h5
  have HBX := hide hbx
  have HBF : Hid (Box ((w.alloc (.cells #[.string ⟨#[]⟩, .string ⟨#[]⟩] 26)).alloc (.cells #[.string s, .string t] 22)) w.heap.size [.string ⟨#[]⟩, .string ⟨#[]⟩] 26) := (Box.new w _ _).next _
  clear hbx
  go_enter Tryz.func12, Tryz.ntmps12
  go_wp2_with fail
  generalize hW : (w.alloc (.cells #[.string ⟨#[]⟩, .string ⟨#[]⟩] 26)).alloc (.cells #[.string s, .string t] 22) = W at *
  have HW := hide hW
  clear hW
  go_loopg [7, 8, 16] 2 (fun gm s7 s8 iv wx => ∃ k : Nat, k ≤ 2 ∧ gm = 2 - k ∧ iv = .int .i64 k ∧ Hid (Below W.heap.size W wx))
  case atStart => exact ⟨0, by omega, by omega, rfl, Below.refl _ _⟩
  case round =>
    obtain ⟨k, hk, hgm, rfl, HB⟩ := hrel
    have HGM := hide hgm
    clear hgm
    have hbx : Box wr (w.heap.size + 1) [.string s, .string t] 22 := HBX.out.below HB.out
    have c0 := hbx.cell 0
    have c1 := hbx.cell 1
    simp only [List.getElem?_cons_zero, List.getElem?_cons_succ] at c0 c1
    clear hbx
    match k, hk with
    | 0, _ =>
      go_wp2_with (go_at_call 49; (with_reducible refine (H1.out _).mono ?_); rintro ec w5 ⟨rfl, hb5⟩; have HB5 : Hid (Below W.heap.size W w5) := below_then HB.out hb5; clear hb5)
      go_roundg 1
      case rel => exact ⟨1, by omega, by omega, by rfl, HB5⟩
      case measure => rw [HGM.out]; omega
    | 1, _ =>
      go_wp2_with (go_at_call 49; (with_reducible refine (H2.out _).mono ?_); rintro ec w5 ⟨rfl, hb5⟩; have HB5 : Hid (Below W.heap.size W w5) := below_then HB.out hb5; clear hb5)
      go_roundg 0
      case rel => exact ⟨2, by omega, by omega, by rfl, HB5⟩
      case measure => rw [HGM.out]; omega
    | 2, _ =>
      have HBR := hide (below_then HB0.out HB.out)
      have hbf : Box wr w.heap.size [.string ⟨#[]⟩, .string ⟨#[]⟩] 26 := HBF.out.below HB.out
      have HBFR := hide hbf
      clear hbf c0 c1
      go_wp2_with (first
        | (go_at_call 50; (with_reducible refine (HG.out _ HBR.out).mono ?_); rintro ec w6 ⟨rfl, hb6⟩; have HB6 := hide (below_then HBR.out hb6); have HBF6 := hide (HBFR.out.below hb6); have HLT := hide HBF6.out.lt; have HB6A := hide (bnew HB6.out (.cells #[.string ⟨#[]⟩, .string ⟨#[]⟩] 26)); have HBF6A := hide (HBF6.out.below (bnew (Below.refl _ _) (.cells #[.string ⟨#[]⟩, .string ⟨#[]⟩] 26))); have HO6 := hide (Box.new w6 [.string ⟨#[]⟩, .string ⟨#[]⟩] 26); clear hb6)
        | (go_at_call 52; have _t := HB6A; (with_reducible refine (HQ1.out _ HB6A.out).mono ?_); rintro ec w7 ⟨rfl, hb7⟩; have HB7 := hide (below_then HB6A.out hb7); have HBF7 := hide (HBF6A.out.below hb7); have HO7 := hide (HO6.out.below hb7); have e0 := HO7.out.cell 0; have f0 := HO7.out.free 0; simp only [List.getElem?_cons_zero, List.getElem?_cons_succ] at e0; have HS7 : Hid (Below w.heap.size w (w7.setCell ⟨w6.heap.size, 0, none⟩ (.string n))) := (HB7.out.setCell (by exact Nat.le_of_lt HLT.out) _); clear HB6A hb7 _t)
        | (go_at_call 52; (with_reducible refine (HQ2.out _ HS7.out).mono ?_); rintro ec w8 ⟨rfl, hb8⟩; have HB8 := hide (below_then HS7.out hb8); have HBF8 := hide ((HBF7.out.other (p := ⟨w6.heap.size, 0, none⟩) (by exact Nat.ne_of_lt HLT.out) (.string n)).below hb8); have HO8 := hide ((HO7.out.put 0 (.string n)).below hb8); have e1 := HO8.out.cell 1; have f1 := HO8.out.free 1; simp only [List.set, List.getElem?_cons_zero, List.getElem?_cons_succ] at e1; have g0 := (HO8.out.put 1 (.string d)).cell 0; have g1 := (HO8.out.put 1 (.string d)).cell 1; simp only [List.set, List.getElem?_cons_zero, List.getElem?_cons_succ] at g0 g1; have HBF9 := hide (HBF8.out.other (p := ⟨w6.heap.size, 1, none⟩) (by exact Nat.ne_of_lt HLT.out) (.string d)); have k0 := HBF9.out.free 0; have k1 := HBF9.out.free 1; have h0 := HBF9.out.cell 0; have h1 := HBF9.out.cell 1; simp only [List.getElem?_cons_zero, List.getElem?_cons_succ] at h0 h1; have j0 := ((HBF9.out.put 0 (.string n)).put 1 (.string d)).cell 0; have j1 := ((HBF9.out.put 0 (.string n)).put 1 (.string d)).cell 1; simp only [List.set, List.getElem?_cons_zero, List.getElem?_cons_succ] at j0 j1; clear hb8))
      refine bodyPost_ret (v := .tuple #[.agg #[.string n, .string d], .int .i64 0]) (by simp [results, Tryz.results12, go_sem, j0, j1]) rfl ⟨rfl, ?_⟩
      exact (((HB8.out.setCell (by exact Nat.le_of_lt HLT.out) _).setCell (Nat.le_refl _) _).setCell (Nat.le_refl _) _)
set_option maxRecDepth 100000 in
set_option maxHeartbeats 4000000 in
theorem fmake_neg {p q : Int} (hp : Lim p) (hq : Lim q) (h0 : q < 0) {w : World} (ht : Tbl w) : Calls Tryz.prog 12 #[.string (strN (txtI p)), .string (strN (txtI q))] w fun e w' => e = .returned (.tuple #[fracV (lowF p q), .int .i64 0]) ∧ Below w.heap.size w w' := by
  have H1 : Hid (∀ w', Calls Tryz.prog 49 #[.string (strN (txtI p))] w' fun e w2 => e = .returned (.int .i64 0) ∧ Below w'.heap.size w' w2) := fun w' => icheck_lim hp w'
  have H2 : Hid (∀ w', Calls Tryz.prog 49 #[.string (strN (txtI q))] w' fun e w2 => e = .returned (.int .i64 0) ∧ Below w'.heap.size w' w2) := fun w' => icheck_lim hq w'
  obtain ⟨g, hg⟩ : ∃ g : Int, g = p.gcd q := ⟨_, rfl⟩
  have hgl : Lim g := by rw [hg]; exact lim_gcd hp hq
  have hg0 : 0 < g := by rw [hg]; have := Int.gcd_pos_of_ne_zero_right p (b := q) (by omega); omega
  have hl : lowF p q = (p.fdiv (-g), q.fdiv (-g)) := by unfold lowF lowG; rw [if_pos h0, ← hg]
  have HG : Hid (∀ w', Below w.heap.size w w' → Calls Tryz.prog 50 #[.string (strN (txtI p)), .string (strN (txtI q))] w' fun e w2 => e = .returned (.tuple #[.string (strN (txtI g)), .int .i64 0]) ∧ Below w'.heap.size w' w2) := fun w' hb => by
    have h5 := igcd_any hp hq (ht.below hb)
    rw [← hg, resI_lim hgl] at h5
    exact h5
  have HN : Hid (∀ w', Below w.heap.size w w' → Calls Tryz.prog 51 #[.string (strN (txtI g))] w' fun e w2 => e = .returned (.tuple #[.string (strN (txtI (-g))), .int .i64 0]) ∧ Below w'.heap.size w' w2) := fun w' hb => by
    have h5 := ineg_any hgl (ht.below hb)
    rw [resI_lim (lim_neg hgl)] at h5
    exact h5
  have HQ1 : Hid (∀ w', Below w.heap.size w w' → Calls Tryz.prog 52 #[.string (strN (txtI p)), .string (strN (txtI (-g)))] w' fun e w2 => e = .returned (.tuple #[.string (strN (txtI (p.fdiv (-g)))), .int .i64 0]) ∧ Below w'.heap.size w' w2) := fun w' hb => by
    have h5 := iquo_any hp (lim_neg hgl) (by omega) (ht.below hb)
    rw [resI_lim (lim_fdiv hp (by omega))] at h5
    exact h5
  have HQ2 : Hid (∀ w', Below w.heap.size w w' → Calls Tryz.prog 52 #[.string (strN (txtI q)), .string (strN (txtI (-g)))] w' fun e w2 => e = .returned (.tuple #[.string (strN (txtI (q.fdiv (-g)))), .int .i64 0]) ∧ Below w'.heap.size w' w2) := fun w' hb => by
    have h5 := iquo_any hq (lim_neg hgl) (by omega) (ht.below hb)
    rw [resI_lim (lim_fdiv hq (by omega))] at h5
    exact h5
  have tz : ((strN (txtI q)).toList == [48]) = false := txtI_ne0 (by omega)
  have hfb := txtI_first q
  rw [decide_eq_true h0] at hfb
  unfold fracV
  rw [hl]
  obtain ⟨s, hs⟩ : ∃ s, s = strN (txtI p) := ⟨_, rfl⟩
  obtain ⟨t, htt⟩ : ∃ t, t = strN (txtI q) := ⟨_, rfl⟩
  rw [← hs] at H1 HG HQ1
  rw [← htt] at H2 HG HQ2 tz hfb
  rw [← hs, ← htt]
  have HTT := hide htt
  obtain ⟨gs, hgs⟩ : ∃ gs, gs = strN (txtI g) := ⟨_, rfl⟩
  obtain ⟨gm, hgm⟩ : ∃ gm, gm = strN (txtI (-g)) := ⟨_, rfl⟩
  rw [← hgs] at HG HN
  rw [← hgm] at HN HQ1 HQ2
  obtain ⟨n, hn⟩ : ∃ n, n = strN (txtI (p.fdiv (-g))) := ⟨_, rfl⟩
  obtain ⟨d, hd⟩ : ∃ d, d = strN (txtI (q.fdiv (-g))) := ⟨_, rfl⟩
  rw [← hn] at HQ1 ⊢
  rw [← hd] at HQ2 ⊢
  clear hs htt hgs hgm hn hd hl hg0 hgl hg h0 ht hp hq
  obtain ⟨tsz, tm⟩ := hfb
  have HB0 : Hid (Below w.heap.size w ((w.alloc (.cells #[.string ⟨#[]⟩, .string ⟨#[]⟩] 26)).alloc (.cells #[.string s, .string t] 22))) := bnew (bnew (Below.refl _ _) _) _
  have hbx : Box ((w.alloc (.cells #[.string ⟨#[]⟩, .string ⟨#[]⟩] 26)).alloc (.cells #[.string s, .string t] 22)) (w.heap.size + 1) [.string s, .string t] 22 := by
    have h5 := Box.new (w.alloc (.cells #[.string ⟨#[]⟩, .string ⟨#[]⟩] 26)) [.string s, .string t] 22
    rw [World.size_alloc] at h5
    exact h5
  have HBX := hide hbx
  have HBF : Hid (Box ((w.alloc (.cells #[.string ⟨#[]⟩, .string ⟨#[]⟩] 26)).alloc (.cells #[.string s, .string t] 22)) w.heap.size [.string ⟨#[]⟩, .string ⟨#[]⟩] 26) := (Box.new w _ _).next _
  clear hbx
  go_enter Tryz.func12, Tryz.ntmps12
  go_wp2_with fail
  generalize hW : (w.alloc (.cells #[.string ⟨#[]⟩, .string ⟨#[]⟩] 26)).alloc (.cells #[.string s, .string t] 22) = W at *
  have HW := hide hW
  clear hW
  go_loopg [7, 8, 16] 2 (fun gm s7 s8 iv wx => ∃ k : Nat, k ≤ 2 ∧ gm = 2 - k ∧ iv = .int .i64 k ∧ Hid (Below W.heap.size W wx))
  case atStart => exact ⟨0, by omega, by omega, rfl, Below.refl _ _⟩
  case round =>
    obtain ⟨k, hk, hgm, rfl, HB⟩ := hrel
    have HGM := hide hgm
    clear hgm
    have hbx : Box wr (w.heap.size + 1) [.string s, .string t] 22 := HBX.out.below HB.out
    have c0 := hbx.cell 0
    have c1 := hbx.cell 1
    simp only [List.getElem?_cons_zero, List.getElem?_cons_succ] at c0 c1
    clear hbx
    match k, hk with
    | 0, _ =>
      go_wp2_with (go_at_call 49; (with_reducible refine (H1.out _).mono ?_); rintro ec w5 ⟨rfl, hb5⟩; have HB5 : Hid (Below W.heap.size W w5) := below_then HB.out hb5; clear hb5)
      go_roundg 1
      case rel => exact ⟨1, by omega, by omega, by rfl, HB5⟩
      case measure => rw [HGM.out]; omega
    | 1, _ =>
      go_wp2_with (go_at_call 49; (with_reducible refine (H2.out _).mono ?_); rintro ec w5 ⟨rfl, hb5⟩; have HB5 : Hid (Below W.heap.size W w5) := below_then HB.out hb5; clear hb5)
      go_roundg 0
      case rel => exact ⟨2, by omega, by omega, by rfl, HB5⟩
      case measure => rw [HGM.out]; omega
    | 2, _ =>
      have HBR := hide (below_then HB0.out HB.out)
      have hbf : Box wr w.heap.size [.string ⟨#[]⟩, .string ⟨#[]⟩] 26 := HBF.out.below HB.out
      have HBFR := hide hbf
      clear hbf c0 c1
      go_wp2_with (first
        | (go_at_call 50; (with_reducible refine (HG.out _ HBR.out).mono ?_); rintro ec w5 ⟨rfl, hb5⟩; have HB5 := hide (below_then HBR.out hb5); have HBF5 := hide (HBFR.out.below hb5); clear hb5)
        | (go_at_call 51; (with_reducible refine (HN.out _ HB5.out).mono ?_); rintro ec w6 ⟨rfl, hb6⟩; have HB6 := hide (below_then HB5.out hb6); have HBF6 := hide (HBF5.out.below hb6); have HLT := hide HBF6.out.lt; have HB6A := hide (bnew HB6.out (.cells #[.string ⟨#[]⟩, .string ⟨#[]⟩] 26)); have HBF6A := hide (HBF6.out.below (bnew (Below.refl _ _) (.cells #[.string ⟨#[]⟩, .string ⟨#[]⟩] 26))); have HO6 := hide (Box.new w6 [.string ⟨#[]⟩, .string ⟨#[]⟩] 26); clear hb6)
        | (go_at_call 52; have _t := HB6A; (with_reducible refine (HQ1.out _ HB6A.out).mono ?_); rintro ec w7 ⟨rfl, hb7⟩; have HB7 := hide (below_then HB6A.out hb7); have HBF7 := hide (HBF6A.out.below hb7); have HO7 := hide (HO6.out.below hb7); have e0 := HO7.out.cell 0; have f0 := HO7.out.free 0; simp only [List.getElem?_cons_zero, List.getElem?_cons_succ] at e0; have HS7 : Hid (Below w.heap.size w (w7.setCell ⟨w6.heap.size, 0, none⟩ (.string n))) := (HB7.out.setCell (by exact Nat.le_of_lt HLT.out) _); clear HB6A hb7 _t)
        | (go_at_call 52; (with_reducible refine (HQ2.out _ HS7.out).mono ?_); rintro ec w8 ⟨rfl, hb8⟩; have HB8 := hide (below_then HS7.out hb8); have HBF8 := hide ((HBF7.out.other (p := ⟨w6.heap.size, 0, none⟩) (by exact Nat.ne_of_lt HLT.out) (.string n)).below hb8); have HO8 := hide ((HO7.out.put 0 (.string n)).below hb8); have e1 := HO8.out.cell 1; have f1 := HO8.out.free 1; simp only [List.set, List.getElem?_cons_zero, List.getElem?_cons_succ] at e1; have g0 := (HO8.out.put 1 (.string d)).cell 0; have g1 := (HO8.out.put 1 (.string d)).cell 1; simp only [List.set, List.getElem?_cons_zero, List.getElem?_cons_succ] at g0 g1; have HBF9 := hide (HBF8.out.other (p := ⟨w6.heap.size, 1, none⟩) (by exact Nat.ne_of_lt HLT.out) (.string d)); have k0 := HBF9.out.free 0; have k1 := HBF9.out.free 1; have h0 := HBF9.out.cell 0; have h1 := HBF9.out.cell 1; simp only [List.getElem?_cons_zero, List.getElem?_cons_succ] at h0 h1; have j0 := ((HBF9.out.put 0 (.string n)).put 1 (.string d)).cell 0; have j1 := ((HBF9.out.put 0 (.string n)).put 1 (.string d)).cell 1; simp only [List.set, List.getElem?_cons_zero, List.getElem?_cons_succ] at j0 j1; clear hb8))
      refine bodyPost_ret (v := .tuple #[.agg #[.string n, .string d], .int .i64 0]) (by simp [results, Tryz.results12, go_sem, j0, j1]) rfl ⟨rfl, ?_⟩
      exact (((HB8.out.setCell (by exact Nat.le_of_lt HLT.out) _).setCell (Nat.le_refl _) _).setCell (Nat.le_refl _) _)
/-- No fraction, and the number of an error. -/
def fracE (e : Int) : Value := .tuple #[.agg #[.string ⟨#[]⟩, .string ⟨#[]⟩], .int .i64 e]
set_option maxRecDepth 100000 in
set_option maxHeartbeats 4000000 in
theorem fmake_bad (s t : ByteArray) {e1 e2 e : Int} {w : World} (hs : s.size ≤ 140737488355328) (ht : t.size ≤ 140737488355328) (h1 : chkI s.data.toList = e1) (h2 : chkI t.data.toList = e2) (hb : e1 ≠ 0 ∨ e2 ≠ 0) (he : errOr e1 e2 = e) :
    Calls Tryz.prog 12 #[.string s, .string t] w fun r w' => r = .returned (fracE e) ∧ Below w.heap.size w w' := by
  have H1 : Hid (∀ w', Calls Tryz.prog 49 #[.string s] w' fun e w2 => e = .returned (.int .i64 e1) ∧ Below w'.heap.size w' w2) := fun w' => chkI_ne s hs h1
  have H2 : Hid (∀ w', Calls Tryz.prog 49 #[.string t] w' fun e w2 => e = .returned (.int .i64 e2) ∧ Below w'.heap.size w' w2) := fun w' => chkI_ne t ht h2
  have HBAD := hide hb
  have HE := hide he
  unfold fracE
  clear h1 h2 hs ht hb he
  have HB0 : Hid (Below w.heap.size w ((w.alloc (.cells #[.string ⟨#[]⟩, .string ⟨#[]⟩] 26)).alloc (.cells #[.string s, .string t] 22))) := bnew (bnew (Below.refl _ _) _) _
  have hbx : Box ((w.alloc (.cells #[.string ⟨#[]⟩, .string ⟨#[]⟩] 26)).alloc (.cells #[.string s, .string t] 22)) (w.heap.size + 1) [.string s, .string t] 22 := by
    have h5 := Box.new (w.alloc (.cells #[.string ⟨#[]⟩, .string ⟨#[]⟩] 26)) [.string s, .string t] 22
    rw [World.size_alloc] at h5
    exact h5
  have HBX := hide hbx
  have HBF : Hid (Box ((w.alloc (.cells #[.string ⟨#[]⟩, .string ⟨#[]⟩] 26)).alloc (.cells #[.string s, .string t] 22)) w.heap.size [.string ⟨#[]⟩, .string ⟨#[]⟩] 26) := (Box.new w _ _).next _
  clear hbx
  go_enter Tryz.func12, Tryz.ntmps12
  go_wp2_with fail
  generalize hW : (w.alloc (.cells #[.string ⟨#[]⟩, .string ⟨#[]⟩] 26)).alloc (.cells #[.string s, .string t] 22) = W at *
  have HW := hide hW
  clear hW
  go_loopg [7, 8, 16] 2 (fun gm s7 s8 iv wx => ∃ k : Nat, k ≤ 2 ∧ gm = 2 - k ∧ iv = .int .i64 k ∧ Hid (0 < k → e1 = 0) ∧ Hid (1 < k → e2 = 0) ∧ Hid (Below W.heap.size W wx))
  case atStart => exact ⟨0, by omega, by omega, rfl, (fun h => absurd h (by omega)), (fun h => absurd h (by omega)), Below.refl _ _⟩
  case round =>
    obtain ⟨k, hk, hgm, rfl, HE1, HE2, HB⟩ := hrel
    have HGM := hide hgm
    clear hgm
    have hbx : Box wr (w.heap.size + 1) [.string s, .string t] 22 := HBX.out.below HB.out
    have c0 := hbx.cell 0
    have c1 := hbx.cell 1
    simp only [List.getElem?_cons_zero, List.getElem?_cons_succ] at c0 c1
    have HBFR := hide (HBF.out.below HB.out)
    clear hbx
    match k, hk with
    | 0, _ =>
      by_cases h : e1 = 0
      · have HEZ := hide h
        have tq : (e1 != 0) = false := by simp [h]
        clear h
        go_wp2_with (go_at_call 49; (with_reducible refine (H1.out _).mono ?_); rintro ec w5 ⟨rfl, hb5⟩; have HB5 : Hid (Below W.heap.size W w5) := below_then HB.out hb5; clear hb5)
        go_roundg 1
        case rel => exact ⟨1, by omega, by omega, by rfl, (fun _ => HEZ.out), (fun h => absurd h (by omega)), HB5⟩
        case measure => rw [HGM.out]; omega
      · have tq : (e1 != 0) = true := by simpa using h
        have HRE : Hid (e = e1) := HE.out.symm.trans (if_pos h)
        clear h
        go_wp2_with (go_at_call 49; (with_reducible refine (H1.out _).mono ?_); rintro ec w5 ⟨rfl, hb5⟩; have HB5 : Hid (Below W.heap.size W w5) := below_then HB.out hb5; have HBF9 := hide (HBFR.out.below hb5); have k0 := HBF9.out.free 0; have k1 := HBF9.out.free 1; have h0 := HBF9.out.cell 0; have h1 := HBF9.out.cell 1; simp only [List.getElem?_cons_zero, List.getElem?_cons_succ] at h0 h1; have j0 := ((HBF9.out.put 0 (.string ⟨#[]⟩)).put 1 (.string ⟨#[]⟩)).cell 0; have j1 := ((HBF9.out.put 0 (.string ⟨#[]⟩)).put 1 (.string ⟨#[]⟩)).cell 1; simp only [List.set, List.getElem?_cons_zero, List.getElem?_cons_succ] at j0 j1; clear hb5)
        refine bodyPost_ret (v := .tuple #[.agg #[.string ⟨#[]⟩, .string ⟨#[]⟩], .int .i64 e1]) (by simp [results, Tryz.results12, go_sem, j0, j1]) rfl ⟨by rw [HRE.out], ?_⟩
        exact (((below_then HB0.out HB5.out).setCell (Nat.le_refl _) _).setCell (Nat.le_refl _) _)
    | 1, _ =>
      have h0 : e1 = 0 := HE1.out (by omega)
      by_cases h : e2 = 0
      · exact absurd h0 (by rcases HBAD.out with h5 | h5; exact h5; exact absurd h h5)
      · have tq : (e2 != 0) = true := by simpa using h
        have HRE : Hid (e = e2) := HE.out.symm.trans (by unfold errOr; rw [h0, if_neg (by simp)])
        clear h h0
        go_wp2_with (go_at_call 49; (with_reducible refine (H2.out _).mono ?_); rintro ec w5 ⟨rfl, hb5⟩; have HB5 : Hid (Below W.heap.size W w5) := below_then HB.out hb5; have HBF9 := hide (HBFR.out.below hb5); have k0 := HBF9.out.free 0; have k1 := HBF9.out.free 1; have h0 := HBF9.out.cell 0; have h1 := HBF9.out.cell 1; simp only [List.getElem?_cons_zero, List.getElem?_cons_succ] at h0 h1; have j0 := ((HBF9.out.put 0 (.string ⟨#[]⟩)).put 1 (.string ⟨#[]⟩)).cell 0; have j1 := ((HBF9.out.put 0 (.string ⟨#[]⟩)).put 1 (.string ⟨#[]⟩)).cell 1; simp only [List.set, List.getElem?_cons_zero, List.getElem?_cons_succ] at j0 j1; clear hb5)
        refine bodyPost_ret (v := .tuple #[.agg #[.string ⟨#[]⟩, .string ⟨#[]⟩], .int .i64 e2]) (by simp [results, Tryz.results12, go_sem, j0, j1]) rfl ⟨by rw [HRE.out], ?_⟩
        exact (((below_then HB0.out HB5.out).setCell (Nat.le_refl _) _).setCell (Nat.le_refl _) _)
    | 2, _ =>
      exfalso
      rcases HBAD.out with h5 | h5
      · exact h5 (HE1.out (by omega))
      · exact h5 (HE2.out (by omega))
set_option maxRecDepth 100000 in
set_option maxHeartbeats 4000000 in
theorem fmake_zero {p : Int} (hp : Lim p) {w : World} : Calls Tryz.prog 12 #[.string (strN (txtI p)), .string (strN (txtI 0))] w fun r w' => r = .returned (fracE 10) ∧ Below w.heap.size w w' := by
  have hq : Lim 0 := by show lenI 0 ≤ 1024; decide
  have H1 : Hid (∀ w', Calls Tryz.prog 49 #[.string (strN (txtI p))] w' fun e w2 => e = .returned (.int .i64 0) ∧ Below w'.heap.size w' w2) := fun w' => icheck_lim hp w'
  have H2 : Hid (∀ w', Calls Tryz.prog 49 #[.string (strN (txtI 0))] w' fun e w2 => e = .returned (.int .i64 0) ∧ Below w'.heap.size w' w2) := fun w' => icheck_lim hq w'
  have tz : ((strN (txtI 0)).toList == [48]) = true := by rw [strN_toList]; rfl
  unfold fracE
  obtain ⟨s, hs⟩ : ∃ s, s = strN (txtI p) := ⟨_, rfl⟩
  obtain ⟨t, htt⟩ : ∃ t, t = strN (txtI 0) := ⟨_, rfl⟩
  rw [← hs] at H1
  rw [← htt] at H2 tz
  rw [← hs, ← htt]
  clear hs htt hp hq
  have HB0 : Hid (Below w.heap.size w ((w.alloc (.cells #[.string ⟨#[]⟩, .string ⟨#[]⟩] 26)).alloc (.cells #[.string s, .string t] 22))) := bnew (bnew (Below.refl _ _) _) _
  have hbx : Box ((w.alloc (.cells #[.string ⟨#[]⟩, .string ⟨#[]⟩] 26)).alloc (.cells #[.string s, .string t] 22)) (w.heap.size + 1) [.string s, .string t] 22 := by
    have h5 := Box.new (w.alloc (.cells #[.string ⟨#[]⟩, .string ⟨#[]⟩] 26)) [.string s, .string t] 22
    rw [World.size_alloc] at h5
    exact h5
  have HBX := hide hbx
  have HBF : Hid (Box ((w.alloc (.cells #[.string ⟨#[]⟩, .string ⟨#[]⟩] 26)).alloc (.cells #[.string s, .string t] 22)) w.heap.size [.string ⟨#[]⟩, .string ⟨#[]⟩] 26) := (Box.new w _ _).next _
  clear hbx
  go_enter Tryz.func12, Tryz.ntmps12
  go_wp2_with fail
  generalize hW : (w.alloc (.cells #[.string ⟨#[]⟩, .string ⟨#[]⟩] 26)).alloc (.cells #[.string s, .string t] 22) = W at *
  have HW := hide hW
  clear hW
  go_loopg [7, 8, 16] 2 (fun gm s7 s8 iv wx => ∃ k : Nat, k ≤ 2 ∧ gm = 2 - k ∧ iv = .int .i64 k ∧ Hid (Below W.heap.size W wx))
  case atStart => exact ⟨0, by omega, by omega, rfl, Below.refl _ _⟩
  case round =>
    obtain ⟨k, hk, hgm, rfl, HB⟩ := hrel
    have HGM := hide hgm
    clear hgm
    have hbx : Box wr (w.heap.size + 1) [.string s, .string t] 22 := HBX.out.below HB.out
    have c0 := hbx.cell 0
    have c1 := hbx.cell 1
    simp only [List.getElem?_cons_zero, List.getElem?_cons_succ] at c0 c1
    clear hbx
    match k, hk with
    | 0, _ =>
      go_wp2_with (go_at_call 49; (with_reducible refine (H1.out _).mono ?_); rintro ec w5 ⟨rfl, hb5⟩; have HB5 : Hid (Below W.heap.size W w5) := below_then HB.out hb5; clear hb5)
      go_roundg 1
      case rel => exact ⟨1, by omega, by omega, by rfl, HB5⟩
      case measure => rw [HGM.out]; omega
    | 1, _ =>
      go_wp2_with (go_at_call 49; (with_reducible refine (H2.out _).mono ?_); rintro ec w5 ⟨rfl, hb5⟩; have HB5 : Hid (Below W.heap.size W w5) := below_then HB.out hb5; clear hb5)
      go_roundg 0
      case rel => exact ⟨2, by omega, by omega, by rfl, HB5⟩
      case measure => rw [HGM.out]; omega
    | 2, _ =>
      have HBR := hide (below_then HB0.out HB.out)
      have HBF9 := hide (HBF.out.below HB.out)
      have k0 := HBF9.out.free 0
      have k1 := HBF9.out.free 1
      have h0 := HBF9.out.cell 0
      have h1 := HBF9.out.cell 1
      have j0 := ((HBF9.out.put 0 (.string ⟨#[]⟩)).put 1 (.string ⟨#[]⟩)).cell 0
      have j1 := ((HBF9.out.put 0 (.string ⟨#[]⟩)).put 1 (.string ⟨#[]⟩)).cell 1
      simp only [List.set, List.getElem?_cons_zero, List.getElem?_cons_succ] at h0 h1 j0 j1
      clear c0 c1
      go_wp2_with fail
      refine bodyPost_ret (v := .tuple #[.agg #[.string ⟨#[]⟩, .string ⟨#[]⟩], .int .i64 10]) (by simp [results, Tryz.results12, go_sem, j0, j1]) rfl ⟨rfl, ?_⟩
      exact ((HBR.out.setCell (Nat.le_refl _) _).setCell (Nat.le_refl _) _)
theorem fmake_any {p q : Int} (hp : Lim p) (hq : Lim q) (h0 : q ≠ 0) {w : World} (ht : Tbl w) : Calls Tryz.prog 12 #[.string (strN (txtI p)), .string (strN (txtI q))] w fun e w' => e = .returned (.tuple #[fracV (lowF p q), .int .i64 0]) ∧ Below w.heap.size w w' := by
  by_cases h : 0 < q
  · exact fmake_pos hp hq h ht
  · exact fmake_neg hp hq (by omega) ht
end Go.Proofs.YthpknfoahimopaaGreatDoor

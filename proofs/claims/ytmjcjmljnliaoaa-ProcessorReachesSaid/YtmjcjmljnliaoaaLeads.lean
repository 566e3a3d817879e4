/-
  The reachable states: the reference's fixed point.
-/
import Derived.Test.YtmjcjmljnliaoaaReachP
set_option linter.unusedVariables false
namespace Go.Proofs.Ytmjcjmljnliaoaa
open Go.RowKit

theorem boolInfo : (Try.prog.info? 4).map (fun i => (i.zero, i.size, i.bytes)) = some (some (.bool false), 1, 1) := by kernel_rfl

def LeadsPost (w : World) (rs : List (List Rul)) (L : Int) (s : Nat) (e : Ending) (w' : World) : Prop :=
  ∃ g bs, e = .returned (.slice (some ⟨g, 0, none⟩) rs.length rs.length) ∧ Leads (nxOf rs) L.toNat rs.length s bs ∧ Row1 Value.bool w' g 4 bs [] ∧ w.heap.size ≤ g ∧ Below w.heap.size w w'

def Inr (nx : Nat → Nat → Nat) (L S s k t j : Nat) (bs : List Bool) : Prop := Led nx L S s k t bs ∧ (0 < j → bs[t]? = some true) ∧ ∀ a, a < j → bs[nx t a]? = some true

set_option maxRecDepth 100000 in
set_option maxHeartbeats 2000000 in
theorem leads_any (S L : Int) (rs : List (List Rul)) (oa : Option Addr) (c : Nat) (s0 : Nat) (F : Foot) (w : World) (hs : SliceR (slcR ruleR 2) 1 F w oa rs)
    (hV : Hid (checkErr ⟨S, L, rs⟩ 12 = 0)) (hS : s0 < rs.length) :
    Calls Try.prog 105 #[.agg #[.int .i64 S, .int .i64 L, .slice oa rs.length c], .int .i64 s0] w (LeadsPost w rs L s0) := by
  obtain ⟨Lk, rfl⟩ := Int.eq_ofNat_of_zero_le (show 0 ≤ L by have := (check_zero hV.out).2.2.1; simp at this; omega)
  obtain rfl : S = (rs.length : Int) := by have := (check_zero hV.out).2.2.2.1; simp at this; omega
  have hL8 : Lk ≤ 8 := by have := (check_zero hV.out).2.2.1; simp at this; omega
  have hS16 : rs.length ≤ 16 := by have h1 := (check_zero hV.out).2.1; have h2 := (check_zero hV.out).2.2.2.1; simp at h1 h2; omega
  have HNX := hide (nx_lt hV.out)
  simp only [Int.toNat_natCast] at HNX
  have h01 : decide ((rs.length : Int) < 0) = false := by simp
  have HV := hV
  clear hV
  go_enter Try.func105, Try.ntmps105
  go_wp2_with (at_make; refine wpList_make_row _ rfl _ _ 141 rfl 4 false 1 Try.underlying141 boolInfo rfl .i64 .i64 _ _ rs.length rfl rfl rfl rfl (by omega) (by unfold maxLen; omega) (fun w1 hrow hb1 hg1 => ?_); have c0 := hrow.cell (i := s0) (x := false) (by simp [hS]); have f0 := hrow.free s0; simp at c0 f0; have hp := hrow.put (i := s0) (by simp [hS]) true; simp only [World.size_alloc] at hp; have HG := hide hg1; clear hrow hg1)
  have hb0 : Below (w.heap.size + 1) (w.alloc (.cells #[.int .i64 rs.length, .int .i64 Lk, .slice oa rs.length c] 47)) (w1.setCell ⟨w.heap.size + 1, s0, none⟩ (.bool true)) := by
    have h := hb1
    simp only [World.size_alloc] at h
    exact h.setCell (by simp) _
  clear hb1 c0 f0
  go_loopw [6] (fun iv wr => ∃ (k : Nat) (bs : List Bool), k ≤ rs.length ∧ iv = .int .i64 k ∧ Hid (Led (nxOf rs) Lk rs.length s0 k 0 bs) ∧ Row1 Value.bool wr (w.heap.size + 1) 4 bs [] ∧
      Below (w.heap.size + 1) (w.alloc (.cells #[.int .i64 rs.length, .int .i64 Lk, .slice oa rs.length c] 47)) wr) (fun iv _ => rs.length - (intOf iv).toNat)
  case atStart => exact ⟨0, _, by omega, rfl, Led.begin hS, hp, hb0⟩
  case round =>
    obtain ⟨k, bs, hk, rfl, HL, hr, hb⟩ := hrel
    clear hb0 hp HG
    have d0 := box_cell hb 0
    have d1 := box_cell hb 1
    simp at d0 d1
    by_cases hlt : k < rs.length
    · go_wp2_with fail
      obtain ⟨wo, rfl⟩ : ∃ wo : World, wo = wr := ⟨_, rfl⟩
      go_loopw [7] (fun iv wr => ∃ (t : Nat) (bs : List Bool), t ≤ rs.length ∧ iv = .int .i64 t ∧ Hid (Led (nxOf rs) Lk rs.length s0 k t bs) ∧ Row1 Value.bool wr (w.heap.size + 1) 4 bs [] ∧
        Below (w.heap.size + 1) (w.alloc (.cells #[.int .i64 rs.length, .int .i64 Lk, .slice oa rs.length c] 47)) wr) (fun iv _ => rs.length - (intOf iv).toNat)
      case atStart => exact ⟨0, _, by omega, rfl, HL, hr, hb⟩
      case round =>
        clear hb hr d0 d1 HL
        obtain ⟨t, bs, ht, rfl, HL, hr, hb⟩ := hrel
        have d0 := box_cell hb 0
        have d1 := box_cell hb 1
        simp at d0 d1
        by_cases htl : t < rs.length
        · go_wp2_with fail
          obtain ⟨wo, rfl⟩ : ∃ wo : World, wo = wr := ⟨_, rfl⟩
          go_loopw [8] (fun iv wr => ∃ (j : Nat) (bs : List Bool), j ≤ Lk ∧ iv = .int .i64 j ∧ Hid (Inr (nxOf rs) Lk rs.length s0 k t j bs) ∧ Row1 Value.bool wr (w.heap.size + 1) 4 bs [] ∧
            Below (w.heap.size + 1) (w.alloc (.cells #[.int .i64 rs.length, .int .i64 Lk, .slice oa rs.length c] 47)) wr) (fun iv _ => Lk - (intOf iv).toNat)
          case atStart => exact ⟨0, _, by omega, rfl, ⟨HL, fun h => by omega, fun a ha => by omega⟩, hr, hb⟩
          case round =>
            clear hb hr d0 d1 HL
            obtain ⟨j, bs, hj, rfl, HI, hr, hb⟩ := hrel
            have d0 := box_cell hb 0
            have d1 := box_cell hb 1
            have d2 := box_cell hb 2
            simp at d0 d1 d2
            have hsz := box_lt hb
            have hbl : bs.length = rs.length := HI.out.1.len
            obtain ⟨bt, hbt⟩ : ∃ bt, bs[t]? = some bt := ⟨_, List.getElem?_eq_getElem (by omega)⟩
            have ct := hr.cell hbt
            have HBT := hide hbt
            clear hbt
            by_cases hjl : j < Lk
            · cases bt with
              | false =>
                have HN := hide (HI.out.1.next fun h => by rw [HBT.out] at h; cases h)
                go_wp2_with fail
                go_roundw
                case rel => exact ⟨t + 1, bs, by omega, by go_num, HN, hr, hb⟩
                case measure => simp [intOf]; omega
              | true =>
                obtain ⟨row, _, hrow, b2, off2, oa3, c3, rfl, _, c2, hrc, hrc2, hsr⟩ := (hs.below rowR_ok (below_box hb)).slc_at htl
                have hrl := valid_row HV.out hrow
                have ha : j < row.length := by simp at hrl; omega
                obtain ⟨nx, sent, _, hru, _, b4, off4, oa5, c5, rfl, _, c40, c41, _, _, hss⟩ := hsr.rule_at ha
                have hnx := nx_ok HV.out htl (show (j : Int) < Lk by omega)
                rw [ruleAt_eq hrow hru] at hnx
                obtain ⟨hnx1, hnx2⟩ := hnx
                simp only at hnx1
                subst hnx1
                have hn2 : nxOf rs t j < bs.length := by omega
                have hset := HI.out.1.set HBT.out hjl hnx2 HI.out.2.2
                have HI2 : Hid (Inr (nxOf rs) Lk rs.length s0 k t (j + 1) (bs.set (nxOf rs t j) true)) := ⟨hset.1, fun _ => hset.2.1, hset.2.2⟩
                obtain ⟨bn, hbn⟩ : ∃ bn, bs[nxOf rs t j]? = some bn := ⟨_, List.getElem?_eq_getElem hn2⟩
                have cn := hr.cell hbn
                have fn := hr.free (nxOf rs t j)
                have hp := hr.put hn2 true
                have HP := hide hp
                clear hbn hset hrow hru hrl hp
                go_wp2_with fail
                go_roundw
                case rel => exact ⟨j + 1, _, by omega, by go_num, HI2, HP.out, hb.setCell (by simp) _⟩
                case measure => simp [intOf]; omega
            · have hj2 : j = Lk := by omega
              subst hj2
              have HN := hide (HI.out.1.next fun _ => HI.out.2.2)
              go_wp2_with fail
              go_roundw
              case rel => exact ⟨t + 1, bs, by omega, by go_num, HN, hr, hb⟩
              case measure => simp [intOf]; omega
        · have h2 : t = rs.length := by omega
          subst h2
          have HN := hide (HL.out.round hS HNX.out)
          go_wp2_with fail
          go_roundw
          case rel => exact ⟨k + 1, bs, by omega, by go_num, HN, hr, hb⟩
          case measure => simp [intOf]; omega
    · have h2 : k = rs.length := by omega
      subst h2
      have HN := hide (HL.out.all hS HNX.out)
      go_wp2_with fail
      go_ret
      exact ⟨w.heap.size + 1, bs, rfl, by simpa using HN.out, hr, by omega, below_box hb⟩

end Go.Proofs.Ytmjcjmljnliaoaa

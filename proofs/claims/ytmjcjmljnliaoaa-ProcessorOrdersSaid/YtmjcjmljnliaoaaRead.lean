/-
  Reading a word: the program and the reference.
-/
import Derived.Test.YtmjcjmljnliaoaaProg
import Derived.Test.YtmjcjmljnliaoaaDat2
import Derived.Deep.QuietTactic
import Derived.BigQuiet
import Derived.StillTailTactics
set_option linter.unusedVariables false
namespace Go.Proofs.Ytmjcjmljnliaoaa
open Go.RowKit

theorem outInfo : (Try.prog.info? 80).map (fun i => (i.zero, i.size, i.bytes)) = some (some (.agg #[.int .i64 0, .int .i64 0]), 2, 16) := by kernel_rfl

def ReadPost (w : World) (rs : List (List Rul)) (s : Int) (word : List Int) (e : Ending) (w' : World) : Prop :=
  ∃ v, e = .returned (.tuple #[.int .i64 (readSpec rs s word).1, v]) ∧ OwnS outR 2 w.heap.size 80 Non w' v (readSpec rs s word).2 ∧ Below w.heap.size w w'

set_option maxRecDepth 100000 in
set_option maxHeartbeats 1000000 in
theorem read_any (S L : Int) (rs : List (List Rul)) (oa : Option Addr) (c : Nat) (s0 : Int) (word : List Int) (ob : Option Addr) (d : Nat) (F G : Foot) (w : World) (hs : SliceR (slcR ruleR 2) 1 F w oa rs)
    (hw : SliceR intR 1 G w ob word) (hV : Hid (checkErr ⟨S, L, rs⟩ 12 = 0)) (hS : 0 ≤ s0 ∧ s0 < S) (hL : Hid (lettersErr L word = 0)) (hlen : word.length ≤ 1000000) :
    Calls Try.prog 92 #[.agg #[.int .i64 S, .int .i64 L, .slice oa rs.length c], .int .i64 s0, .slice ob word.length d] w (ReadPost w rs s0 word) := by
  obtain ⟨n0, rfl⟩ := Int.eq_ofNat_of_zero_le hS.1
  have hS2 : n0 < rs.length := by have := (check_zero hV.out).2.2.2.1; simp at this; omega
  clear hS
  have HL16 : Hid ((rs.length : Int) = S) := (check_zero hV.out).2.2.2.1
  go_enter Try.func92, Try.ntmps92
  go_wp2_with fail
  go_loopw [1, 8, 14] (fun sv v i wr => ∃ (n k : Nat) (out : List Out), n < rs.length ∧ k ≤ word.length ∧ sv = .int .i64 n ∧ i = .int .i64 k ∧ out.length ≤ 16 * k ∧
      Hid (readSpec rs n0 word = ((readSpec rs (n : Int) (word.drop k)).1, out ++ (readSpec rs (n : Int) (word.drop k)).2)) ∧
      OwnS outR 2 (w.heap.size + 1) 80 Non wr v out ∧
      Below (w.heap.size + 1) (w.alloc (.cells #[.int .i64 S, .int .i64 L, .slice oa rs.length c] 47)) wr) (fun _ _ i _ => word.length - (intOf i).toNat)
  case atStart => exact ⟨n0, 0, [], hS2, by omega, rfl, rfl, by simp, by show _ = _; simp, OwnS.nil _ _ _ _ _ _, box_refl _ _⟩
  case round =>
    obtain ⟨n, k, out, hn, hk, rfl, rfl, hol, HE, hown, hb⟩ := hrel
    have d2 := box_cell hb 2
    simp at d2
    have hsz : w.heap.size < wr.heap.size := box_lt hb
    by_cases hlt : k < word.length
    · obtain ⟨x, hd, hx, _, b1, off1, rfl, _, c1⟩ := (hw.below intR_ok (below_box hb)).int_at hlt
      obtain ⟨hx0, hxL⟩ := letters_at hL.out hx
      obtain ⟨a, rfl⟩ := Int.eq_ofNat_of_zero_le hx0
      obtain ⟨row, _, hrow, b2, off2, oa3, c3, rfl, _, c2, _, _, hsr⟩ := (hs.below rowR_ok (below_box hb)).slc_at hn
      have hrl := valid_row hV.out hrow
      have ha : a < row.length := by simp at hrl; omega
      obtain ⟨nx, sent, _, hru, _, b4, off4, oa5, c5, rfl, _, c40, c41, _, _, hss⟩ := hsr.rule_at ha
      have hvr := valid_rule hV.out hrow hru
      obtain ⟨m, rfl⟩ := Int.eq_ofNat_of_zero_le hvr.1.1
      have hmlt : m < rs.length := by have h1 := hvr.1.2; have h2 := HL16.out; simp at h1; omega
      have hs16 : sent.length ≤ 16 := hvr.2.1
      have HE2 := hide (read_step HE.out hd hrow hru)
      have hfin : (out ++ sent).length ≤ 16 * (k + 1) := by simp; omega
      clear hd hx hrow hru hrl hvr hw hs hsr hx0 hxL HE
      go_wp2_with (at_builtin; refine wpList_append_rep rfl (.tmp 26) (.tmp 28) 56 rfl (w.heap.size + 1) 80 _ 2 16 Try.underlying56 outInfo rfl (by decide) outR_ok Non F u8 out rfl (hown.new outR_ok _) oa5 c5 sent rfl (hss.below outR_ok (bnew (Below.refl _ _) _)) (fun _ _ h => h) (fun _ h => h.elim) (by omega) (by omega) (by simp; omega) ?_; intro v' w1 ho hb1 hg; have cv := hown.boxed hg 0; simp at cv)
      go_roundw
      case rel => exact ⟨m, k + 1, out ++ sent, hmlt, by omega, rfl, by go_num, hfin, HE2, ho, (box_new hb (by simp) _).trans hb1⟩
      case measure => simp [intOf]; omega
    · have HE3 := hide (read_end HE.out (by omega))
      clear HE
      go_wp2_with fail
      go_ret2
      exact ⟨u8, by rw [HE3.out]; rfl, by rw [HE3.out]; exact hown.rebase (by omega), below_box hb⟩

set_option maxRecDepth 100000 in
set_option maxHeartbeats 1000000 in
theorem rread_any (S L : Int) (rs : List (List Rul)) (oa : Option Addr) (c : Nat) (s0 : Int) (word : List Int) (ob : Option Addr) (d : Nat) (F G : Foot) (w : World) (hs : SliceR (slcR ruleR 2) 1 F w oa rs)
    (hw : SliceR intR 1 G w ob word) (hV : Hid (checkErr ⟨S, L, rs⟩ 12 = 0)) (hS : 0 ≤ s0 ∧ s0 < S) (hL : Hid (lettersErr L word = 0)) (hlen : word.length ≤ 1000000) :
    Calls Try.prog 94 #[.agg #[.int .i64 S, .int .i64 L, .slice oa rs.length c], .int .i64 s0, .slice ob word.length d] w (ReadPost w rs s0 word) := by
  obtain ⟨n0, rfl⟩ := Int.eq_ofNat_of_zero_le hS.1
  have hS2 : n0 < rs.length := by have := (check_zero hV.out).2.2.2.1; simp at this; omega
  clear hS
  have HL16 : Hid ((rs.length : Int) = S) := (check_zero hV.out).2.2.2.1
  go_enter Try.func94, Try.ntmps94
  go_wp2_with fail
  go_loopw [1, 8, 9] (fun sv v i wr => ∃ (n k : Nat) (out : List Out), n < rs.length ∧ k ≤ word.length ∧ sv = .int .i64 n ∧ i = .int .i64 k ∧ out.length ≤ 16 * k ∧
      Hid (readSpec rs n0 word = ((readSpec rs (n : Int) (word.drop k)).1, out ++ (readSpec rs (n : Int) (word.drop k)).2)) ∧
      OwnS outR 2 (w.heap.size + 1) 80 Non wr v out ∧
      Below (w.heap.size + 1) (w.alloc (.cells #[.int .i64 S, .int .i64 L, .slice oa rs.length c] 47)) wr) (fun _ _ i _ => word.length - (intOf i).toNat)
  case atStart => exact ⟨n0, 0, [], hS2, by omega, rfl, rfl, by simp, by show _ = _; simp, OwnS.nil _ _ _ _ _ _, box_refl _ _⟩
  case round =>
    obtain ⟨n, k, out, hn, hk, rfl, rfl, hol, HE, hown, hb⟩ := hrel
    have d2 := box_cell hb 2
    simp at d2
    have hsz : w.heap.size < wr.heap.size := box_lt hb
    by_cases hlt : k < word.length
    · obtain ⟨x, hd, hx, _, b1, off1, rfl, _, c1⟩ := (hw.below intR_ok (below_box hb)).int_at hlt
      obtain ⟨hx0, hxL⟩ := letters_at hL.out hx
      obtain ⟨a, rfl⟩ := Int.eq_ofNat_of_zero_le hx0
      obtain ⟨row, _, hrow, b2, off2, oa3, c3, rfl, _, c2, _, _, hsr⟩ := (hs.below rowR_ok (below_box hb)).slc_at hn
      have hrl := valid_row hV.out hrow
      have ha : a < row.length := by simp at hrl; omega
      obtain ⟨nx, sent, _, hru, _, b4, off4, oa5, c5, rfl, _, c40, c41, _, _, hss⟩ := hsr.rule_at ha
      have hvr := valid_rule hV.out hrow hru
      obtain ⟨m, rfl⟩ := Int.eq_ofNat_of_zero_le hvr.1.1
      have hmlt : m < rs.length := by have h1 := hvr.1.2; have h2 := HL16.out; simp at h1; omega
      have hs16 : sent.length ≤ 16 := hvr.2.1
      have HE2 := hide (read_step HE.out hd hrow hru)
      have hfin : (out ++ sent).length ≤ 16 * (k + 1) := by simp; omega
      clear hd hx hrow hru hrl hvr hw hs hsr hx0 hxL HE
      go_wp2_with fail
      have l1 := World.block_lt_of_cell? _ _ c1
      have l2 := World.block_lt_of_cell? _ _ c2
      have l4 := World.block_lt_of_cell? _ _ c40
      simp only at l1 l2 l4
      go_region
      go_wp2_with (at_builtin; refine wpList_append_rep rfl (.tmp 30) (.tmp 32) 56 rfl (w.heap.size + 1) 80 _ 2 16 Try.underlying56 outInfo rfl (by decide) outR_ok Non F u8 out rfl ((hown.draw outR_ok).new outR_ok _) oa5 c5 sent rfl ((hss.keep (w' := wr.drew) outR_ok (fun _ _ _ => rfl)).below outR_ok (bnew (Below.refl _ _) _)) (fun _ _ h => h) (fun _ h => h.elim) (by omega) (by omega) (by simp; omega) ?_; intro v' w1 ho hb1 hg)
      go_roundw
      case rel => exact ⟨m, k + 1, out ++ sent, hmlt, by omega, rfl, by go_num, hfin, HE2, ho, (box_new hb.drew (by simp) _).trans hb1⟩
      case measure => simp [intOf]; omega
    · have HE3 := hide (read_end HE.out (by omega))
      clear HE
      go_wp2_with fail
      go_ret2
      exact ⟨u8, by rw [HE3.out]; rfl, by rw [HE3.out]; exact hown.rebase (by omega), below_box hb⟩

end Go.Proofs.Ytmjcjmljnliaoaa

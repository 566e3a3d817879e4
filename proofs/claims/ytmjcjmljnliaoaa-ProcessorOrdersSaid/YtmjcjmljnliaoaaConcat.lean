/-
  slices.Grow of the nil slice, and slices.Concat, at lists of outputs.
-/
import Derived.Test.YtmjcjmljnliaoaaWRuns
import Derived.Lib.AppendZeros
set_option linter.unusedVariables false
namespace Go.Proofs.Ytmjcjmljnliaoaa
open Go.RowKit

def OutsMade (w : World) (r : List Out) (e : Ending) (w' : World) : Prop :=
  ∃ v, e = .returned v ∧ OwnS outR 2 w.heap.size 80 Non w' v r ∧ Below w.heap.size w w'

set_option maxRecDepth 100000 in
set_option maxHeartbeats 1000000 in
theorem growNil_any (n : Nat) (w : World) (hn : n ≤ 1000000000) :
    Calls Try.prog 96 #[.slice none 0 0, .int .i64 n] w (OutsMade w []) := by
  by_cases h0 : n = 0
  · subst h0
    go_enter Try.func96, Try.ntmps96
    go_wp2_with fail
    go_ret
    exact ⟨_, rfl, OwnS.nil _ _ _ _ _ _, Below.refl _ _⟩
  have hpos : 0 < n := by omega
  obtain ⟨i, hi, hz, hsz, hby⟩ := info_parts outInfo
  have hrun : ∀ ty, (Builtin.append_ #[56, 3] ty #[.slice none 0 0, .int .i64 n]).run Try.prog w = _ := fun ty => Lib.run_append_nil_zeros w 56 3 ty 80 i _ .i64 .i64 Try.underlying56 Try.underlying3 hi hz n hpos (by omega) (by omega) (by rw [hby]; omega)
  have hge := grownCap_ge w n 0 80
  have hle := grownCap_le_maxLen w n 0 80 (by unfold maxLen; omega)
  generalize grownCap w n 0 80 = G at hrun hge hle
  have hG63 : G ≤ 9223372036854775807 := by unfold maxLen at hle; omega
  have HI := hide hi
  have HRUN := hide hrun
  have HLE := hide hle
  clear hi hz hsz hby hrun hle h0
  go_enter Try.func96, Try.ntmps96
  go_wp2_with (at_builtin; refine Lib.wpList_append_run _ rfl _ _ _ _ rfl _ _ rfl rfl _ _ (HRUN.out _) ?_)
  go_ret
  have hb : Below w.heap.size w (w.drew.alloc (.cells (Builtin.zeroCells (Value.agg #[.int .i64 0, .int .i64 0]).cells n ++ Builtin.zeroCells (Value.agg #[.int .i64 0, .int .i64 0]).cells (G - n)) 80)) := bnew (Below.refl w.heap.size w).drew _
  refine ⟨_, rfl, ⟨[], ⟨by simp, .inr ⟨w.heap.size, G, _, rfl, Nat.le_refl _, heap_alloc_new w.drew _, Nat.zero_le _, HLE.out, ?_, by simp⟩⟩, by simp, by simp⟩, hb⟩
  rw [Array.size_append, size_zeroCells, size_zeroCells]
  show n * 2 + (G - n) * 2 = G * 2
  omega

def sumLen (l : List (List Out)) : Nat := (l.map List.length).sum

set_option maxRecDepth 100000 in
set_option maxHeartbeats 1000000 in
theorem concat_any (l : List (List Out)) (oa : Option Addr) (c : Nat) (F : Foot) (w : World) (hs : SliceR (slcR outR 2) 1 F w oa l) (hc : l.length ≤ c) (hc2 : l.length ≤ 9223372036854775807) (hsum : sumLen l ≤ 1000000) :
    Calls Try.prog 47 #[.slice oa l.length c] w (OutsMade w l.flatten) := by
  have HSUM := hide hsum
  clear hsum
  go_enter Try.func47, Try.ntmps47
  go_wp2_with fail
  go_loop [3, 11] (fun s i => ∃ (k m : Nat), k ≤ l.length ∧ i = .int .i64 k ∧ s = .int .i64 m ∧ Hid (m + sumLen (l.drop k) = sumLen l)) (fun _ i => l.length - (intOf i).toNat)
  case atStart => exact ⟨0, 0, by omega, rfl, rfl, by show _ = _; simp⟩
  case round =>
    obtain ⟨k, m, hk, rfl, rfl, HM⟩ := hrel
    by_cases hlt : k < l.length
    · obtain ⟨row, hd, _, b, off, oa', c', rfl, _, c0, hl1, hl2, hrow⟩ := hs.slc_at hlt
      have hm1 : m + row.length ≤ 1000000 := by
        have h1 := HM.out; have h2 := HSUM.out
        rw [hd] at h1
        simp [sumLen] at h1 h2
        omega
      have HD := hide hd
      clear hd
      go_wp2_with fail
      go_round
      case rel =>
        refine ⟨k + 1, m + row.length, by omega, by go_num, by go_num, ?_⟩
        have h1 := HM.out
        rw [HD.out] at h1
        simp [sumLen] at h1
        show _ = _
        simp [sumLen]
        omega
      case measure => simp [intOf]; omega
    · have hm1 : m ≤ 1000000 := by have h1 := HM.out; have h2 := HSUM.out; omega
      clear HM
      go_wp2_with fail
      refine (growNil_any m w (by omega)).mono ?_
      rintro e w1 ⟨v0, rfl, ho0, hb0⟩
      go_wp2_with fail
      go_loopw [6, 27] (fun v i wr => ∃ k : Nat, k ≤ l.length ∧ i = .int .i64 k ∧ OwnS outR 2 w.heap.size 80 Non wr v (l.take k).flatten ∧ Hid (((l.take k).flatten).length + sumLen (l.drop k) = sumLen l) ∧ Below w.heap.size w wr) (fun _ i _ => l.length - (intOf i).toNat)
      case atStart => exact ⟨0, by omega, rfl, by simpa using ho0, by show _ = _; simp, hb0⟩
      case round =>
        obtain ⟨k, hk, rfl, hown, HK, hb⟩ := hrel
        by_cases hlt : k < l.length
        · obtain ⟨row, hd, hget, b, off, oa', c', rfl, _, c0, hl1, hl2, hrow⟩ := (hs.below (slcR_ok outR_ok (by omega)) hb).slc_at hlt
          have hm2 : ((l.take k).flatten).length + row.length ≤ 1000000 := by
            have h1 := HK.out; have h2 := HSUM.out
            rw [hd] at h1
            simp [sumLen] at h1 h2 ⊢
            omega
          have hnext : Hid ((l.take (k + 1)).flatten = (l.take k).flatten ++ row) := by
            show _ = _
            rw [List.take_add_one, hget]
            simp
          have HD := hide hd
          clear hd hget
          go_wp2_with (at_builtin; refine wpList_append_rep rfl (.tmp 31) (.tmp 32) 56 rfl w.heap.size 80 _ 2 16 Try.underlying56 outInfo rfl (by decide) outR_ok Non F u6 _ rfl hown oa' c' row rfl hrow (fun _ _ h => h) (fun _ h => h.elim) (by omega) (by omega) hb.size ?_; intro v' w3 ho hb1 hg)
          go_roundw
          case rel =>
            refine ⟨k + 1, by omega, by go_num, by rw [hnext.out]; exact ho, ?_, hb.trans hb1⟩
            have h1 := HK.out
            rw [HD.out] at h1
            simp [sumLen] at h1
            show _ = _
            rw [hnext.out]
            simp [sumLen]
            omega
          case measure => simp [intOf]; omega
        · go_wp2_with fail
          go_ret
          refine ⟨_, rfl, ?_, hb⟩
          rw [List.take_of_length_le (by omega)] at hown
          exact hown

end Go.Proofs.Ytmjcjmljnliaoaa

/-
  The word of counts and the error of counts: the reference.
-/
import Derived.Test.YtmjcjmljnliaoaaCount
set_option linter.unusedVariables false
namespace Go.Proofs.Ytmjcjmljnliaoaa
open Go.RowKit

set_option maxRecDepth 100000 in
set_option maxHeartbeats 1000000 in
theorem rword_any (l : List Int) (oa : Option Addr) (c : Nat) (F : Foot) (w : World) (hs : SliceR intR 1 F w oa l) (hc : l.length ≤ c) (hc2 : l.length ≤ 1000000) (hb : (wordFrom 0 l).length ≤ 1000000) :
    Calls Try.prog 100 #[.slice oa l.length c] w (IntsMade w (wordFrom 0 l)) := by
  have HB := hide hb
  clear hb
  go_enter Try.func100, Try.ntmps100
  go_wp2_with fail
  go_loopw [3, 4] (fun v i wr => ∃ (k : Nat) (out : List Int), k ≤ l.length ∧ i = .int .i64 k ∧ Hid (wordFrom 0 l = out ++ wordFrom k (l.drop k)) ∧ OwnS intR 1 w.heap.size 3 Non wr v out ∧ Below w.heap.size w wr) (fun _ i _ => l.length - (intOf i).toNat)
  case atStart => exact ⟨0, [], by omega, rfl, rfl, OwnS.nil _ _ _ _ _ _, Below.refl _ _⟩
  case round =>
    obtain ⟨k, out, hk, rfl, HW, hown, hbw⟩ := hrel
    by_cases hlt : k < l.length
    · obtain ⟨x, hd, _, ix, b, off, hoa, _, _⟩ := hs.int_at hlt
      have hoa' := hoa
      subst hoa'
      have HX : Hid (wordFrom 0 l = (out ++ List.replicate x.toNat (k : Int)) ++ wordFrom (k + 1) (l.drop (k + 1))) := by
        show _ = _
        rw [HW.out, hd, wordFrom, List.append_assoc]
      have HD := hide hd
      clear hd hoa HW
      go_wp2_with fail
      obtain ⟨wo, rfl⟩ : ∃ wo : World, wo = wr := ⟨_, rfl⟩
      go_loopw [3, 5] (fun v i wr => ∃ (j : Nat) (out' : List Int), i = .int .i64 j ∧ j ≤ x.toNat ∧ Hid (out' = out ++ List.replicate j (k : Int)) ∧ OwnS intR 1 w.heap.size 3 Non wr v out' ∧ Below w.heap.size w wr) (fun _ i _ => x.toNat - (intOf i).toNat)
      case atStart => exact ⟨0, out, rfl, by omega, by show _ = _; simp, hown, hbw⟩
      case round =>
        obtain ⟨j, out', rfl, hj, HO, hown', hbw'⟩ := hrel
        obtain ⟨x', hd', _, _, b', off', hoa, _, cx⟩ := (hs.below intR_ok hbw').int_at hlt
        have hxx : x' = x := by have h1 := HD.out; rw [hd'] at h1; injection h1
        subst hxx
        injection hoa with hoa
        injection hoa with e1 e2
        subst e1 e2
        clear hd'
        have hlen : out'.length + 1 ≤ 1000001 := by
          have h1 := HX.out; have h2 := HB.out; have h3 := HO.out
          rw [h1] at h2
          rw [h3]
          simp at h2 ⊢
          omega
        have hjb : j ≤ 1000001 := by
          have h3 := congrArg List.length HO.out
          simp at h3
          omega
        by_cases hjx : (j : Int) < x'
        · go_wp2_with (at_builtin; refine wpList_append_rep rfl (.tmp 20) (.tmp 22) 22 rfl w.heap.size 3 _ 1 8 Try.underlying22 intInfo rfl (by decide) intR_ok Non All u3 out' rfl (hown'.new intR_ok _) (some ⟨wr.heap.size, 0, none⟩) 1 [(k : Int)] rfl (one_int (by unfold I64; omega) trivial) (fun _ _ h => h) (fun _ h => h.elim) (by simp; omega) (by simp; omega) (by have := hbw'.size; simp; omega) ?_; intro v' w3 ho hb1 hg)
          go_roundw
          case rel =>
            refine ⟨j + 1, out' ++ [(k : Int)], by go_num, by omega, ?_, ho, (bnew hbw' _).trans hb1⟩
            show _ = _
            rw [HO.out, List.replicate_succ']
            simp
          case measure => simp [intOf]; omega
        · go_wp2_with fail
          go_roundw
          case rel =>
            refine ⟨k + 1, out', by omega, by go_num, ?_, hown', hbw'⟩
            show _ = _
            rw [HX.out, HO.out, show j = x'.toNat from by omega]
          case measure => simp [intOf]; omega
    · go_wp2_with fail
      go_ret
      refine ⟨_, rfl, ?_, hbw⟩
      rw [HW.out, List.drop_eq_nil_of_le (by omega), wordFrom, List.append_nil]
      exact hown

end Go.Proofs.Ytmjcjmljnliaoaa

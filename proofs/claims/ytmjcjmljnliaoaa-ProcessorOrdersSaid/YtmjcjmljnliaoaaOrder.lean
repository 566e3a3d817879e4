/-
  The reference's Order.
-/
import Derived.Test.YtmjcjmljnliaoaaOrdSpec
import Derived.Test.YtmjcjmljnliaoaaRead
set_option linter.unusedVariables false
namespace Go.Proofs.Ytmjcjmljnliaoaa
open Go.RowKit

theorem one_out {F : Foot} {w : World} {t l : Int} (h1 : I64 t) (h2 : I64 l) (hF : F w.heap.size) : SliceR outR 2 F (w.alloc (.cells #[.int .i64 t, .int .i64 l] 80)) (some ⟨w.heap.size, 0, none⟩) [⟨t, l⟩] := by
  intro i x hx
  match i, hx with
  | 0, hx =>
    simp at hx
    subst hx
    refine ⟨w.heap.size, 0, [.int .i64 t, .int .i64 l], rfl, hF, ⟨rfl, h1, h2⟩, fun j u hu => ?_⟩
    have hh := fun k => cell_of_row (w.alloc (.cells #[.int .i64 t, .int .i64 l] 80)) w.heap.size k _ _ _ (heap_alloc_new w _)
    rw [hh]
    simpa using hu

set_option maxHeartbeats 1000000 in
theorem order_any (l : List Out) (oa : Option Addr) (c : Nat) (F : Foot) (w : World) (hs : SliceR outR 2 F w oa l) (hc : l.length ≤ c) (hlen : l.length ≤ 1000000) :
    Calls Try.prog 85 #[.slice oa l.length c] w fun e w' => ∃ v, e = .returned v ∧ OwnS outR 2 w.heap.size 80 Non w' v (picks l 12) ∧ Below w.heap.size w w' := by
  go_enter Try.func85, Try.ntmps85
  go_wp2_with fail
  go_loopw [3, 4] (fun v i wr => ∃ (T : Nat) (out : List Out), T ≤ 12 ∧ i = .int .i64 T ∧ Hid (out = picks l T) ∧ out.length ≤ T * 8000000 ∧ OwnS outR 2 w.heap.size 80 Non wr v out ∧ Below w.heap.size w wr) (fun _ i _ => 12 - (intOf i).toNat)
  case atStart => exact ⟨0, [], by omega, rfl, rfl, by simp, OwnS.nil _ _ _ _ _ _, Below.refl _ _⟩
  case round =>
    obtain ⟨T, out, hT, rfl, HO, hol, hown, hb⟩ := hrel
    by_cases hT12 : T < 12
    · have hTb : decide ((T : Int) < 12) = true := by simp; omega
      go_wp2_with fail
      obtain ⟨w1, rfl⟩ : ∃ w1 : World, w1 = wr := ⟨_, rfl⟩
      go_loopw [3, 5] (fun v i wr => ∃ (A : Nat) (row : List Out), A ≤ 8 ∧ i = .int .i64 A ∧ Hid (row = pickRow l T A) ∧ row.length ≤ A * 1000000 ∧ OwnS outR 2 w.heap.size 80 Non wr v (out ++ row) ∧ Below w.heap.size w wr) (fun _ i _ => 8 - (intOf i).toNat)
      case atStart => exact ⟨0, [], by omega, rfl, by show _ = _; simp [pickRow], by simp, by simpa using hown, hb⟩
      case round =>
        clear hown hb
        obtain ⟨A, row, hA, rfl, HR, hrl, hown, hb⟩ := hrel
        by_cases hA8 : A < 8
        · have hAb : decide ((A : Int) < 8) = true := by simp; omega
          go_wp2_with fail
          obtain ⟨w2, rfl⟩ : ∃ w2 : World, w2 = wr := ⟨_, rfl⟩
          go_loopw [3, 6] (fun v i wr => ∃ (k : Nat) (part : List Out), k ≤ l.length ∧ i = .int .i64 k ∧ Hid (part = pick (l.take k) T A) ∧ part.length ≤ k ∧ OwnS outR 2 w.heap.size 80 Non wr v (out ++ row ++ part) ∧ Below w.heap.size w wr) (fun _ i _ => l.length - (intOf i).toNat)
          case atStart => exact ⟨0, [], by omega, rfl, by show _ = _; simp [pick], by simp, by simpa using hown, hb⟩
          case round =>
            clear hown hb
            obtain ⟨k, part, hk, rfl, HP, hpl, hown, hb⟩ := hrel
            by_cases hlt : k < l.length
            · obtain ⟨t, a, hd, hka, ht, ha, b, off, rfl, _, c0, c1⟩ := (hs.below outR_ok hb).out_at hlt
              have hsnoc : Hid (l.take (k + 1) = l.take k ++ [⟨t, a⟩]) := by
                show _ = _
                rw [List.take_add_one, hka]; rfl
              clear hd hka hs
              by_cases h1 : t = T
              · by_cases h2 : a = A
                · subst h1 h2
                  have HPK : Hid (part ++ [⟨(T : Int), (A : Int)⟩] = pick (l.take (k + 1)) T A) := by
                    show _ = _
                    rw [hsnoc.out, HP.out]; simp [pick]
                  go_wp2_with (at_builtin; refine wpList_append_rep rfl (.tmp 37) (.tmp 42) 56 rfl w.heap.size 80 _ 2 16 Try.underlying56 outInfo rfl (by decide) outR_ok Non All u3 (out ++ row ++ part) rfl (hown.new outR_ok _) (some ⟨wr.heap.size, 0, none⟩) 1 [⟨(T : Int), (A : Int)⟩] rfl (one_out ht ha trivial) (fun _ _ h => h) (fun _ h => h.elim) (by simp; omega) (by simp; omega) (by have := hb.size; simp; omega) ?_; intro v' w3 ho hb1 hg)
                  go_roundw
                  case rel =>
                    have ho2 : OwnS outR 2 w.heap.size 80 Non w3 v' (out ++ row ++ (part ++ [⟨(T : Int), (A : Int)⟩])) := by simpa using ho
                    have hb2 := (bnew hb (.cells #[.int .i64 (T : Int), .int .i64 (A : Int)] 80)).trans hb1
                    first
                      | exact ⟨k + 1, _, by omega, by go_num, HPK, by simp; omega, ho2, hb2⟩
                      | ((repeat apply Exists.intro); exact ⟨⟨k + 1, _, by omega, by go_num, HPK, by simp; omega, ho2, hb2⟩, rfl⟩)
                  case measure => simp [intOf]; omega
                · subst h1
                  have h2b : ((a : Int) == (A : Int)) = false := by simp [h2]
                  have HPK : Hid (part = pick (l.take (k + 1)) T A) := by
                    show _ = _
                    rw [hsnoc.out, HP.out]; simp [pick, h2]
                  clear h2
                  go_wp2_with fail
                  go_roundw
                  case rel => exact ⟨k + 1, _, by omega, by go_num, HPK, by omega, hown, hb⟩
                  case measure => simp [intOf]; omega
              · have h1b : ((t : Int) == (T : Int)) = false := by simp [h1]
                have HPK : Hid (part = pick (l.take (k + 1)) T A) := by
                  show _ = _
                  rw [hsnoc.out, HP.out]; simp [pick, h1]
                clear h1
                go_wp2_with fail
                go_roundw
                case rel => exact ⟨k + 1, _, by omega, by go_num, HPK, by omega, hown, hb⟩
                case measure => simp [intOf]; omega
            · go_wp2_with fail
              go_roundw
              case rel =>
                refine ⟨A + 1, row ++ part, by omega, by go_num, ?_, by simp; omega, by simpa using hown, hb⟩
                show _ = _
                rw [pickRow_succ, ← HR.out, HP.out, List.take_of_length_le (by omega)]
              case measure => simp [intOf]; omega
        · go_wp2_with fail
          go_roundw
          case rel =>
            refine ⟨T + 1, out ++ row, by omega, by go_num, ?_, by simp; omega, hown, hb⟩
            show _ = _
            have : A = 8 := by omega
            subst this
            rw [picks_succ, ← HO.out, ← HR.out]
          case measure => simp [intOf]; omega
    · have h12 : T = 12 := by omega
      subst h12
      go_wp2_with fail
      go_ret
      exact ⟨_, rfl, by rw [← HO.out]; exact hown, hb⟩

end Go.Proofs.Ytmjcjmljnliaoaa

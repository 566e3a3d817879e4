/-
  slices.Sorted(slices.Values(l)), slices.Clone and slices.Reverse at integers.
-/
import Derived.Test.YtmjcjmljnliaoaaIterV
import Derived.Test.YtmjcjmljnliaoaaRow1
import Derived.Test.YtmjcjmljnliaoaaClone
set_option linter.unusedVariables false
set_option linter.unusedSimpArgs false
namespace Go.Proofs.Ytmjcjmljnliaoaa
open Go.RowKit

theorem values_any (oa : Option Addr) (n c : Nat) (w : World) :
    Calls Try.prog 58 #[.slice oa n c] w fun e w' => e = .returned (.func (.func 111) #[] #[.pointer (some ⟨w.heap.size, 0, none⟩)]) ∧ w' = w.alloc (.cells #[.slice oa n c] 22) := by
  go_enter Try.func58, Try.ntmps58
  go_wp2_with fail
  go_ret
  exact ⟨rfl, rfl⟩

theorem appendSeq_any (Bs : Nat) (sv : Value) (zs : List Int) (hlen : zs.length ≤ 1000000) (w : World) (hBs : Bs < w.heap.size) (hc : w.cell? ⟨Bs, 0, none⟩ = some sv) (hI : IntsBelow w.heap.size w sv zs) :
    Calls Try.prog 133 #[.slice none 0 0, .func (.func 111) #[] #[.pointer (some ⟨Bs, 0, none⟩)]] w (ApPost w zs) :=
  (callsIn_wide (n := 3)).1 (appendSeq_in Go.Fence.wide 3 trivial trivial rfl (by omega) Bs sv zs hlen w hBs hc hI)

theorem collect_any (Bs : Nat) (sv : Value) (zs : List Int) (hlen : zs.length ≤ 1000000) (w : World) (hBs : Bs < w.heap.size) (hc : w.cell? ⟨Bs, 0, none⟩ = some sv) (hI : IntsBelow w.heap.size w sv zs) :
    Calls Try.prog 109 #[.func (.func 111) #[] #[.pointer (some ⟨Bs, 0, none⟩)]] w (ApPost w zs) := by
  go_enter Try.func109, Try.ntmps109
  go_wp2_with fail
  refine (appendSeq_any Bs sv zs hlen _ hBs hc hI).mono ?_
  rintro e w' ⟨v, rfl, ho, hb⟩
  go_wp2_with fail
  go_ret
  exact ⟨v, rfl, ho, hb⟩

theorem OwnQ.of_row {base : Nat} {e : TypeId} {w : World} {v : Value} {zs : List Int} (h : w.ownsRow base e 1 v zs.length (zs.map (Value.int .i64))) (hz : ∀ x ∈ zs, I64 x) : (v = .slice none 0 0 ∧ zs = []) ∨ OwnQ base e w v zs := by
  rcases h.2 with ⟨rfl, hn⟩ | ⟨g, cap, cur, rfl, hg, hh, hle, hcm, hcs, htake⟩
  · exact .inl ⟨rfl, List.eq_nil_of_length_eq_zero hn⟩
  · exact .inr ⟨g, 0, cap, cur, rfl, hg, hh, hle, hcm, by omega, by simpa using htake, hz⟩

def SortedPost (w : World) (zs : List Int) (e : Ending) (w' : World) : Prop :=
  ∃ oa c, e = .returned (.slice oa zs.length c) ∧ zs.length ≤ c ∧ SliceR intR 1 All w' oa (zs.mergeSort fun x y => decide (x ≤ y)) ∧ Below w.heap.size w w'

theorem sortedV_any (Bs : Nat) (sv : Value) (zs : List Int) (hz : ∀ x ∈ zs, I64 x) (hlen : zs.length ≤ 1000000) (w : World) (hBs : Bs < w.heap.size) (hc : w.cell? ⟨Bs, 0, none⟩ = some sv) (hI : IntsBelow w.heap.size w sv zs) :
    Calls Try.prog 57 #[.func (.func 111) #[] #[.pointer (some ⟨Bs, 0, none⟩)]] w (SortedPost w zs) := by
  go_enter Try.func57, Try.ntmps57
  go_wp2_with fail
  refine (collect_any Bs sv zs hlen _ hBs hc hI).mono ?_
  rintro e w2 ⟨v, rfl, ho, hb⟩
  rcases OwnQ.of_row ho hz with ⟨rfl, rfl⟩ | hq
  · go_wp2_with fail
    refine (Try.slices_Sort_int_none none 0 w2).mono ?_
    rintro e w3 ⟨rfl, rfl⟩
    go_wp2_with fail
    go_ret
    exact ⟨none, 0, rfl, by simp, by simpa using SliceR.nil _ _ _ _ _, hb⟩
  · go_wp2_with fail
    refine (sortI_any _ _ _ _ _ hq (by omega)).mono ?_
    rintro e w3 ⟨rfl, hq2, hg⟩
    obtain ⟨oa, c, rfl, hc2, hs⟩ := hq2.slice
    go_wp2_with fail
    go_ret
    rw [List.length_mergeSort] at hc2
    exact ⟨oa, c, by simp, hc2, hs.all intR_ok (by omega), hb.grown hg hb.size fun k hk => (hq.block k hk).1⟩

theorem cloneI_any (l : List Int) (oa : Option Addr) (c : Nat) (F : Foot) (w : World) (hs : SliceR intR 1 F w oa l) (hc : l.length ≤ c) (hc2 : l.length ≤ 1000000000000) :
    Calls Try.prog 59 #[.slice oa l.length c] w fun e w' => ∃ v, e = .returned v ∧ OwnS intR 1 w.heap.size 3 Non w' v l ∧ Below w.heap.size w w' := by
  cases oa with
  | none =>
    have hl : l = [] := by
      cases l with
      | nil => rfl
      | cons x r => obtain ⟨b, off, cs, h, _⟩ := hs 0 x rfl; cases h
    subst hl
    have hq : ∀ w : World, (binOp .eql 22 (.slice none 0 c) (.slice none 0 0)).run Try.prog w = .ok (.bool true) w := fun w => Lib.run_eql_slice_nil w _ 3 none 0 c 0 0 Try.underlying22
    go_enter Try.func59, Try.ntmps59
    go_wp2_with fail
    go_ret
    exact ⟨_, rfl, OwnS.nil _ _ _ _ _ _, Below.refl _ _⟩
  | some ad =>
    have hq : ∀ w : World, (binOp .eql 22 (.slice (some ad) l.length c) (.slice none 0 0)).run Try.prog w = .ok (.bool false) w := fun w => Lib.run_eql_slice_nil w _ 3 (some ad) l.length c 0 0 Try.underlying22
    go_enter Try.func59, Try.ntmps59
    go_wp2_with (at_builtin; refine wpList_append_rep rfl (.tmp 5) (.tmp 6) 22 rfl w.heap.size 3 _ 1 8 Try.underlying22 intInfo rfl (by decide) intR_ok Non F (.slice (some ⟨w.heap.size, 0, none⟩) 0 0) [] rfl (OwnS.made _ _ _ _ _) (some ad) c l rfl (hs.below intR_ok (bnew (Below.refl _ _) _)) (fun _ _ h => h) (fun _ h => h.elim) (by simp; omega) (by simp; omega) (by simp) ?_; intro v' w1 ho hb1 hg)
    go_ret
    exact ⟨_, rfl, by simpa using ho, (bnew (Below.refl _ _) _).trans hb1⟩

theorem swap_perm {ys : List Int} {i j : Nat} {a b : Int} (hi : ys[i]? = some a) (hj : ys[j]? = some b) (hij : i < j) : ((ys.set i b).set j a).Perm ys := by
  have hjl : j < ys.length := (List.getElem?_eq_some_iff.1 hj).1
  have e1 : ys = ys.take i ++ a :: ((ys.drop (i + 1)).take (j - (i + 1)) ++ b :: ys.drop (j + 1)) := by
    have h1 := List.drop_eq_getElem_cons (l := ys) (i := i) (by omega)
    have h2 := List.drop_eq_getElem_cons (l := ys) (i := j) hjl
    have ha : ys[i] = a := by rw [List.getElem?_eq_getElem (by omega)] at hi; injection hi
    have hb : ys[j] = b := by rw [List.getElem?_eq_getElem hjl] at hj; injection hj
    rw [ha] at h1
    rw [hb] at h2
    have h3 : ys.drop (i + 1) = (ys.drop (i + 1)).take (j - (i + 1)) ++ b :: ys.drop (j + 1) := by
      have h4 := (List.take_append_drop (j - (i + 1)) (ys.drop (i + 1))).symm
      rw [List.drop_drop, show i + 1 + (j - (i + 1)) = j from by omega, h2] at h4
      exact h4
    have h5 := (List.take_append_drop i ys).symm
    rw [h1, h3] at h5
    exact h5
  generalize hA : ys.take i = A at e1
  generalize hB : (ys.drop (i + 1)).take (j - (i + 1)) = B at e1
  generalize hC : ys.drop (j + 1) = C at e1
  have hAl : A.length = i := by rw [← hA]; simp; omega
  have hBl : B.length = j - (i + 1) := by rw [← hB]; simp; omega
  have e2 : (ys.set i b).set j a = A ++ b :: (B ++ a :: C) := by
    rw [e1, List.set_append_right _ _ (by omega), hAl, Nat.sub_self, List.set_cons_zero, List.set_append_right _ _ (by omega), hAl]
    rw [show j - i = (j - (i + 1)) + 1 from by omega, List.set_cons_succ, List.set_append_right _ _ (by omega), hBl, Nat.sub_self, List.set_cons_zero]
  rw [e2, e1]
  refine List.Perm.append_left A ?_
  have h1 : (b :: (B ++ a :: C)).Perm (b :: a :: (B ++ C)) := List.Perm.cons b List.perm_middle
  have h2 : (a :: (B ++ b :: C)).Perm (a :: b :: (B ++ C)) := List.Perm.cons a List.perm_middle
  exact h1.trans ((List.Perm.swap a b _).trans h2.symm)

set_option maxRecDepth 100000 in
set_option maxHeartbeats 1000000 in
theorem reverse_any (xs : List Int) (g cap : Nat) (e : TypeId) (rest : List Value) (w : World) (hr : Row1 (Value.int .i64) w g e xs rest) (hlen : xs.length ≤ 1000000) :
    Calls Try.prog 60 #[.slice (some ⟨g, 0, none⟩) xs.length cap] w fun e' w' => e' = .returned (.tuple #[]) ∧ ∃ ys, ys.Perm xs ∧ Row1 (Value.int .i64) w' g e ys rest ∧ (∀ B, B ≤ g → Below B w w') := by
  go_enter Try.func60, Try.ntmps60
  go_wp2_with fail
  go_loopw [2, 3] (fun iv jv wr => ∃ (k : Nat) (ys : List Int), k ≤ xs.length ∧ iv = .int .i64 k ∧ jv = .int .i64 ((xs.length : Int) - 1 - k) ∧ Hid (ys.Perm xs) ∧ Row1 (Value.int .i64) wr g e ys rest ∧ Hid (∀ B, B ≤ g → Below B w wr)) (fun iv _ _ => xs.length - (intOf iv).toNat)
  case atStart => exact ⟨0, xs, by omega, rfl, by simp, List.Perm.refl _, hr, fun B _ => Below.refl B w⟩
  case round =>
    obtain ⟨k, ys, hk, rfl, rfl, HP, hrr, HB⟩ := hrel
    have hyl := HP.out.length_eq
    by_cases hlt : (k : Int) < (xs.length : Int) - 1 - k
    · obtain ⟨j, hj⟩ : ∃ j : Nat, (xs.length : Int) - 1 - k = j := ⟨xs.length - 1 - k, by omega⟩
      have hj2 : j = xs.length - 1 - k := by omega
      rw [hj] at hlt ⊢
      have hkj : k < j := by omega
      have hjl : j < xs.length := by omega
      obtain ⟨a, ha⟩ : ∃ a, ys[k]? = some a := ⟨_, List.getElem?_eq_getElem (by omega)⟩
      obtain ⟨b, hb⟩ : ∃ b, ys[j]? = some b := ⟨_, List.getElem?_eq_getElem (by omega)⟩
      have ca := hrr.cell ha
      have cb := hrr.cell hb
      have fa := hrr.free k
      have fb := hrr.free j
      have hp1 := (hrr.put (i := k) (by omega) b).put (i := j) (by simp; omega) a
      have HR := hide hp1.draw
      have HP2 : Hid (((ys.set k b).set j a).Perm xs) := (swap_perm ha hb hkj).trans HP.out
      have HJ := hide hj2
      clear ha hb hp1 hrr hj hj2 HP hyl hlt
      go_wp2_with fail
      go_region
      go_wp2_with fail
      go_roundw
      case rel =>
        refine ⟨k + 1, _, by omega, by go_num, ?_, HP2, HR.out, fun B hB => (((HB.out B hB).setCell (p := ⟨g, k, none⟩) hB _).setCell (p := ⟨g, j, none⟩) hB _).drew⟩
        have := HJ.out
        go_num
      case measure => simp [intOf]; omega
    · go_wp2_with fail
      go_end0
      exact ⟨rfl, ys, HP.out, hrr, HB.out⟩

theorem reverse_none (a : Option Addr) (c : Nat) (w : World) : Calls Try.prog 60 #[.slice a 0 c] w fun e' w' => e' = .returned (.tuple #[]) ∧ w = w' := by
  go_enter Try.func60, Try.ntmps60
  go_wp2_with fail
  go_loop [2, 3] (fun iv jv => iv = .int .i64 0 ∧ jv = .int .i64 (-1)) (fun _ _ => 0)
  case atStart => exact ⟨rfl, rfl⟩
  case round =>
    obtain ⟨rfl, rfl⟩ := hrel
    go_wp2_with fail
    go_end0
    exact ⟨rfl, rfl⟩

def RevPost (base : Nat) (up : List Int) (v : Value) (w : World) (e' : Ending) (w' : World) : Prop :=
  e' = .returned (.tuple #[]) ∧ ∃ oa c ys, v = .slice oa ys.length c ∧ ys.length ≤ c ∧ ys.Perm up ∧ SliceR intR 1 All w' oa ys ∧ Below base w w'

theorem reverse_own {base : Nat} {v : Value} {up : List Int} {w : World} (ho : OwnS intR 1 base 3 Non w v up) (hlen : up.length ≤ 1000000) (hb : base ≤ w.heap.size) :
    Calls Try.prog 60 #[v] w (RevPost base up v w) := by
  by_cases hne : up = []
  · subst hne
    obtain ⟨oa, c, rfl, hc, hs⟩ := ho.slice intR_ok
    refine (reverse_none oa c w).mono ?_
    rintro e w' ⟨rfl, rfl⟩
    exact ⟨rfl, oa, c, [], rfl, hc, List.Perm.refl _, hs.all intR_ok (by omega), Below.refl _ _⟩
  · obtain ⟨g, cap, rest, rfl, hg, hcap, hcm, hr, h64⟩ := ho.row hne
    refine (reverse_any up g cap _ rest w hr hlen).mono ?_
    rintro e w' ⟨rfl, ys, hp, hr2, hbb⟩
    have hyl := hp.length_eq
    exact ⟨rfl, _, cap, ys, by rw [hyl], by omega, hp, hr2.ints (fun x hx => h64 x (hp.mem_iff.1 hx)) trivial, hbb base hg⟩

end Go.Proofs.Ytmjcjmljnliaoaa

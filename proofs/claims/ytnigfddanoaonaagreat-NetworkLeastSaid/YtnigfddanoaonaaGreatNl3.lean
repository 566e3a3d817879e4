/-
  The merge of two sorted parts of a row: both parts have at least two elements.
  The stable sort of a row of outputs: blocks of 20, then merges.
  The examples of chapter 54: Vertex, Rotor, Setter.
  awake: the examples of chapter 54 hold.
  The walk of ProcessorRuns.
  The walk of ProcessorCommutes.
  right: whether a processor, a state and a word are right and small.
  slices.Grow of the nil slice, and slices.Concat, at lists of outputs.
  The walk of ProcessorSplits.
  slices.Min of ints: whether it is negative.
  slices.Repeat of a list of one integer.
  Counts of letters: the least count, the error of counts, the word of counts.
  The word of counts and the error of counts: the reference.
  The error of counts: the reference.
  Many: the program.
  An abelian processor reads a word in whatever order with the same end and the same outputs up to order.
  network.Abelian, network.Moves.
  A network that runs, in memory: make, a move.
  Networks that run, in plain Lean: a move keeps a network right; a run by picks.
  network.Moves, network.counted.
-/
import Derived.Test.YtnigfddanoaonaaGreatNl2
import Derived.Deep.DeepCutAuto
import Derived.Test.YtnigfddanoaonaaGreatProg
import Derived.Lib.AppendZeros
import Derived.Deep.QuietTactic
import Derived.BigQuiet
import Derived.StillTailTactics
import Derived.Laws.CopyOwn
import Derived.OwnWalk
import Derived.Laws.Bits64b
import Derived.Deep.RegionLaw

set_option linter.unusedVariables false
namespace Go.Proofs.YtnigfddanoaonaaGreat
open Go.RowKit

def SymUpto (L : Nat) : Prop := ∀ (X A B Y : List Out) (rest : List Value) (g kb ka n c : Nat) (P Q E : Int) (w : World), RowO w g (X ++ (A ++ (B ++ Y))) rest → Keys w kb ka → Hid (n = (X ++ (A ++ (B ++ Y))).length) → Hid (P = X.length) → Hid (Q = X.length + A.length) → Hid (E = X.length + A.length + B.length) → Hid (A ≠ []) → Hid (B ≠ []) → Hid (Srt A) → Hid (Srt B) → Hid (A.length + B.length ≤ L) → n ≤ 1000000000000000 →
    Calls Tryz.prog 179 #[.slice (some ⟨g, 0, none⟩) n c, .int .i64 P, .int .i64 Q, .int .i64 E, .func (.func 170) #[] #[.pointer (some ⟨kb, 0, none⟩)]] w fun e w' =>
      e = .returned (.tuple #[]) ∧ RowO w' g (X ++ (isort (A ++ B) ++ Y)) rest ∧ w.grownBy w' (some g)

def R1 (w : World) (g : Nat) (X A1 A2 B1 B2 Y : List Out) (rest : List Value) (wx : World) : Prop := RowO wx g (X ++ (A1 ++ (B1 ++ (A2 ++ (B2 ++ Y))))) rest ∧ w.grownBy wx (some g)
def R2 (w : World) (g : Nat) (X A1 A2 B1 B2 Y : List Out) (rest : List Value) (wx : World) : Prop := RowO wx g (X ++ (isort (A1 ++ B1) ++ (A2 ++ (B2 ++ Y)))) rest ∧ w.grownBy wx (some g)
def R3 (w : World) (g : Nat) (X A1 A2 B1 B2 Y : List Out) (rest : List Value) (wx : World) : Prop := RowO wx g (X ++ (isort (A1 ++ B1) ++ (isort (A2 ++ B2) ++ Y))) rest ∧ w.grownBy wx (some g)

set_option maxRecDepth 100000 in
set_option maxHeartbeats 8000000 in
theorem sym_gen {L : Nat} (IH : Hid (SymUpto L)) (X A B Y : List Out) (rest : List Value) (g kb ka n a m b c : Nat) (w : World) (hr : RowO w g (X ++ (A ++ (B ++ Y))) rest) (hk : Keys w kb ka) (hn : Hid (n = (X ++ (A ++ (B ++ Y))).length)) (ha : Hid (a = X.length)) (hm : Hid (m = a + A.length)) (hb : Hid (b = m + B.length)) (hA : Hid (Srt A)) (hB : Hid (Srt B)) (hA1 : Hid (2 ≤ A.length)) (hB1 : Hid (2 ≤ B.length)) (hL : Hid (A.length + B.length ≤ L + 1)) (hlen : n ≤ 1000000000000000) :
    Calls Tryz.prog 179 #[.slice (some ⟨g, 0, none⟩) n c, .int .i64 a, .int .i64 m, .int .i64 b, .func (.func 170) #[] #[.pointer (some ⟨kb, 0, none⟩)]] w fun e w' =>
      e = .returned (.tuple #[]) ∧ RowO w' g (X ++ (isort (A ++ B) ++ Y)) rest ∧ w.grownBy w' (some g) := by
  have hne := hk.ne hr
  have hbn : a < m ∧ m < b ∧ b ≤ n := by have h1 := hn.out; have h2 := ha.out; have h3 := hb.out; have h4 := hm.out; have h5 := hA1.out; have h6 := hB1.out; simp at h1; omega
  have hbn1 := hbn.1
  have hbn2 := hbn.2.1
  have hbn3 := hbn.2.2
  clear hbn
  have hone0 : ((m : Int) - a == 1) = false := by have := hm.out; have := hA1.out; simp; omega
  have hone : ((b : Int) - m == 1) = false := by have := hb.out; have := hB1.out; simp; omega
  obtain ⟨mid, hmd⟩ : ∃ mid, mid = (a + b) / 2 := ⟨_, rfl⟩
  have hmid : ((a : Int) + b) / 2 = (mid : Int) := by omega
  have hm1 : a < mid := by have := hm.out; have := hA1.out; omega
  have hm2 : mid < b := by omega
  have HMID := hide hmd
  clear hmd
  obtain ⟨s0, r0, hcase⟩ : ∃ s0 r0 : Nat, (mid < m ∧ decide ((mid : Int) < (m : Int)) = true ∧ Hid (s0 = mid + m - b) ∧ Hid (r0 = mid)) ∨ (m ≤ mid ∧ decide ((mid : Int) < (m : Int)) = false ∧ Hid (s0 = a) ∧ Hid (r0 = m)) := by
    by_cases h : mid < m
    · exact ⟨_, _, .inl ⟨h, by simp; omega, rfl, rfl⟩⟩
    · exact ⟨_, _, .inr ⟨by omega, by simp; omega, rfl, rfl⟩⟩
  have hs0 : a ≤ s0 ∧ mid + m - b ≤ s0 ∧ s0 ≤ r0 ∧ r0 ≤ m ∧ r0 ≤ mid ∧ mid - a ≤ m - a + (b - m) := by
    have h3 := HMID.out
    rcases hcase with ⟨h, _, h1, h2⟩ | ⟨h, _, h1, h2⟩ <;> (have h1 := h1.out; have h2 := h2.out; omega)
  have hs1 := hs0.1
  have hs2 := hs0.2.1
  have hs3 := hs0.2.2.1
  have hs4 := hs0.2.2.2.1
  have hs5 := hs0.2.2.2.2.1
  clear hs0
  have hends : Hid ((s0 = a ∨ s0 = mid + m - b) ∧ (r0 = mid ∨ r0 = m)) := by
    rcases hcase with ⟨h, _, h1, h2⟩ | ⟨h, _, h1, h2⟩ <;> (have h1 := h1.out; have h2 := h2.out; show _ ∧ _; omega)
  have HC := hide hcase
  clear hcase
  go_enter Tryz.func179, Tryz.ntmps179
  go_upto_if 140 with fail
  go_cut [20, 21] (fun s20 s21 wx => s20 = .int .i64 s0 ∧ s21 = .int .i64 r0 ∧ w = wx)
  case first =>
    rcases HC.out with ⟨hmm, hmm', hcs, hcr⟩ | ⟨hmm, hmm', hcs, hcr⟩
    · clear HC
      go_wp2_with fail
      go_meet
      refine ⟨?_, ?_, rfl⟩
      · have h := hcs.out; congr 1; omega
      · have h := hcr.out; congr 1; omega
    · clear HC
      go_wp2_with fail
      go_meet
      refine ⟨?_, ?_, rfl⟩
      · have h := hcs.out; congr 1; omega
      · have h := hcr.out; congr 1; omega
  clear HC
  obtain ⟨rfl, rfl, rfl⟩ := hcut
  go_wp2_with fail
  go_loopw [20, 21] (fun iv jv wr => ∃ (s r : Nat), iv = .int .i64 s ∧ jv = .int .i64 r ∧ s0 ≤ s ∧ s ≤ r ∧ r ≤ r0 ∧ 
    Hid (s = s0 ∨ ∀ x y, A[s - 1 - a]? = some x → B[mid - s]? = some y → leO x y) ∧ Hid (r = r0 ∨ ∀ x y, A[r - a]? = some x → B[mid - 1 - r]? = some y → leO y x) ∧ RowO wr g (X ++ (A ++ (B ++ Y))) rest ∧ w.grownBy wr (some g)) (fun i j _ => (intOf j).toNat - (intOf i).toNat)
  case atStart =>
    exact ⟨s0, r0, rfl, rfl, by omega, by omega, by omega, .inl rfl, .inl rfl, hr, grown_refl _ _⟩
  case round =>
    obtain ⟨s, r, rfl, rfl, hss, hsr, hrr0, HS, HR, hrr, hgr⟩ := hrel
    by_cases hlt : s < r
    · obtain ⟨h, hh⟩ : ∃ h, h = (s + r) / 2 := ⟨_, rfl⟩
      have hhi : s ≤ h := by omega
      have hhj : h < r := by omega
      have hmid2 : ((s : Int) + r) / 2 = (h : Int) := by omega
      clear hh
      obtain ⟨q, hq⟩ : ∃ q, q = mid + m - 1 - h := ⟨_, rfl⟩
      have hpc : (mid : Int) + m - 1 - h = (q : Int) := by omega
      have hq1 : m ≤ q := by omega
      have hq2 : q < b := by omega
      have HQ := hide hq
      clear hq
      obtain ⟨⟨yt, yl⟩, hy⟩ : ∃ y, A[h - a]? = some y := ⟨A[h - a]'(by have := hm.out; omega), List.getElem?_eq_getElem _⟩
      obtain ⟨⟨xt, xl⟩, hx⟩ : ∃ x, B[q - m]? = some x := ⟨B[q - m]'(by have := hb.out; omega), List.getElem?_eq_getElem _⟩
      have hyd : (X ++ (A ++ (B ++ Y)))[h]? = some ⟨yt, yl⟩ := by
        have h1 := get_in X A (B ++ Y) hy
        rw [show X.length + (h - a) = h from by have := ha.out; omega] at h1
        exact h1
      have hxd : (X ++ (A ++ (B ++ Y)))[q]? = some ⟨xt, xl⟩ := by
        have h1 := get_in (X ++ A) B Y hx
        rw [List.append_assoc, show (X ++ A).length + (q - m) = q from by have := ha.out; have := hm.out; simp; omega] at h1
        exact h1
      obtain ⟨cy0, cy1⟩ := hrr.cells hyd
      obtain ⟨cx0, cx1⟩ := hrr.cells hxd
      have hkw := hide ((hk.grown hne hgr).grown hne (grown_drew (grown_refl wr (some g))))
      have HY := hide hy
      have HX := hide hx
      clear hyd hxd hy hx
      have b1 : 0 ≤ (h : Int) := by omega
      have b2 : (h : Int) < (n : Int) := by omega
      have b3 : 0 ≤ (q : Int) := by omega
      have b4 : (q : Int) < (n : Int) := by omega
      have b5 : IntKind.i64.wrap (q : Int) = (q : Int) := IntWalk.i64_in _ (by omega)
      by_cases hle : leO ⟨yt, yl⟩ ⟨xt, xl⟩
      · have hcm : 0 ≤ cmpO ⟨xt, xl⟩ ⟨yt, yl⟩ := by have := (cmpO_neg (a := ⟨xt, xl⟩) (b := ⟨yt, yl⟩)); simp only [hle, not_true, iff_false] at this; omega
        have hcd : decide (cmpO ⟨xt, xl⟩ ⟨yt, yl⟩ < 0) = false := by simp; omega
        have HLE := hide hle
        clear hle
        go_wp2_with fail
        go_still_tail 11, (by kernel_rfl)
        change wpList _ _ _ _ _ wr.drew
        clear b1 b2 b3 b4 b5
        go_wp2_with fail
        refine (cmpO_any xt xl yt yl kb ka wr.drew hkw).mono ?_
        rintro e2 w2 ⟨rfl, hb2⟩
        go_wp2_with fail
        go_roundw
        case rel =>
          refine ⟨h + 1, r, by go_num, rfl, by omega, by omega, by omega, .inr fun x y hx hy => ?_, HR, RowO.below (w := wr.drew) hrr hb2, grown_below (grown_drew hgr) hb2⟩
          have h3 := HQ.out
          rw [show h + 1 - 1 - a = h - a from by omega, HY.out] at hx
          rw [show mid - (h + 1) = q - m from by omega, HX.out] at hy
          injection hx with hx
          injection hy with hy
          subst hx hy
          exact HLE.out
        case measure => simp [intOf]; omega
      · have hcm : cmpO ⟨xt, xl⟩ ⟨yt, yl⟩ < 0 := cmpO_neg.2 hle
        have HLE := hide hle
        clear hle
        go_wp2_with fail
        go_still_tail 11, (by kernel_rfl)
        change wpList _ _ _ _ _ wr.drew
        clear b1 b2 b3 b4 b5
        go_wp2_with fail
        refine (cmpO_any xt xl yt yl kb ka wr.drew hkw).mono ?_
        rintro e2 w2 ⟨rfl, hb2⟩
        go_wp2_with fail
        go_roundw
        case rel =>
          refine ⟨s, h, rfl, by go_num, by omega, by omega, by omega, HS, .inr fun x y hx hy => ?_, RowO.below (w := wr.drew) hrr hb2, grown_below (grown_drew hgr) hb2⟩
          have h3 := HQ.out
          rw [HY.out] at hx
          rw [show mid - 1 - h = q - m from by omega, HX.out] at hy
          injection hx with hx
          injection hy with hy
          subst hx hy
          exact (leO_total _ _).resolve_left HLE.out
        case measure => simp [intOf]; omega
    · have hij2 : r = s := by omega
      subst hij2
      clear hlt hsr
      obtain ⟨A1, A2, rfl, HA1⟩ : ∃ A1 A2, A = A1 ++ A2 ∧ Hid (r = a + A1.length) := ⟨A.take (r - a), A.drop (r - a), (List.take_append_drop _ _).symm, by have := hm.out; show _ = _; simp; omega⟩
      obtain ⟨B1, B2, rfl, HB1⟩ : ∃ B1 B2, B = B1 ++ B2 ∧ Hid (mid = r + B1.length) := ⟨B.take (mid - r), B.drop (mid - r), (List.take_append_drop _ _).symm, by have := hb.out; show _ = _; simp; omega⟩
      have HAL : Hid (m = r + A2.length) := by have h1 := hm.out; have h2 := HA1.out; show _ = _; simp at h1; omega
      have HBL : Hid (b = m + B1.length + B2.length) := by have h1 := hb.out; show _ = _; simp at h1; omega
      have HMG : Hid (isort (A1 ++ B1) ++ isort (A2 ++ B2) = isort ((A1 ++ A2) ++ (B1 ++ B2))) := by
        have e1 := HA1.out
        have e2 := HB1.out
        have e3 := HAL.out
        have e4 := HBL.out
        have e5 := hends.out
        refine merge_parts hA.out hB.out ?_ ?_
        · intro x y hx hy
          have n1 : A1 ≠ [] := by rintro rfl; simp at hx
          have n2 : B2 ≠ [] := by rintro rfl; simp at hy
          have n1 := List.length_pos_iff.2 n1
          have n2 := List.length_pos_iff.2 n2
          rcases HS.out with h | h
          · omega
          · refine h x y ?_ ?_
            · rw [List.getElem?_append_left (by omega), show r - 1 - a = A1.length - 1 from by omega, ← List.getLast?_eq_getElem?]
              exact hx
            · rw [List.getElem?_append_right (by omega), show mid - r - B1.length = 0 from by omega, ← List.head?_eq_getElem?]
              exact hy
        · intro x y hx hy
          have n1 : B1 ≠ [] := by rintro rfl; simp at hx
          have n2 : A2 ≠ [] := by rintro rfl; simp at hy
          have n1 := List.length_pos_iff.2 n1
          have n2 := List.length_pos_iff.2 n2
          rcases HR.out with h | h
          · omega
          · refine h y x ?_ ?_
            · rw [List.getElem?_append_right (by omega), show r - a - A1.length = 0 from by omega, ← List.head?_eq_getElem?]
              exact hy
            · rw [List.getElem?_append_left (by omega), show mid - 1 - r = B1.length - 1 from by omega, ← List.getLast?_eq_getElem?]
              exact hx
      clear HS HR hends hss hrr0 hs1 hs2 hs3 hs4 hs5
      obtain ⟨t, ht⟩ : ∃ t, t = m + B1.length := ⟨_, rfl⟩
      have htt : (mid : Int) + m - r = (t : Int) := by have := HB1.out; omega
      have HTT := hide ht
      clear ht
      have ROT : Hid (r < m → m < t → Calls Tryz.prog 180 #[.slice (some ⟨g, 0, none⟩) n c, .int .i64 r, .int .i64 m, .int .i64 t, .func (.func 170) #[] #[.pointer (some ⟨kb, 0, none⟩)]] wr fun e w' =>
          e = .returned (.tuple #[]) ∧ R1 w g X A1 A2 B1 B2 Y rest w') := by
        intro c1 c2
        refine (rotate_any (X ++ A1) A2 B1 (B2 ++ Y) rest g kb n c r m t wr ?_ ?_ ?_ ?_ ?_ ?_ ?_ hlen).mono ?_
        · simpa using hrr
        · have h := hn.out; show _ = _; simp at h ⊢; omega
        · have h1 := HA1.out; have h2 := ha.out; show _ = _; simp; omega
        · have h1 := HA1.out; have h2 := ha.out; have h3 := HAL.out; show _ = _; simp; omega
        · have h1 := HA1.out; have h2 := ha.out; have h3 := HAL.out; have h4 := HTT.out; show _ = _; simp; omega
        · rintro rfl; have h3 := HAL.out; simp at h3; omega
        · rintro rfl; have h3 := HTT.out; simp at h3; omega
        · rintro e w' ⟨rfl, h1, h2⟩
          exact ⟨rfl, by simpa using h1, grown_trans hgr h2⟩
      have ROT0 : Hid (¬ (r < m ∧ m < t) → R1 w g X A1 A2 B1 B2 Y rest wr) := by
        intro hx
        refine ⟨?_, hgr⟩
        have h3 := HAL.out
        have h4 := HTT.out
        by_cases c1 : r < m
        · have h0 : B1 = [] := List.eq_nil_of_length_eq_zero (by omega)
          subst h0
          simpa using hrr
        · have h0 : A2 = [] := List.eq_nil_of_length_eq_zero (by omega)
          subst h0
          simpa using hrr
      have LEFT : Hid (∀ wx, a < r → r < mid → R1 w g X A1 A2 B1 B2 Y rest wx → Calls Tryz.prog 179 #[.slice (some ⟨g, 0, none⟩) n c, .int .i64 a, .int .i64 r, .int .i64 mid, .func (.func 170) #[] #[.pointer (some ⟨kb, 0, none⟩)]] wx fun e w' =>
          e = .returned (.tuple #[]) ∧ R2 w g X A1 A2 B1 B2 Y rest w') := by
        intro wx c1 c2 hx
        have h1 := HA1.out; have h2 := ha.out; have h3 := HAL.out; have h4 := HBL.out; have h5 := HB1.out; have h6 := HMID.out; have h7 := hL.out; have h8 := hA1.out; have h9 := hB1.out
        refine (IH.out X A1 B1 (A2 ++ (B2 ++ Y)) rest g kb ka n c a r mid wx hx.1 (hk.grown hne hx.2) ?_ ?_ ?_ ?_ ?_ ?_ ?_ ?_ ?_ hlen).mono ?_
        · have h := hn.out; show _ = _; simp at h ⊢; omega
        · show _ = _; omega
        · show _ = _; omega
        · show _ = _; omega
        · rintro rfl; simp at h1; omega
        · rintro rfl; simp at h5; omega
        · exact srt_left hA.out
        · exact srt_left hB.out
        · show _ ≤ _; simp at h7 h8 h9; omega
        · rintro e w' ⟨rfl, h1, h2⟩
          exact ⟨rfl, h1, grown_trans hx.2 h2⟩
      have LEFT0 : Hid (∀ wx, ¬ (a < r ∧ r < mid) → R1 w g X A1 A2 B1 B2 Y rest wx → R2 w g X A1 A2 B1 B2 Y rest wx) := by
        rintro wx hx ⟨h1, h2⟩
        refine ⟨?_, h2⟩
        have h3 := HA1.out
        have h4 := HB1.out
        by_cases c1 : a < r
        · have h0 : B1 = [] := List.eq_nil_of_length_eq_zero (by omega)
          subst h0
          rw [List.append_nil, isort_id (srt_left hA.out)]
          simpa using h1
        · have h0 : A1 = [] := List.eq_nil_of_length_eq_zero (by omega)
          subst h0
          rw [List.nil_append, isort_id (srt_left hB.out)]
          simpa using h1
      have RIGHT : Hid (∀ wx, mid < t → t < b → R2 w g X A1 A2 B1 B2 Y rest wx → Calls Tryz.prog 179 #[.slice (some ⟨g, 0, none⟩) n c, .int .i64 mid, .int .i64 t, .int .i64 b, .func (.func 170) #[] #[.pointer (some ⟨kb, 0, none⟩)]] wx fun e w' =>
          e = .returned (.tuple #[]) ∧ R3 w g X A1 A2 B1 B2 Y rest w') := by
        intro wx c1 c2 hx
        have h1 := HA1.out; have h2 := ha.out; have h3 := HAL.out; have h4 := HBL.out; have h5 := HB1.out; have h6 := HMID.out; have h7 := hL.out; have h8 := hA1.out; have h9 := hB1.out; have h10 := HTT.out
        refine (IH.out (X ++ isort (A1 ++ B1)) A2 B2 Y rest g kb ka n c mid t b wx (by simpa using hx.1) (hk.grown hne hx.2) ?_ ?_ ?_ ?_ ?_ ?_ ?_ ?_ ?_ hlen).mono ?_
        · have h := hn.out; show _ = _; simp [isort_length] at h ⊢; omega
        · show _ = _; simp [isort_length]; omega
        · show _ = _; simp [isort_length]; omega
        · show _ = _; simp [isort_length]; omega
        · rintro rfl; simp at h3; omega
        · rintro rfl; simp at h4; omega
        · exact srt_right hA.out
        · exact srt_right hB.out
        · show _ ≤ _; simp at h7 h8 h9; omega
        · rintro e w' ⟨rfl, h1, h2⟩
          exact ⟨rfl, by simpa using h1, grown_trans hx.2 h2⟩
      have RIGHT0 : Hid (∀ wx, ¬ (mid < t ∧ t < b) → R2 w g X A1 A2 B1 B2 Y rest wx → R3 w g X A1 A2 B1 B2 Y rest wx) := by
        rintro wx hx ⟨h1, h2⟩
        refine ⟨?_, h2⟩
        have h3 := HAL.out
        have h4 := HBL.out
        have h5 := HB1.out
        have h6 := HTT.out
        by_cases c1 : mid < t
        · have h0 : B2 = [] := List.eq_nil_of_length_eq_zero (by omega)
          subst h0
          rw [List.append_nil, isort_id (srt_right hA.out)]
          simpa using h1
        · have h0 : A2 = [] := List.eq_nil_of_length_eq_zero (by omega)
          subst h0
          rw [List.nil_append, isort_id (srt_right hB.out)]
          simpa using h1
      have DONE : Hid (∀ wx, R3 w g X A1 A2 B1 B2 Y rest wx → RowO wx g (X ++ (isort ((A1 ++ A2) ++ (B1 ++ B2)) ++ Y)) rest ∧ w.grownBy wx (some g)) := by
        rintro wx ⟨h1, h2⟩
        refine ⟨?_, h2⟩
        rw [← HMG.out]
        simpa using h1
      have e5 : r < mid ↔ m < t := by have h1 := HB1.out; have h2 := HTT.out; omega
      have e6 : mid < t ↔ r < m := by have h1 := HB1.out; have h2 := HTT.out; have h3 := HAL.out; omega
      have E5 := hide e5
      have E6 := hide e6
      clear e5 e6 HMG hk hr hn
      obtain ⟨c1, c1'⟩ | ⟨c1, c1'⟩ : (r < m ∧ mid < t) ∨ (¬ r < m ∧ ¬ mid < t) := by have := E6.out; omega
      all_goals obtain ⟨c2, c2'⟩ | ⟨c2, c2'⟩ : (m < t ∧ r < mid) ∨ (¬ m < t ∧ ¬ r < mid) := by have := E5.out; omega
      · by_cases c3 : a < r
        · by_cases c4 : t < b
          · go_wp2_with fail
            refine (ROT.out c1 c2).mono ?_
            rintro e w1 ⟨rfl, h1⟩
            go_wp2_with fail
            refine (LEFT.out _ c3 c2' h1).mono ?_
            rintro e w2 ⟨rfl, h2⟩
            go_wp2_with fail
            refine (RIGHT.out _ c1' c4 h2).mono ?_
            rintro e w3 ⟨rfl, h3⟩
            go_wp2_with fail
            go_end0
            exact ⟨rfl, DONE.out _ h3⟩
          · go_wp2_with fail
            refine (ROT.out c1 c2).mono ?_
            rintro e w1 ⟨rfl, h1⟩
            go_wp2_with fail
            refine (LEFT.out _ c3 c2' h1).mono ?_
            rintro e w2 ⟨rfl, h2⟩
            go_wp2_with fail
            go_end0
            exact ⟨rfl, DONE.out _ (RIGHT0.out _ (by omega) h2)⟩
        · by_cases c4 : t < b
          · go_wp2_with fail
            refine (ROT.out c1 c2).mono ?_
            rintro e w1 ⟨rfl, h1⟩
            go_wp2_with fail
            refine (RIGHT.out _ c1' c4 (LEFT0.out _ (by omega) h1)).mono ?_
            rintro e w3 ⟨rfl, h3⟩
            go_wp2_with fail
            go_end0
            exact ⟨rfl, DONE.out _ h3⟩
          · go_wp2_with fail
            refine (ROT.out c1 c2).mono ?_
            rintro e w1 ⟨rfl, h1⟩
            go_wp2_with fail
            go_end0
            exact ⟨rfl, DONE.out _ (RIGHT0.out _ (by omega) (LEFT0.out _ (by omega) h1))⟩
      · have h1 := ROT0.out (by omega)
        have h2 := LEFT0.out _ (by omega) h1
        by_cases c4 : t < b
        · go_wp2_with fail
          refine (RIGHT.out _ c1' c4 h2).mono ?_
          rintro e w3 ⟨rfl, h3⟩
          go_wp2_with fail
          go_end0
          exact ⟨rfl, DONE.out _ h3⟩
        · exfalso; omega
      · have h1 := ROT0.out (by omega)
        by_cases c3 : a < r
        · go_wp2_with fail
          refine (LEFT.out _ c3 c2' h1).mono ?_
          rintro e w3 ⟨rfl, h2⟩
          go_wp2_with fail
          go_end0
          exact ⟨rfl, DONE.out _ (RIGHT0.out _ (by omega) h2)⟩
        · first
            | (exfalso; omega)
            | (go_wp2_with fail
               go_end0
               exact ⟨rfl, DONE.out _ (RIGHT0.out _ (by omega) (LEFT0.out _ (by omega) h1))⟩)
      · have h1 := ROT0.out (by omega)
        have h2 := LEFT0.out _ (by omega) h1
        go_wp2_with fail
        go_end0
        exact ⟨rfl, DONE.out _ (RIGHT0.out _ (by omega) h2)⟩

theorem sym_any : ∀ L, SymUpto L
  | 0 => by
    intro X A B Y rest g kb ka n c P Q E w hr hk hn hP hQ hE hA hB hsA hsB hL hlen
    have h1 := List.length_pos_iff.2 hA.out
    have h2 := hL.out
    omega
  | L + 1 => by
    intro X A B Y rest g kb ka n c P Q E w hr hk hn hP hQ hE hA hB hsA hsB hL hlen
    have hA0 := List.length_pos_iff.2 hA.out
    have hB0 := List.length_pos_iff.2 hB.out
    have h1 := hP.out
    have h2 := hQ.out
    have h3 := hE.out
    subst h1 h2 h3
    rw [show (X.length : Int) + A.length = ((X.length + A.length : Nat) : Int) from by omega, show ((X.length + A.length : Nat) : Int) + B.length = ((X.length + A.length + B.length : Nat) : Int) from by omega]
    by_cases a1 : A.length = 1
    · obtain ⟨⟨xt, xl⟩, rfl⟩ := List.length_eq_one_iff.1 a1
      exact sym_left X B Y xt xl rest g kb ka n _ _ _ c w hr hk hn rfl rfl rfl hsB hlen
    · by_cases b1 : B.length = 1
      · obtain ⟨⟨xt, xl⟩, rfl⟩ := List.length_eq_one_iff.1 b1
        exact sym_right X A Y xt xl rest g kb ka n _ _ _ c w hr hk hn rfl rfl rfl hsA a1 hlen
      · exact sym_gen (sym_any L) X A B Y rest g kb ka n _ _ _ c w hr hk hn rfl rfl rfl hsA hsB (by show _ ≤ _; omega) (by show _ ≤ _; omega) hL hlen

end Go.Proofs.YtnigfddanoaonaaGreat

set_option linter.unusedVariables false
namespace Go.Proofs.YtnigfddanoaonaaGreat
open Go.RowKit

inductive Bk (s : Nat) : List Out → Prop
  | last (l : List Out) : Srt l → l.length ≤ s → Bk s l
  | cons (l r : List Out) : Srt l → l.length = s → Bk s r → Bk s (l ++ r)
inductive Full (s : Nat) : List Out → Prop
  | nil : Full s []
  | snoc (D l : List Out) : Full s D → Srt l → l.length = s → Full s (D ++ l)
theorem Full.bk {s : Nat} {D : List Out} (h : Full s D) : ∀ {R : List Out}, Bk s R → Bk s (D ++ R) := by
  induction h with
  | nil => intro R hR; exact hR
  | snoc D l _ hs hl ih =>
    intro R hR
    rw [List.append_assoc]
    exact ih (Bk.cons l R hs hl hR)
theorem Bk.split {s : Nat} {R : List Out} (h : Bk s R) (hs : s ≤ R.length) : ∃ l r, R = l ++ r ∧ Srt l ∧ l.length = s ∧ Bk s r := by
  cases h with
  | last _ h1 h2 => exact ⟨R, [], by simp, h1, by omega, Bk.last [] List.Pairwise.nil (by simp)⟩
  | cons l r h1 h2 h3 => exact ⟨l, r, rfl, h1, h2, h3⟩
theorem Bk.small {s : Nat} {R : List Out} (h : Bk s R) (hs : R.length ≤ s) : Srt R := by
  cases h with
  | last _ h1 h2 => exact h1
  | cons l r h1 h2 h3 =>
    have : r = [] := List.eq_nil_of_length_eq_zero (by simp at hs; omega)
    subst this
    simpa using h1

theorem sym_int (X A B Y : List Out) (rest : List Value) (g kb ka n c : Nat) (P Q E : Int) (w : World) (hr : RowO w g (X ++ (A ++ (B ++ Y))) rest) (hk : Keys w kb ka) (hn : Hid (n = (X ++ (A ++ (B ++ Y))).length)) (hP : Hid (P = X.length)) (hQ : Hid (Q = X.length + A.length)) (hE : Hid (E = X.length + A.length + B.length)) (hA : A ≠ []) (hB : B ≠ []) (hsA : Srt A) (hsB : Srt B) (hlen : n ≤ 1000000000000000) :
    Calls Tryz.prog 179 #[.slice (some ⟨g, 0, none⟩) n c, .int .i64 P, .int .i64 Q, .int .i64 E, .func (.func 170) #[] #[.pointer (some ⟨kb, 0, none⟩)]] w fun e w' =>
      e = .returned (.tuple #[]) ∧ RowO w' g (X ++ (isort (A ++ B) ++ Y)) rest ∧ w.grownBy w' (some g) :=
  sym_any _ X A B Y rest g kb ka n c P Q E w hr hk hn hP hQ hE hA hB hsA hsB (Nat.le_refl _) hlen

set_option maxRecDepth 100000 in
set_option maxHeartbeats 4000000 in
theorem stable_any : StableUpto 1000000000000 := by
  intro d rest g kb ka c w hr hk hd
  have hne := hk.ne hr
  obtain ⟨n, hn⟩ : ∃ n, n = d.length := ⟨_, rfl⟩
  rw [← hn] at hd ⊢
  have HN := hide hn
  clear hn
  go_enter Tryz.func177, Tryz.ntmps177
  go_wp2_with fail
  go_loopw [7, 8] (fun av bv wr => ∃ (a : Nat) (D R : List Out), av = .int .i64 a ∧ bv = .int .i64 (a + 20 : Nat) ∧ a ≤ n ∧ Hid (a = D.length) ∧ Hid (n = (D ++ R).length) ∧ Hid (Full 20 D) ∧ Hid ((D ++ R).Perm d) ∧ RowO wr g (D ++ R) rest ∧ w.grownBy wr (some g)) (fun i _ _ => n - (intOf i).toNat)
  case atStart => exact ⟨0, [], d, rfl, rfl, by omega, rfl, HN, Full.nil, List.Perm.refl _, hr, grown_refl _ _⟩
  case round =>
    obtain ⟨a, D, R, rfl, rfl, han, HA, HL, HF, HP, hrr, hgr⟩ := hrel
    by_cases hlt : a + 20 ≤ n
    · obtain ⟨M, R, rfl, HM⟩ : ∃ M R', R = M ++ R' ∧ Hid (M.length = 20) := ⟨R.take 20, R.drop 20, (List.take_append_drop _ _).symm, by have h1 := HA.out; have h2 := HL.out; show _ = _; simp at h2 ⊢; omega⟩
      go_wp2_with fail
      refine (insSort_int D M R rest g kb ka n c a _ wr hrr (hk.grown hne hgr) HL (by show _ = _; rw [HA.out]) (by show _ = _; have h1 := HA.out; have h2 := HM.out; omega) (by omega)).mono ?_
      rintro e w2 ⟨rfl, hr2, hg2⟩
      go_wp2_with fail
      go_roundw
      case rel =>
        have h2 := HM.out
        refine ⟨a + 20, D ++ isort M, R, by go_num, by go_num, by omega, ?_, ?_, Full.snoc _ _ HF.out (isort_srt _) (by rw [isort_length]; exact h2), ?_, by simpa using hr2, grown_trans hgr hg2⟩
        · have h1 := HA.out; show _ = _; simp [isort_length]; omega
        · have h1 := HL.out; show _ = _; simp [isort_length] at h1 ⊢; omega
        · refine List.Perm.trans ?_ HP.out
          rw [List.append_assoc]
          exact List.Perm.append_left D (List.Perm.append_right R (isort_perm M))
      case measure => simp [intOf]; omega
    · go_wp2_with fail
      refine (insSort_int D R [] rest g kb ka n c a n wr (by simpa using hrr) (hk.grown hne hgr) (by simpa using HL) (by show _ = _; rw [HA.out]) (by show _ = _; have h1 := HA.out; have h2 := HL.out; simp at h2; omega) (by omega)).mono ?_
      rintro e w2 ⟨rfl, hr2, hg2⟩
      have hg3 := grown_trans hgr hg2
      have HB : Hid (Bk 20 (D ++ isort R)) := HF.out.bk (Bk.last _ (isort_srt _) (by rw [isort_length]; have h1 := HA.out; have h2 := HL.out; simp at h2; omega))
      have HP2 : Hid ((D ++ isort R).Perm d) := (List.Perm.append_left D (isort_perm R)).trans HP.out
      have hr3 : RowO w2 g (D ++ isort R) rest := by simpa using hr2
      clear hr2 hg2 hrr hgr HA HL HF HP hlt han hr
      go_wp2_with fail
      obtain ⟨wo, rfl⟩ : ∃ wo : World, wo = w2 := ⟨_, rfl⟩
      go_loopw [6] (fun sv wr => ∃ (s : Nat) (D : List Out), sv = .int .i64 s ∧ 20 ≤ s ∧ s ≤ 2000000000020 ∧ Hid (Bk s D) ∧ Hid (D.Perm d) ∧ RowO wr g D rest ∧ w.grownBy wr (some g)) (fun i _ => n - (intOf i).toNat)
      case atStart => exact ⟨20, _, rfl, by omega, by omega, HB, HP2, hr3, hg3⟩
      case round =>
        obtain ⟨s, D, rfl, hs1, hs2, HBK, HPD, hrs, hgs⟩ := hrel
        by_cases hsn : s < n
        · go_wp2_with fail
          obtain ⟨wo, rfl⟩ : ∃ wo : World, wo = wr := ⟨_, rfl⟩
          go_loopw [7, 8] (fun av bv wr => ∃ (a : Nat) (D R : List Out), av = .int .i64 a ∧ bv = .int .i64 (a + 2 * s : Nat) ∧ a ≤ n ∧ Hid (a = D.length) ∧ Hid (n = (D ++ R).length) ∧ Hid (Full (2 * s) D) ∧ Hid (Bk s R) ∧ Hid ((D ++ R).Perm d) ∧ RowO wr g (D ++ R) rest ∧ w.grownBy wr (some g)) (fun i _ _ => n - (intOf i).toNat)
          case atStart =>
            refine ⟨0, [], D, rfl, by go_num, by omega, rfl, ?_, Full.nil, HBK, HPD, hrs, hgs⟩
            have h1 := HPD.out.length_eq; have h2 := HN.out; show _ = _; simp; omega
          case round =>
            obtain ⟨a, D1, R, rfl, rfl, han, HA, HL, HF, HBR, HP, hrr, hgr⟩ := hrel
            by_cases hlt : a + 2 * s ≤ n
            · have hRl : 2 * s ≤ R.length := by have h1 := HA.out; have h2 := HL.out; simp at h2; omega
              obtain ⟨l1, r1, h1, hl1, hn1, hb1⟩ := HBR.out.split (by omega)
              obtain ⟨l2, R', h2, hl2, hn2, hb2⟩ := hb1.split (by rw [h1] at hRl; simp at hRl; omega)
              subst h2
              subst h1
              have HBR' := hide hb2
              have Hl1 := hide hl1
              have Hl2 := hide hl2
              have Hn1 := hide hn1
              have Hn2 := hide hn2
              clear hb1 hb2 hl1 hl2 hn1 hn2 hRl
              go_wp2_with fail
              refine (sym_int D1 l1 l2 R' rest g kb ka n c a _ _ wr hrr (hk.grown hne hgr) HL (by show _ = _; rw [HA.out]) (by show _ = _; have h1 := HA.out; have h2 := Hn1.out; omega) (by show _ = _; have h1 := HA.out; have h2 := Hn1.out; have h3 := Hn2.out; omega) (by have h2 := Hn1.out; rintro rfl; simp at h2; omega) (by have h2 := Hn2.out; rintro rfl; simp at h2; omega) Hl1.out Hl2.out (by omega)).mono ?_
              rintro e w2 ⟨rfl, hr2, hg2⟩
              go_wp2_with fail
              go_roundw
              case rel =>
                have h2 := Hn1.out
                have h3 := Hn2.out
                refine ⟨a + 2 * s, D1 ++ isort (l1 ++ l2), R', by go_num, by go_num, by omega, ?_, ?_, Full.snoc _ _ HF.out (isort_srt _) (by rw [isort_length]; simp; omega), HBR', ?_, by simpa using hr2, grown_trans hgr hg2⟩
                · have h1 := HA.out; show _ = _; simp [isort_length]; omega
                · have h1 := HL.out; show _ = _; simp [isort_length] at h1 ⊢; omega
                · refine List.Perm.trans ?_ HP.out
                  rw [List.append_assoc, show l1 ++ (l2 ++ R') = (l1 ++ l2) ++ R' from by simp]
                  exact List.Perm.append_left D1 (List.Perm.append_right R' (isort_perm _))
              case measure => simp [intOf]; omega
            · by_cases hm : a + s < n
              · have hRl : s < R.length := by have h1 := HA.out; have h2 := HL.out; simp at h2; omega
                obtain ⟨l1, l2, h1, hl1, hn1, hb1⟩ := HBR.out.split (by omega)
                subst h1
                have Hl1 := hide hl1
                have Hl2 := hide (hb1.small (by have h1 := HA.out; have h2 := HL.out; simp at h2; omega))
                have Hn1 := hide hn1
                have Hn2 : Hid (l2 ≠ []) := by rintro rfl; simp at hRl; omega
                clear hb1 hl1 hn1 hRl
                go_wp2_with fail
                refine (sym_int D1 l1 l2 [] rest g kb ka n c a _ n wr (by simpa using hrr) (hk.grown hne hgr) (by simpa using HL) (by show _ = _; rw [HA.out]) (by show _ = _; have h1 := HA.out; have h2 := Hn1.out; omega) (by show _ = _; have h1 := HA.out; have h2 := HL.out; simp at h2; omega) (by have h2 := Hn1.out; rintro rfl; simp at h2; omega) Hn2.out Hl1.out Hl2.out (by omega)).mono ?_
                rintro e w2 ⟨rfl, hr2, hg2⟩
                go_wp2_with fail
                go_roundw
                case rel =>
                  refine ⟨s * 2, D1 ++ isort (l1 ++ l2), by go_num, by omega, by omega, ?_, ?_, by simpa using hr2, grown_trans hgr hg2⟩
                  · have := HF.out.bk (Bk.last (s := 2 * s) _ (isort_srt (l1 ++ l2)) (by rw [isort_length]; have h1 := HA.out; have h2 := HL.out; simp at h2 ⊢; omega))
                    rw [Nat.mul_comm] at this
                    exact this
                  · exact (List.Perm.append_left D1 (isort_perm _)).trans HP.out
                case measure => simp [intOf]; omega
              · go_wp2_with fail
                go_roundw
                case rel =>
                  refine ⟨s * 2, D1 ++ R, by go_num, by omega, by omega, ?_, HP, hrr, hgr⟩
                  have h0 : R.length ≤ s := by have h1 := HA.out; have h2 := HL.out; simp at h2; omega
                  have := HF.out.bk (Bk.last (s := 2 * s) R (HBR.out.small h0) (by omega))
                  rw [Nat.mul_comm] at this
                  exact this
                case measure => simp [intOf]; omega
        · go_wp2_with fail
          go_end0
          refine ⟨rfl, ?_, hgs⟩
          have h1 := HPD.out
          rw [← isort_of (HBK.out.small (by have h2 := h1.length_eq; have h3 := HN.out; omega)) h1]
          exact hrs

theorem sorted_any : SortedUpto 1000000000000 := sorted_of stable_any (by omega)

end Go.Proofs.YtnigfddanoaonaaGreat

set_option linter.unusedVariables false
namespace Go.Proofs.YtnigfddanoaonaaGreat
open Go.RowKit

def vertexRs : List (List Rul) := [[⟨1, []⟩], [⟨0, [⟨1, 0⟩, ⟨2, 0⟩]⟩]]
def rotorRs : List (List Rul) := [[⟨1, [⟨1, 0⟩]⟩], [⟨0, [⟨2, 0⟩]⟩]]
def setterRs : List (List Rul) := [[⟨0, []⟩, ⟨1, []⟩], [⟨0, []⟩, ⟨1, []⟩]]
def PrcPost (w : World) (S L : Int) (rs : List (List Rul)) (e : Ending) (w' : World) : Prop :=
  ∃ oa c, e = .returned (.agg #[.int .i64 S, .int .i64 L, .slice oa rs.length c]) ∧ rs.length ≤ c ∧ SliceR (slcR ruleR 2) 1 All w' oa rs ∧ Below w.heap.size w w'

end Go.Proofs.YtnigfddanoaonaaGreat

set_option linter.unusedVariables false
namespace Go.Proofs.YtnigfddanoaonaaGreat
open Go.RowKit

end Go.Proofs.YtnigfddanoaonaaGreat

set_option linter.unusedVariables false
namespace Go.Proofs.YtnigfddanoaonaaGreat
open Go.RowKit

end Go.Proofs.YtnigfddanoaonaaGreat

set_option linter.unusedVariables false
namespace Go.Proofs.YtnigfddanoaonaaGreat
open Go.RowKit

def commRes (p : Prc) (s a b : Int) : Bool × Int :=
  if stateErr p s = 0 then (if belowB a p.letters && belowB b p.letters then (commB p.rules s a b, 0) else (false, 2)) else (false, stateErr p s)
def BoolPost (w : World) (r : Bool × Int) (e : Ending) (w' : World) : Prop :=
  e = .returned (.tuple #[.bool r.1, .int .i64 r.2]) ∧ Below w.heap.size w w'
end Go.Proofs.YtnigfddanoaonaaGreat

set_option linter.unusedVariables false
namespace Go.Proofs.YtnigfddanoaonaaGreat
open Go.RowKit

def RightP (S L s : Int) (rs : List (List Rul)) (word : List Int) : Prop := checkErr ⟨S, L, rs⟩ 12 = 0 ∧ (0 ≤ s ∧ s < S) ∧ word.length ≤ 40 ∧ lettersErr L word = 0

end Go.Proofs.YtnigfddanoaonaaGreat

set_option linter.unusedVariables false
namespace Go.Proofs.YtnigfddanoaonaaGreat
open Go.RowKit

def OutsMade (w : World) (r : List Out) (e : Ending) (w' : World) : Prop :=
  ∃ v, e = .returned v ∧ OwnS outR 2 w.heap.size 102 Non w' v r ∧ Below w.heap.size w w'

def sumLen (l : List (List Out)) : Nat := (l.map List.length).sum

end Go.Proofs.YtnigfddanoaonaaGreat

set_option linter.unusedVariables false
namespace Go.Proofs.YtnigfddanoaonaaGreat
open Go.RowKit

theorem readSpec_app (rs : List (List Rul)) : ∀ (a b : List Int) (s : Int), readSpec rs s (a ++ b) = ((readSpec rs (readSpec rs s a).1 b).1, (readSpec rs s a).2 ++ (readSpec rs (readSpec rs s a).1 b).2)
  | [], b, s => by simp [readSpec]
  | x :: a, b, s => by
    have h := readSpec_app rs a b (ruleAt rs s x).next
    simp only [List.cons_append, readSpec]
    rw [h]
    simp
theorem letters_of {L : Int} : ∀ {l : List Int}, (∀ a ∈ l, 0 ≤ a ∧ a < L) → lettersErr L l = 0
  | [], _ => rfl
  | a :: r, h => by
    have h1 := h a (by simp)
    have h2 : belowB a L = true := by simp [belowB]; omega
    simp only [lettersErr, h2]
    exact letters_of fun x hx => h x (by simp [hx])
theorem SliceR.take {α : Type} {R : Rep α} {sz : Nat} {F : Foot} {w : World} {oa : Option Addr} {xs : List α} (h : SliceR R sz F w oa xs) (k : Nat) : SliceR R sz F w oa (xs.take k) := by
  intro i x hx
  rw [List.getElem?_take] at hx
  split at hx
  · exact h i x hx
  · cases hx
end Go.Proofs.YtnigfddanoaonaaGreat

set_option linter.unusedVariables false
set_option linter.unusedSimpArgs false
set_option linter.unnecessarySimpa false
namespace Go.Proofs.YtnigfddanoaonaaGreat
open Go.RowKit

def negB (l : List Int) : Bool := l.any fun x => decide (x < 0)

set_option maxHeartbeats 400000 in
theorem min_any (l : List Int) (oa : Option Addr) (c : Nat) (F : Foot) (w : World) (hs : SliceR intR 1 F w oa l) (hc : l.length ≤ c) (hc2 : l.length ≤ 9223372036854775807) (hne : 0 < l.length) :
    Calls Tryz.prog 92 #[.slice oa l.length c] w fun e w' => ∃ m : Int, e = .returned (.int .i64 m) ∧ decide (m < 0) = negB l ∧ w = w' := by
  obtain ⟨x0, hd0, _, i0, b, off, hoa, _, c0⟩ := hs.int_at hne
  have hoa' := hoa
  subst hoa'
  have HD0 := hide hd0
  have H0 : Hid (decide (x0 < 0) = negB (l.take 1)) := by
    rw [List.drop_zero] at hd0
    show _ = _
    rw [hd0]
    simp [negB]
  have I0 := hide i0
  clear hd0 hoa i0
  rw [Nat.add_zero] at c0
  have hl1 : decide ((l.length : Int) < 1) = false := by simp; omega
  go_enter Tryz.func92, Tryz.ntmps92
  go_wp2_with fail
  go_loop [3, 4] (fun mv i => ∃ (k : Nat) (m : Int), 0 < k ∧ k ≤ l.length ∧ mv = .int .i64 m ∧ i = .int .i64 k ∧ Hid (decide (m < 0) = negB (l.take k))) (fun _ i => l.length - (intOf i).toNat)
  case atStart => exact ⟨1, x0, by omega, by omega, rfl, rfl, H0⟩
  case round =>
    obtain ⟨k, m, hk0, hk, rfl, rfl, HM⟩ := hrel
    by_cases hlt : k < l.length
    · obtain ⟨x, hd, hget, _, b', off', hoa, _, cx⟩ := hs.int_at hlt
      injection hoa with hoa
      injection hoa with e1 e2
      subst e1 e2
      have HN : Hid (negB (l.take (k + 1)) = (negB (l.take k) || decide (x < 0))) := by
        show _ = _
        rw [List.take_add_one, hget]
        simp [negB]
      clear hd hget
      by_cases hmx : x < m
      · go_wp2_with fail
        go_round
        case rel =>
          refine ⟨k + 1, _, by omega, by omega, rfl, by go_num, ?_⟩
          show _ = _
          rw [HN.out, ← HM.out]
          by_cases h1 : m < 0 <;> by_cases h2 : x < 0 <;> simp [h1, h2] <;> omega
        case measure => simp [intOf]; omega
      · go_wp2_with fail
        go_round
        case rel =>
          refine ⟨k + 1, _, by omega, by omega, rfl, by go_num, ?_⟩
          show _ = _
          rw [HN.out, ← HM.out]
          by_cases h1 : m < 0 <;> by_cases h2 : x < 0 <;> simp [h1, h2] <;> omega
        case measure => simp [intOf]; omega
    · go_wp2_with fail
      go_ret
      refine ⟨m, rfl, ?_, rfl⟩
      rw [HM.out, List.take_of_length_le (by omega)]

end Go.Proofs.YtnigfddanoaonaaGreat

set_option linter.unusedVariables false
namespace Go.Proofs.YtnigfddanoaonaaGreat
open Go.RowKit

theorem mul64_one (n : Nat) (hn : n ≤ 1000000) (w : World) : Calls Tryz.prog 123 #[.int .u64 1, .int .u64 n] w fun e w' => e = .returned (.tuple #[.int .u64 0, .int .u64 n]) ∧ w = w' := by
  have h1 : bits .and .u64 (1 : Int) 4294967295 = 1 := by decide
  have h2 : bits .and .u64 (n : Int) 4294967295 = n := by
    have h := bits_and_u64_nat n 4294967295 (by omega) (by omega)
    have e : n &&& 4294967295 = n % 4294967296 := Nat.and_two_pow_sub_one_eq_mod n 32
    rw [e, Nat.mod_eq_of_lt (by omega)] at h
    exact h
  have h3 : bits .and .u64 (0 : Int) 4294967295 = 0 := by decide
  have h4 : (n : Int) / 4294967296 = 0 := by omega
  have h5 : IntKind.u64.wrap (n : Int) = n := by rw [IntKind.wrap_u64]; omega
  go_enter Tryz.func123, Tryz.ntmps123
  go_wp2_with fail
  go_ret2
  simp
theorem mul_one (n : Nat) (hn : n ≤ 1000000) (w : World) : Calls Tryz.prog 93 #[.int .u64 1, .int .u64 n] w fun e w' => e = .returned (.tuple #[.int .u64 0, .int .u64 n]) ∧ w = w' := by
  go_enter Tryz.func93, Tryz.ntmps93
  go_wp2_with (go_at_call 123; refine (mul64_one n hn _).mono ?_; rintro e w' ⟨rfl, rfl⟩)
  go_ret2
  exact ⟨rfl, rfl⟩

theorem intInfo : (Tryz.prog.info? 3).map (fun i => (i.zero, i.size, i.bytes)) = some (some (.int .i64 0), 1, 8) := by kernel_rfl
theorem intSize : (Tryz.prog.info? 3).map (·.size) = some 1 := by kernel_rfl

def IntsMade (w : World) (r : List Int) (e : Ending) (w' : World) : Prop :=
  ∃ v, e = .returned v ∧ OwnS intR 1 w.heap.size 3 Non w' v r ∧ Below w.heap.size w w'

/-- A row of n cells, of which the first m hold x. -/
def RowI (w : World) (g n : Nat) (x : Int) (m : Nat) : Prop := ∃ cur : List Value, w.heap[g]? = some (.cells cur.toArray 3 (0, 0)) ∧ cur.length = n ∧ ∀ j, j < m → cur[j]? = some (.int .i64 x)

theorem copy_first {w w1 : World} {n c b off : Nat} {x : Int} {zs : List Value} (hown : w1.ownsRow w.heap.size 3 1 (.slice (some ⟨w.heap.size, 0, none⟩) n n) n zs) (hg : w.grownBy w1 none) (cx : w.cell? ⟨b, off, none⟩ = some (.int .i64 x)) :
    ∃ (m : Nat) (w2 : World), Hid (m = min n 1) ∧ (Builtin.copy_ #[23, 23] 3 #[.slice (some ⟨w.heap.size, 0, none⟩) n n, .slice (some ⟨b, off, none⟩) 1 c]).run Tryz.prog w1 = .ok (.int .i64 m) w2 ∧ RowI w2 w.heap.size n x m ∧ Below w.heap.size w w2 := by
  obtain ⟨hl, hv⟩ := hown
  have hb1 : Below w.heap.size w w1 := (Below.refl w.heap.size w).grown hg (Nat.le_refl _) fun k hk => by cases hk
  rcases hv with ⟨he, _⟩ | ⟨g, cap, cur, he, _, hh, _, _, hcs, _⟩
  · cases he
  · injection he with h1 h2 h3
    injection h1 with h1
    injection h1 with h1
    subst h1 h3
    rcases Nat.eq_zero_or_pos n with h0 | h0
    · subst h0
      refine ⟨0, w1, rfl, run_copy_none w1 _ _ _ 3 _ _ _ _ _ _ Tryz.underlying23 intSize (by simp), ⟨cur.toList, by simpa using hh, by simpa using hcs, fun j hj => by omega⟩, hb1⟩
    · have hcell : w1.cell? ⟨b, off, none⟩ = some (.int .i64 x) := (hb1.cell (World.block_lt_of_cell? _ _ cx)).trans cx
      have hrun := run_copy_row (P := Tryz.prog) w1 23 23 3 3 w.heap.size 0 n n ⟨b, off, none⟩ 1 c cur 3 [.int .i64 x] Tryz.underlying23 intSize hh (by show 1 = min 1 n; omega) (fun j v hj => by
        match j, hj with
        | 0, hj => simp at hj; subst hj; simpa [Addr.add] using hcell) (by rw [hcs]; simp; omega) (by simp [Value.oneCell'])
      refine ⟨1, _, by show _ = _; omega, hrun, ⟨_, setRow_heap w1 _ _ _ _ _ hh, ?_, ?_⟩, below_setRow hb1 (Nat.le_refl _) _⟩
      · simp [hcs]; omega
      · intro j hj
        have : j = 0 := by omega
        subst this
        simp

set_option maxRecDepth 100000 in
set_option maxHeartbeats 2000000 in
theorem repeat_any (x : Int) (n c : Nat) (oa : Option Addr) (F : Foot) (w : World) (ix : I64 x) (hn : n ≤ 256) (hs : SliceR intR 1 F w oa [x]) :
    Calls Tryz.prog 46 #[.slice oa 1 c, .int .i64 n] w (IntsMade w (List.replicate n x)) := by
  obtain ⟨x', _, hx', _, b, off, rfl, _, cx⟩ := hs.int_at (i := 0) (by simp)
  simp at hx'
  subst hx'
  rw [Nat.add_zero] at cx
  obtain ⟨i, hi, hz, hsz, hby⟩ := info_parts intInfo
  have IX := hide ix
  have HI := hide (And.intro hi (And.intro hz (And.intro hsz hby)))
  clear hi hz hsz hby ix
  have hd1 : decide ((n : Int) < 0) = false := by simp
  have hd2 : decide (9223372036854775807 < (n : Int)) = false := by simp; omega
  go_enter Tryz.func46, Tryz.ntmps46
  go_wp2_with (first
    | (go_at_call 93; refine (mul_one n (by omega) _).mono ?_; rintro e w' ⟨rfl, rfl⟩)
    | (at_make; refine wpList_make_full _ rfl _ _ 23 rfl w.heap.size 3 i _ 1 Tryz.underlying23 HI.out.1 HI.out.2.1 HI.out.2.2.1 .i64 .i64 _ _ n rfl rfl rfl rfl (by rw [HI.out.2.2.2]; omega) (by unfold maxLen; omega) (Nat.le_refl _) (fun w1 hown hgrow => ?_)
       obtain ⟨m0, w2, HM0, hcp, hrow, hbw⟩ := copy_first (c := c) hown hgrow cx
       clear hown hgrow))
  clear hcp cx
  go_loopw [8] (fun v wr => ∃ m : Nat, v = .int .i64 m ∧ m ≤ n ∧ (n = 0 ∨ 0 < m) ∧ RowI wr w.heap.size n x m ∧ Below w.heap.size w wr) (fun v _ => n - (intOf v).toNat)
  case atStart => exact ⟨m0, rfl, by have := HM0.out; omega, by have := HM0.out; omega, hrow, hbw⟩
  case round =>
    obtain ⟨m, rfl, hmn, hm0, ⟨cur, hcur, hcl, hcx⟩, hb⟩ := hrel
    by_cases hlt : m < n
    · have hm1 : 0 < m := by omega
      have hnm : ¬ n = m := by omega
      obtain ⟨q, hq⟩ : ∃ q, q = min m (n - m) := ⟨_, rfl⟩
      have hq1 : 0 < q := by omega
      have hq2 : m + q ≤ n := by omega
      have hqm : q ≤ m := by omega
      have hwr : IntKind.i64.wrap ((m : Int) + (q : Int)) = (m : Int) + q := IntWalk.i64_in _ (by omega)
      have HQ := hide hq
      have HCUR := hide hcur
      have HCX := hide hcx
      have HCL := hide hcl
      clear hq hcur hcx hcl hrow hbw
      go_wp2_with fail
      go_region_law (refine step_copy_splice rfl (.tmp 41) (.tmp 44) 23 23 rfl 3 Tryz.underlying23 intSize (some ⟨w.heap.size, m, none⟩) (some ⟨w.heap.size, 0, none⟩) (n - m) (n - m) m n (by simp [Act.eval, Act.put]) (by simp [Act.eval, Act.put]) w.heap.size m cur 3 HCUR.out (List.replicate q (.int .i64 x)) (by have := HQ.out; simp; omega) (fun _ => ⟨rfl, _, rfl, fun j v hj => by
        have hjq : j < q := by have := (List.getElem?_eq_some_iff.1 hj).1; simpa using this
        rw [List.getElem?_replicate] at hj
        simp [hjq] at hj
        subst hj
        rw [show (Addr.mk w.heap.size 0 none).add j = ⟨w.heap.size, j, none⟩ from by unfold Addr.add; split <;> simp_all]
        change wr.cell? ⟨w.heap.size, j, none⟩ = _
        rw [cell_of_row wr w.heap.size j _ _ _ HCUR.out]
        simpa using HCX.out j (by omega)⟩) (by simp; have := HCL.out; omega) (by simp [Value.oneCell']) w.heap.size w hb.drew (Nat.le_refl _) ?_; intro w4 hg4 hb4)
      all_goals
        simp [Act.put]
        go_roundw
        case rel =>
          refine ⟨_, _, _, _, _, _, _, _, _, _, _, _, _, _, ⟨m + q, by go_num, by omega, .inr (by omega), ⟨_, hg4.out, by rw [length_splice _ _ _ (by simp; have := HCL.out; omega)]; exact HCL.out, ?_⟩, hb4⟩, rfl⟩
          intro j hj
          unfold splice
          have hcl := HCL.out
          by_cases h : j < m
          · rw [List.getElem?_append_left (by simp; omega), List.getElem?_take_of_lt h]
            exact HCX.out j h
          · rw [List.getElem?_append_right (by simp; omega), List.getElem?_append_left (by simp; omega), List.getElem?_replicate]
            rw [if_pos (by simp; omega)]
        case measure => simp [intOf]; omega
    · have hmn2 : m = n := by omega
      subst hmn2
      have HCUR := hide hcur
      have HCX := hide hcx
      have HCL := hide hcl
      clear hcur hcx hcl
      go_wp2_with fail
      go_ret
      have hcl := HCL.out
      have hrep : cur = List.replicate m (.int .i64 x) := by
        apply List.ext_getElem?
        intro j
        by_cases h : j < m
        · rw [HCX.out j h, List.getElem?_replicate, if_pos h]
        · rw [List.getElem?_eq_none (by omega), List.getElem?_eq_none (by simp; omega)]
      subst hrep
      refine ⟨_, rfl, ⟨List.replicate m (.int .i64 x), ⟨by simp, .inr ⟨w.heap.size, m, _, by simp, Nat.le_refl _, HCUR.out, by simp, by unfold maxLen; omega, by simp, by simp⟩⟩, ?_, ?_⟩, hb⟩
      · intro u hu
        rw [List.eq_of_mem_replicate hu]
        rfl
      · intro j y hy
        have hj : j < m := by have := (List.getElem?_eq_some_iff.1 hy).1; simpa using this
        rw [List.getElem?_replicate, if_pos hj] at hy
        injection hy with hy
        subst hy
        refine ⟨?_, IX.out⟩
        unfold chunk
        apply List.ext_getElem?
        intro k
        rw [List.getElem?_take]
        split
        · have : k = 0 := by omega
          subst this
          rw [List.getElem?_drop, List.getElem?_replicate, if_pos (by omega)]
          rfl
        · rw [List.getElem?_eq_none (by simp; omega)]

end Go.Proofs.YtnigfddanoaonaaGreat

set_option linter.unusedVariables false
namespace Go.Proofs.YtnigfddanoaonaaGreat
open Go.RowKit

def wordFrom : Nat → List Int → List Int
  | _, [] => []
  | a, n :: r => List.replicate n.toNat (a : Int) ++ wordFrom (a + 1) r
def manyErr (L : Int) (l : List Int) : Int := if (l.length : Int) = L then (if negB l then 2 else if 256 < (wordFrom 0 l).length then 5 else 0) else 8

end Go.Proofs.YtnigfddanoaonaaGreat

set_option linter.unusedVariables false
namespace Go.Proofs.YtnigfddanoaonaaGreat
open Go.RowKit

end Go.Proofs.YtnigfddanoaonaaGreat

set_option linter.unusedVariables false
namespace Go.Proofs.YtnigfddanoaonaaGreat
open Go.RowKit

def capS : List Int → Int
  | [] => 0
  | n :: r => min n 257 + capS r
end Go.Proofs.YtnigfddanoaonaaGreat

set_option linter.unusedVariables false
namespace Go.Proofs.YtnigfddanoaonaaGreat
open Go.RowKit

def manyRes (p : Prc) (s : Int) (l : List Int) : Int × List Out × Int :=
  if stateErr p s = 0 then (if manyErr p.letters l = 0 then ((readSpec p.rules s (wordFrom 0 l)).1, isort (readSpec p.rules s (wordFrom 0 l)).2, 0) else (0, [], manyErr p.letters l)) else (0, [], stateErr p s)

end Go.Proofs.YtnigfddanoaonaaGreat

set_option linter.unusedVariables false
set_option linter.unusedSimpArgs false
namespace Go.Proofs.YtnigfddanoaonaaGreat
open Go.RowKit

/-- All letters commute in all states. -/
def AllComm (rs : List (List Rul)) (S L : Int) : Prop := ∀ s a b : Int, 0 ≤ s ∧ s < S → 0 ≤ a ∧ a < L → 0 ≤ b ∧ b < L → commB rs s a b = true

theorem read_range {S L : Int} {rs : List (List Rul)} (hV : checkErr ⟨S, L, rs⟩ 12 = 0) (l : List Int) (s : Int) (hs : 0 ≤ s ∧ s < S) (hl : ∀ a ∈ l, 0 ≤ a ∧ a < L) : 0 ≤ (readSpec rs s l).1 ∧ (readSpec rs s l).1 < S :=
  (readSpec_right (p := ⟨S, L, rs⟩) hV l s hs (letters_of hl)).1

theorem read_perm {S L : Int} {rs : List (List Rul)} (hV : checkErr ⟨S, L, rs⟩ 12 = 0) (hC : AllComm rs S L) {l m : List Int} (hp : l.Perm m) :
    (∀ a ∈ l, 0 ≤ a ∧ a < L) → ∀ s : Int, 0 ≤ s ∧ s < S → (readSpec rs s l).1 = (readSpec rs s m).1 ∧ (readSpec rs s l).2.Perm (readSpec rs s m).2 := by
  induction hp with
  | nil => intro _ s _; exact ⟨rfl, List.Perm.refl _⟩
  | cons a _ ih =>
    intro hl s hs
    have h1 := read_range hV [a] s hs (fun x hx => hl x (by simp at hx; simp [hx]))
    have h2 := ih (fun x hx => hl x (by simp [hx])) (ruleAt rs s a).next h1
    simp only [readSpec]
    exact ⟨h2.1, h2.2.append_left _⟩
  | swap a b r =>
    intro hl s hs
    have h := hC s b a hs (hl b (by simp)) (hl a (by simp))
    unfold commB at h
    simp only [Bool.and_eq_true, decide_eq_true_eq] at h
    have e1 := readSpec_app rs [b, a] r s
    have e2 := readSpec_app rs [a, b] r s
    simp only [List.cons_append, List.nil_append] at e1 e2
    rw [e1, e2]
    refine ⟨by simp only; rw [h.1], ?_⟩
    simp only
    rw [h.1]
    refine List.Perm.append_right _ ?_
    exact ((isort_perm _).symm.trans (h.2 ▸ List.Perm.refl _)).trans (isort_perm _)
  | trans h1 h2 ih1 ih2 =>
    intro hl s hs
    have a1 := ih1 hl s hs
    have a2 := ih2 (fun x hx => hl x (h1.mem_iff.2 hx)) s hs
    exact ⟨a1.1.trans a2.1, a1.2.trans a2.2⟩

theorem witB_none {f : Nat → Nat → Nat → Bool} {s a : Nat} : ∀ {n b : Nat}, witB f s a n b = none → ∀ d, b ≤ d → d < b + n → f s a d = true
  | 0, b, _, d, h1, h2 => by omega
  | n + 1, b, h, d, h1, h2 => by
    unfold witB at h
    split at h
    · rcases Nat.eq_or_lt_of_le h1 with e | e
      · subst e; assumption
      · exact witB_none h d (by omega) (by omega)
    · cases h
theorem witA_none {f : Nat → Nat → Nat → Bool} {s L : Nat} : ∀ {n a : Nat}, witA f s L n a = none → ∀ c d, a ≤ c → c < a + n → d < L → f s c d = true
  | 0, b, _, c, d, h1, h2, _ => by omega
  | n + 1, a, h, c, d, h1, h2, h3 => by
    unfold witA at h
    rw [Option.or_eq_none_iff] at h
    rcases Nat.eq_or_lt_of_le h1 with e | e
    · subst e; exact witB_none h.1 d (by omega) (by omega)
    · exact witA_none h.2 c d (by omega) (by omega) h3
theorem witS_none {f : Nat → Nat → Nat → Bool} {L : Nat} : ∀ {n s : Nat}, witS f L n s = none → ∀ t c d, s ≤ t → t < s + n → c < L → d < L → f t c d = true
  | 0, b, _, t, c, d, h1, h2, _, _ => by omega
  | n + 1, s, h, t, c, d, h1, h2, h3, h4 => by
    unfold witS at h
    rw [Option.or_eq_none_iff] at h
    rcases Nat.eq_or_lt_of_le h1 with e | e
    · subst e; exact witA_none h.1 c d (by omega) (by omega) h4
    · exact witS_none h.2 t c d (by omega) (by omega) h3 h4
/-- What Abelian says. -/
theorem abel_yes {S L : Int} {rs : List (List Rul)} (hV : checkErr ⟨S, L, rs⟩ 12 = 0) (h : (abelRes ⟨S, L, rs⟩).1 = true) : AllComm rs S L := by
  intro s a b hs ha hb
  simp only [abelRes, hV, if_true] at h
  obtain ⟨s', rfl⟩ := Int.eq_ofNat_of_zero_le hs.1
  obtain ⟨a', rfl⟩ := Int.eq_ofNat_of_zero_le ha.1
  obtain ⟨b', rfl⟩ := Int.eq_ofNat_of_zero_le hb.1
  exact witS_none (f := commN rs) (Option.isNone_iff_eq_none.1 h) s' a' b' (by omega) (by omega) (by omega) (by omega)
/-- The counts of a word's letters. -/
def tally (L : Nat) (l : List Int) : List Int := (List.range L).map fun a : Nat => (l.count (a : Int) : Int)
theorem tally_len (L : Nat) (l : List Int) : (tally L l).length = L := by simp [tally]
theorem tally_nil (L : Nat) : tally L [] = List.replicate L 0 := by
  apply List.ext_getElem?
  intro i
  simp only [tally, List.getElem?_map, List.getElem?_replicate]
  by_cases h : i < L
  · simp [h]
  · simp [h]
theorem tally_get {L : Nat} {l : List Int} {a : Nat} (h : a < L) : (tally L l)[a]? = some (l.count (a : Int) : Int) := by simp [tally, h]
theorem tally_snoc {L : Nat} (l : List Int) {a : Nat} (h : a < L) : tally L (l ++ [(a : Int)]) = (tally L l).set a ((l.count (a : Int) : Int) + 1) := by
  apply List.ext_getElem?
  intro i
  by_cases hi : i < L
  · by_cases e : a = i
    · subst e
      rw [List.getElem?_set_self (by rw [tally_len]; exact h), tally_get h]
      simp
    · rw [List.getElem?_set_ne e, tally_get hi, tally_get hi]
      have : ¬ ((a : Int) = (i : Int)) := by omega
      simp [List.count_append, List.count_cons, this]
  · rw [List.getElem?_eq_none (by simp [tally_len]; omega), List.getElem?_eq_none (by simp [tally_len]; omega)]
theorem wordFrom_count : ∀ (cs : List Int) (k : Nat) (x : Int), (wordFrom k cs).count x = if (k : Int) ≤ x ∧ x < k + cs.length then (cs.getD (x - k).toNat 0).toNat else 0
  | [], k, x => by
    simp only [wordFrom, List.length_nil]
    rw [if_neg (by simp)]
    rfl
  | n :: r, k, x => by
    rw [wordFrom, List.count_append, wordFrom_count r (k + 1) x]
    simp only [List.length_cons]
    by_cases h0 : x = k
    · subst h0
      rw [if_neg (by omega), if_pos (by omega)]
      simp
    · have hne : ¬ ((k : Int) = x) := fun e => h0 e.symm
      rw [List.count_replicate]
      simp only [beq_iff_eq, hne, if_false, Nat.zero_add]
      by_cases h1 : ((k + 1 : Nat) : Int) ≤ x ∧ x < (k + 1 : Nat) + (r.length : Int)
      · rw [if_pos h1, if_pos (by omega)]
        obtain ⟨d, hd⟩ : ∃ d : Nat, (x - (k + 1 : Nat)).toNat = d := ⟨_, rfl⟩
        rw [hd, show (x - (k : Int)).toNat = d + 1 from by omega]
        simp
      · rw [if_neg h1, if_neg (by omega)]
theorem wordFrom_perm {L : Nat} {l : List Int} (hl : ∀ a ∈ l, 0 ≤ a ∧ a < L) : (wordFrom 0 (tally L l)).Perm l := by
  rw [List.perm_iff_count]
  intro x
  rw [wordFrom_count, tally_len]
  split
  · rename_i h
    obtain ⟨n, rfl⟩ := Int.eq_ofNat_of_zero_le (show 0 ≤ x by omega)
    have hn : n < L := by omega
    have h2 := tally_get (l := l) hn
    rw [List.getD_eq_getElem?_getD, show ((n : Int) - ((0 : Nat) : Int)).toNat = n from by omega, h2]
    simp
  · rename_i h
    exact (List.count_eq_zero.2 fun hx => h (by have := hl x hx; omega)).symm

end Go.Proofs.YtnigfddanoaonaaGreat

set_option linter.unusedVariables false
set_option linter.unusedSimpArgs false
namespace Go.Proofs.YtnigfddanoaonaaGreat
open Go.RowKit

def nabR (x : Nwk) : Bool × Int := if netErr x = 0 then (commP x.procs, 0) else (false, netErr x)
theorem two_few {p : Prc} {N : Int} (h : checkErr p N = 0) : checkErr ⟨p.states, p.letters, p.rules⟩ 12 = 0 → ∀ s a b : Int, 0 ≤ s ∧ s < p.states → 0 ≤ a ∧ a < p.letters → 0 ≤ b ∧ b < p.letters → (readSpec p.rules s [a, b]).2.length ≤ 1000000000000 := fun hc s a b hs ha hb => by
  have := (readSpec_right (p := p) h [a, b] s hs (letters_of (by intro z hz; simp at hz; rcases hz with rfl | rfl <;> assumption))).2.1
  simp only [List.length_cons, List.length_nil] at this
  omega

set_option maxRecDepth 100000 in
set_option maxHeartbeats 2000000 in
theorem nabelian_any (x : Nwk) (op : Option Addr) (cp : Nat) (os : Option Addr) (cs : Nat) (ow : Option Addr) (cw : Nat) (F : Foot) (w : World) (hp : SliceR prcR 3 F w op x.procs) (hp2 : x.procs.length ≤ 1000000) (hs : SliceR intR 1 F w os x.state) (hs2 : x.state.length ≤ 1000000) (ht : SliceR (slcR intR 1) 1 F w ow x.waiting) (ht2 : x.waiting.length ≤ 1000000) :
    Calls Tryz.prog 30 #[.agg #[.slice op x.procs.length cp, .slice os x.state.length cs, .slice ow x.waiting.length cw]] w fun e w' => e = .returned (.tuple #[.bool (nabR x).1, .int .i64 (nabR x).2]) ∧ Below w.heap.size w w' := by
  have hb0 := box_refl w (.cells #[.slice op x.procs.length cp, .slice os x.state.length cs, .slice ow x.waiting.length cw] 26)
  have HP := hide hp
  have HCK := hide (netCheck_any x.procs op cp x.state os cs x.waiting ow cw F _ (hp.below prcR_ok (below_box hb0)) (by omega) (hs.below intR_ok (below_box hb0)) (by omega) (ht.below (slcR_ok intR_ok (by decide)) (below_box hb0)) (by omega))
  rw [show (⟨x.procs, x.state, x.waiting⟩ : Nwk) = x from rfl] at HCK
  obtain ⟨ne, hne⟩ : ∃ ne, ne = netErr x := ⟨_, rfl⟩
  rw [← hne] at HCK
  have HNE := hide hne
  clear hp hs ht hne
  by_cases h0 : ne = 0
  · subst h0
    have HR : Hid (nabR x = (commP x.procs, 0)) := if_pos HNE.out.symm
    have HV := hide (netErr_zero HNE.out.symm).proc
    go_enter Tryz.func30, Tryz.ntmps30
    go_wp2_with (go_at_call 43; refine HCK.out.mono ?_; rintro e w2 ⟨rfl, hb2⟩; have hx2 := hb2.mono (B' := w.heap.size + 1) (by simp); have d0 := box_cell hx2 0; simp at d0; have HX := hide (below_box hx2); clear hb2 hx2)
    go_loopw [18] (fun iv wr => ∃ k : Nat, k ≤ x.procs.length ∧ iv = .int .i64 k ∧ Hid (commP x.procs = commP (x.procs.drop k)) ∧ Hid (Below w.heap.size w wr)) (fun iv _ => x.procs.length - (intOf iv).toNat)
    case atStart => exact ⟨0, by omega, rfl, rfl, HX.out⟩
    case round =>
      obtain ⟨k, hk, rfl, HC, HB⟩ := hrel
      by_cases hlt : k < x.procs.length
      · obtain ⟨S, L, rs, b, off, oR, cR, hd, hpr, hoP, _, y0, y1, y2, iS, iL, hrc, hrm, hrs⟩ := (HP.out.below prcR_ok HB.out).prc_at (i := k) (by omega)
        subst hoP
        have hck := HV.out k _ hpr
        have hAR : abelRes ⟨S, L, rs⟩ = ((witS (commN rs) L.toNat S.toNat 0).isNone, witL (witS (commN rs) L.toNat S.toNat 0), 0) := by
          unfold abelRes
          rw [if_pos (checkErr_more hck)]
        have hAB := abelian_any (hide sorted_any) S L rs oR cR F (wr.alloc (.cells #[.int .i64 S, .int .i64 L, .slice oR rs.length cR] 89)) (hrs.below rowR_ok (bnew (Below.refl _ _) _)) hrc hrm (hide (two_few hck))
        rw [hAR] at hAB
        have HAB := hide hAB
        have hsz : w.heap.size ≤ wr.heap.size := HB.out.size
        have HC2 : Hid (commP x.procs = ((witS (commN rs) L.toNat S.toNat 0).isNone && commP (x.procs.drop (k + 1)))) := by
          show _ = _
          rw [HC.out, hd]
          rfl
        obtain ⟨q, hq⟩ : ∃ q : Bool, q = (witS (commN rs) L.toNat S.toNat 0).isNone := ⟨_, rfl⟩
        rw [← hq] at HAB HC2
        clear hd hpr hck hAR hAB hrs hq
        cases q
        · go_wp2_with (go_at_call 77; refine HAB.out.mono ?_; rintro e w5 ⟨v5, rfl, h5, hb5⟩; have HB5 := hide ((HB.out.alloc hsz _).trans (hb5.mono (by rw [alloc_size']; omega))); clear h5 hb5)
          go_ret2
          exact ⟨by rw [HR.out, HC2.out]; rfl, HB5.out⟩
        · go_wp2_with (go_at_call 77; refine HAB.out.mono ?_; rintro e w5 ⟨v5, rfl, h5, hb5⟩; have HB5 := hide ((HB.out.alloc hsz _).trans (hb5.mono (by rw [alloc_size']; omega))); clear h5 hb5)
          go_roundw
          case rel => exact ⟨k + 1, by omega, by go_num, by show _ = _; rw [HC2.out]; simp, HB5.out⟩
          case measure => simp [intOf]; omega
      · have HC2 : Hid (commP x.procs = true) := by
          show _ = _
          rw [HC.out, List.drop_eq_nil_of_le (by omega)]
          rfl
        go_wp2_with fail
        go_ret2
        exact ⟨by rw [HR.out, HC2.out]; rfl, HB.out⟩
  · have HR : Hid (nabR x = (false, ne)) := by
      show _ = _
      unfold nabR
      rw [← HNE.out, if_neg h0]
    go_enter Tryz.func30, Tryz.ntmps30
    go_wp2_with (go_at_call 43; refine HCK.out.mono ?_; rintro e w2 ⟨rfl, hb2⟩; have HX := hide (below_box (hb2.mono (B' := w.heap.size + 1) (by simp))); clear hb2)
    go_ret2
    exact ⟨by rw [HR.out]; rfl, HX.out⟩

end Go.Proofs.YtnigfddanoaonaaGreat

set_option linter.unusedVariables false
set_option linter.unusedSimpArgs false
namespace Go.Proofs.YtnigfddanoaonaaGreat
open Go.RowKit

def addO (wt : List (List Int)) (o : Int × Int) : List (List Int) := bump wt o.1.toNat o.2.toNat 1
/-- The network behind the move that lets processor p read the letter a. -/
def moveX (x : Nwk) (p a : Nat) : Nwk :=
  { x with state := x.state.set p (nextP x.procs p (x.state.getD p 0) a), waiting := (sentP x.procs p (x.state.getD p 0) a).foldl addO (bump x.waiting p a (-1)) }
/-- What a move leaves alone. -/
structure Kept (B0 gs : Nat) (rs : List Rw) (W W' : World) : Prop where
  low : Below B0 W W'
  size : W.heap.size ≤ W'.heap.size
  fix : ∀ k, k < W.heap.size → k ≠ gs → (∀ r ∈ rs, k ≠ r.g) → W'.heap[k]? = W.heap[k]?
theorem Kept.refl (B0 gs : Nat) (rs : List Rw) (W : World) : Kept B0 gs rs W W := ⟨Below.refl _ _, Nat.le_refl _, fun _ _ _ _ => rfl⟩
theorem Kept.trans {B0 gs : Nat} {rs : List Rw} {W W1 W2 : World} (h : Kept B0 gs rs W W1) (g : Kept B0 gs rs W1 W2) : Kept B0 gs rs W W2 :=
  ⟨h.low.trans g.low, Nat.le_trans h.size g.size, fun k hk h1 h2 => (g.fix k (Nat.lt_of_lt_of_le hk h.size) h1 h2).trans (h.fix k hk h1 h2)⟩
theorem Kept.of_below {B0 gs : Nat} {rs : List Rw} {W W1 : World} (h : Below W.heap.size W W1) (hB : B0 ≤ W.heap.size) : Kept B0 gs rs W W1 := ⟨h.mono hB, h.size, fun k hk _ _ => h.block k hk⟩
theorem rwSet_g (rs : List Rw) (i : Nat) (l : List Int) : (rwSet rs i l).map (·.g) = rs.map (·.g) := by
  apply List.ext_getElem?
  intro j
  rw [List.getElem?_map, List.getElem?_map, rwSet_at]
  split
  · rename_i h; subst h
    rcases rs[i]? with _ | r <;> rfl
  · rfl

section
variable {O : Foot} {B0 K H p gs : Nat} {vp tw : Value} {rs : List Rw} {x : Nwk} {W W' : World}
theorem Mach.putWait (h : Mach O B0 K H p gs vp tw rs x W) {i k : Nat} {r : Rw} {l : List Int} (hr : rs[i]? = some r) (hl : r.l = l) (hk : k < l.length) (y : Int) :
    Mach O B0 K H p gs vp tw (rwSet rs i (l.set k y)) { x with waiting := x.waiting.set i (l.set k y) } (W.setCell ⟨r.g, k, none⟩ (.int .i64 y)) := by
  subst hl
  obtain ⟨h1, h2, h3⟩ := h.tab.row r (List.mem_of_getElem? hr)
  obtain ⟨l1, l2, l3, l4⟩ := h.low
  exact {
    main := h.main.other (fun e => ne_type h1 h.main (by decide) e.symm) _
    procs := h.procs.keep prcR_ok (fun g hg => Below.heap_setCell _ _ _ g (by have := h.vlt g hg; simp only; omega)) (fun k hk _ => Below.heap_setCell _ _ _ k (by have := hk.2; simp only; omega))
    vlt := h.vlt
    sts := h.sts.other (by simp only; omega) _
    tab := h.tab.put hr hk y
    tabs := by rw [tabL_set, h.tabs]
    low := h.low }
theorem Mach.putState (h : Mach O B0 K H p gs vp tw rs x W) {i : Nat} (hi : i < x.state.length) (y : Int) : Mach O B0 K H p gs vp tw rs { x with state := x.state.set i y } (W.setCell ⟨gs, i, none⟩ (.int .i64 y)) := by
  obtain ⟨l1, l2, l3, l4⟩ := h.low
  exact {
    main := h.main.other (fun e => ne_type h.sts h.main (by decide) e.symm) _
    procs := h.procs.keep prcR_ok (fun g hg => Below.heap_setCell _ _ _ g (by have := (h.procs.block g hg).1; simp only; omega)) (fun k hk _ => Below.heap_setCell _ _ _ k (by have := hk.1.1; unfold OldNew at this; simp only; omega))
    vlt := h.vlt
    sts := h.sts.put hi y
    tab := h.tab.above fun k _ hk => Below.heap_setCell _ _ _ k (by simp only; omega)
    tabs := h.tabs
    low := h.low }
theorem Kept.put (hB : B0 ≤ gs ∧ B0 ≤ H) (ht : ∀ r ∈ rs, H ≤ r.g) {b k : Nat} (hb : b = gs ∨ ∃ r ∈ rs, b = r.g) (v : Value) : Kept B0 gs rs W (W.setCell ⟨b, k, none⟩ v) := by
  have hB0 : B0 ≤ b := by
    rcases hb with rfl | ⟨r, hr, rfl⟩
    · exact hB.1
    · have := ht r hr; omega
  refine ⟨(Below.refl _ _).setCell hB0 _, by simp [World.setCell], fun q hq h1 h2 => Below.heap_setCell _ _ _ q ?_⟩
  rcases hb with rfl | ⟨r, hr, rfl⟩
  · exact h1
  · exact h2 r hr
/-- A letter that waits, in memory. -/
theorem Mach.wait (h : Mach O B0 K H p gs vp tw rs x W) {i k : Nat} {l : List Int} {y : Int} (hl : x.waiting[i]? = some l) (hk : l[k]? = some y) :
    ∃ r g cap, rs[i]? = some r ∧ r.l = l ∧ tw = .slice (some ⟨g, 0, none⟩) x.waiting.length cap ∧ W.cell? ⟨g, i, none⟩ = some (.slice (some ⟨r.g, 0, none⟩) l.length r.c) ∧ W.cell? ⟨r.g, k, none⟩ = some (.int .i64 y) ∧ W.frozen? ⟨r.g, k, none⟩ = false ∧ H ≤ r.g := by
  obtain ⟨r, hr, hrl⟩ := h.row hl
  obtain ⟨g, cap, htw, _, _, hcell, hrow, hH, _, _⟩ := h.tab.get hr
  rw [hrl] at hcell hrow
  rw [h.rlen] at htw
  exact ⟨r, g, cap, hr, hrl, htw, hcell, hrow.cell hk, hrow.free k, hH⟩
end

theorem wrap_small {q sl : Nat} (h : sl ≤ 16) (h2 : q < sl) : wrap64 ((q : Int) + 1) = (q : Int) + 1 := by unfold wrap64; omega
/-- Tables of one shape, with numbers from 0 to c. -/
structure Shape (wt wt' : List (List Int)) (c : Int) : Prop where
  len : wt'.length = wt.length
  row : ∀ (j : Nat) (l' : List Int), wt'[j]? = some l' → ∃ l, wt[j]? = some l ∧ l'.length = l.length
  num : ∀ l ∈ wt', ∀ z ∈ l, 0 ≤ z ∧ z ≤ c
theorem bump_eq {wt : List (List Int)} {p k : Nat} {l : List Int} {z : Int} (hl : wt[p]? = some l) (hz : l[k]? = some z) (y : Int) : bump wt p k y = wt.set p (l.set k (z + y)) := by
  unfold bump
  rw [getD_some hl, getD_some hz]
theorem Shape.put {wt wt' : List (List Int)} {c c' : Int} (h : Shape wt wt' c) (hc : c ≤ c') {p k : Nat} {l : List Int} (hl : wt'[p]? = some l) (hk : k < l.length) {y : Int} (hy : 0 ≤ y ∧ y ≤ c') : Shape wt (wt'.set p (l.set k y)) c' where
  len := by rw [List.length_set]; exact h.len
  row := fun j l' hj => by
    rw [List.getElem?_set] at hj
    split at hj
    · rename_i e
      subst e
      split at hj
      · injection hj with hj
        subst hj
        obtain ⟨l0, h1, h2⟩ := h.row p l hl
        exact ⟨l0, h1, by rw [List.length_set]; exact h2⟩
      · cases hj
    · exact h.row j l' hj
  num := fun l' hl' z hz => by
    rcases List.mem_or_eq_of_mem_set hl' with hm | rfl
    · have := h.num l' hm z hz; omega
    · rcases List.mem_or_eq_of_mem_set hz with hm | rfl
      · have := h.num l (List.mem_of_getElem? hl) z hm; omega
      · exact hy

section
variable {O : Foot} {B0 K H p gs : Nat} {vp tw : Value} {rs : List Rw} {x : Nwk} {W : World}
set_option maxRecDepth 100000 in
set_option maxHeartbeats 4000000 in
theorem nmake_any (h : Mach O B0 K H p gs vp tw rs x W) (hr : Right x) {i k : Nat} {l : List Int} {y : Int} (hl : x.waiting[i]? = some l) (hk : l[k]? = some y) (hy : 0 < y) (hbig : ∀ t ∈ x.waiting, ∀ z ∈ t, z ≤ 1000000) :
    Calls Tryz.prog 197 #[machV p, .agg #[.int .i64 (i : Nat), .int .i64 (k : Nat)]] W fun e w' => e = .returned (.int .i64 0) ∧ ∃ rs', Mach O B0 K H p gs vp tw rs' (moveX x i k) w' ∧ rs'.map (·.g) = rs.map (·.g) ∧ Kept B0 gs rs W w' := by
  obtain ⟨n, hn⟩ : ∃ n, n = x.procs.length := ⟨_, rfl⟩
  have hwn : x.waiting.length = n := by rw [hn]; exact hr.nwt
  have hsn : x.state.length = n := by rw [hn]; exact hr.nst
  have hin : i < n := by have := (List.getElem?_eq_some_iff.1 hl).1; omega
  have h12 : n ≤ 12 := by rw [hn]; exact hr.n.2
  have hpr0 := List.getElem?_eq_getElem (show i < x.procs.length by omega)
  have hle := hr.wl i l _ hl hpr0
  have hzc := (check_zero (hr.proc i _ hpr0)).2.2.1
  have hll : l.length = lettersP x.procs i := by unfold lettersP; rw [getD_some hpr0]; omega
  have hl8 : l.length ≤ 8 := by omega
  have hkl : k < l.length := (List.getElem?_eq_some_iff.1 hk).1
  obtain ⟨s, hs⟩ : ∃ s, x.state[i]? = some s := ⟨_, List.getElem?_eq_getElem (by omega)⟩
  obtain ⟨s0, s1⟩ := hr.st i s _ hs hpr0
  obtain ⟨pr, row, r, q1, q2, q3, q4, q5, q6, q7, q8⟩ := hr.rule (p := i) (k := k) (s := s) (by omega) s0 (by unfold statesP; rw [getD_some hpr0]; exact s1) (by omega)
  obtain ⟨sn, rfl⟩ := Int.eq_ofNat_of_zero_le s0
  simp only [Int.toNat_natCast] at q3
  have HMV : Hid (moveX x i k = { x with state := x.state.set i r.next, waiting := (r.sent.map pairO).foldl addO (x.waiting.set i (l.set k (y - 1))) }) := by
    show _ = _
    unfold moveX
    rw [getD_some hs, show nextP x.procs i (sn : Int) k = r.next from by unfold nextP; rw [q5], show sentP x.procs i (sn : Int) k = r.sent.map pairO from by unfold sentP; rw [q5], bump_eq hl hk]
    rfl
  obtain ⟨oV, cV, hvp, _, hps⟩ := h.procs.slice prcR_ok
  subst hvp
  -- the machine behind the box of the move
  obtain ⟨W1, e1⟩ : ∃ W1, W.alloc (.cells #[.int .i64 (i : Nat), .int .i64 (k : Nat)] 80) = W1 := ⟨_, rfl⟩
  have bx1 : Box W1 W.heap.size [.int .i64 (i : Nat), .int .i64 (k : Nat)] 80 := by rw [← e1]; exact Box.new W [.int .i64 (i : Nat), .int .i64 (k : Nat)] 80
  have bb1 := bnew (Below.refl W.heap.size W) (.cells #[.int .i64 (i : Nat), .int .i64 (k : Nat)] 80)
  rw [e1] at bb1
  have d0 := bx1.cell 0
  have d1 := bx1.cell 1
  simp only [List.getElem?_cons_zero, List.getElem?_cons_succ] at d0 d1
  have HM1 := hide (h.below bb1)
  have hBW : B0 ≤ W.heap.size := by have h1 := h.low; have h2 := h.sts.lt; omega
  have HK1 := hide (Kept.of_below (rs := rs) (gs := gs) bb1 hBW)
  have HR := hide hr
  have HN := hide hn
  have HWN := hide hwn
  have HSN := hide hsn
  have HL := hide hl
  have HKY := hide hk
  have HS := hide hs
  have HBIG := hide hbig
  have HQ3 := hide q3
  have HQ4 := hide q4
  have HQ1 := hide q1
  have HQ8 := hide q8
  have HQ6 := hide q6
  have HLL := hide hll
  unfold machV
  clear h hr hn hwn hsn hl hk hs hbig q1 q2 q3 q4 q5 q6 q8 hpr0 hle hzc s1 hll bx1 bb1 hps
  go_enter Tryz.func197, Tryz.ntmps197
  go_wp2_with fail
  go_quiet (fail)
  obtain ⟨W2, e2⟩ : ∃ W2, W1.drewN nq = W2 := ⟨_, rfl⟩
  have HM2 : Hid (Mach O B0 K H p gs (.slice oV x.procs.length cV) tw rs x W2) := by
    show Mach _ _ _ _ _ _ _ _ _ _ _
    rw [← e2]
    exact HM1.out.below (below_drewN (Below.refl _ _) _)
  have HK2 : Hid (Kept B0 gs rs W W2) := by
    show Kept _ _ _ _ _
    rw [← e2]
    exact HK1.out.trans (Kept.of_below (below_drewN (Below.refl _ _) _) (by have := HM1.out.low; have := HM1.out.sts.lt; omega))
  rw [e2]
  clear e2 d0 d1
  obtain ⟨rw0, g0, cap0, hr0, hrl0, htw, c0, c1, f1, hH0⟩ := HM2.out.wait HL.out HKY.out
  rw [HWN.out] at htw
  subst htw
  have m2 := HM2.out.main.cell 2
  simp only [List.getElem?_cons_zero, List.getElem?_cons_succ] at m2
  obtain ⟨ll, hll⟩ : ∃ ll, ll = l.length := ⟨_, rfl⟩
  rw [← hll] at c0 hl8 hkl
  have HLN := hide hll
  have hput := HM2.out.putWait hr0 hrl0 (by rw [← hll]; exact hkl) (y - 1)
  have HM3 := hide hput
  have HK3 : Hid (Kept B0 gs rs W (W2.setCell ⟨rw0.g, k, none⟩ (.int .i64 (y - 1)))) := HK2.out.trans (Kept.put (H := H) ⟨HM2.out.low.1, by have := HM2.out.low; omega⟩ (fun r hr => (HM2.out.tab.row r hr).2.1) (.inr ⟨rw0, List.mem_of_getElem? hr0, rfl⟩) _)
  have hyb : y ≤ 1000000 := HBIG.out l (List.mem_of_getElem? HL.out) y (List.mem_of_getElem? HKY.out)
  clear hput hr0 hrl0 hll
  go_wp2_with fail
  obtain ⟨W3, e3⟩ : ∃ W3, W2.setCell ⟨rw0.g, k, none⟩ (.int .i64 (y - 1)) = W3 := ⟨_, rfl⟩
  rw [e3] at HM3 HK3
  rw [e3]
  clear e3 c0 c1 f1 m2
  obtain ⟨b1, hcP, hoV, hb1, hb2, hrowP, ⟨oa1, cc1, rfl, z6, z7, z8, z9, z10⟩⟩ := HM3.out.procs.hole HQ1.out
  subst hoV
  have z5 := hrowP.cell (j := 2) (by omega)
  simp only [List.getElem?_cons_zero, List.getElem?_cons_succ] at z5
  have hsl2 : sn < pr.rules.length := (List.getElem?_eq_some_iff.1 HQ3.out).1
  obtain ⟨row2, _, y1, b2, off2, oa2, cc2, rfl, y2, y3, y4, y5, y6⟩ := z10.slc_at hsl2
  rw [HQ3.out] at y1
  injection y1 with y1
  subst y1
  have hkl2 : k < row.length := (List.getElem?_eq_some_iff.1 HQ4.out).1
  obtain ⟨nx, st, _, x1, x2, b3, off3, oa3, cc3, rfl, x3, x4, x5, x6, x7, x8⟩ := y6.rule_at hkl2
  rw [HQ4.out] at x1
  injection x1 with x1
  subst x1
  simp only at q7
  have hip : i < x.procs.length := by have := HN.out; omega
  have m0 := HM3.out.main.cell 0
  have m1 := HM3.out.main.cell 1
  have g2 := HM3.out.sts.cell (i := i) (x := (sn : Int)) HS.out
  have g3 := HM3.out.sts.free i
  simp only [List.getElem?_cons_zero, List.getElem?_cons_succ] at m0 m1
  rw [← HN.out] at m0 m1 hip
  have l0 := World.block_lt_of_cell? _ _ m0
  have l2 := World.block_lt_of_cell? _ _ g2
  have l3 := World.block_lt_of_cell? _ _ z5
  have l4 := World.block_lt_of_cell? _ _ y3
  have l5 := World.block_lt_of_cell? _ _ x4
  simp only at l0 l2 l3 l4 l5
  have HST := hide x8
  have hcl : pr.rules.length ≤ 16 := by
    have := check_zero (HR.out.proc i pr HQ1.out)
    omega
  clear x8 z10 y6 hrowP
  go_region
  obtain ⟨W4, e4⟩ : ∃ W4, (W3.alloc (.cells #[.int .i64 nx, .slice oa3 st.length cc3] 99)).drew = W4 := ⟨_, rfl⟩
  have bb4 : Below W3.heap.size W3 W4 := by rw [← e4]; exact (bnew (Below.refl _ _) _).drew
  have bx4 : Box W4 W3.heap.size [.int .i64 nx, .slice oa3 st.length cc3] 99 := by rw [← e4]; exact (Box.new W3 [.int .i64 nx, .slice oa3 st.length cc3] 99).draw
  have HM4 := hide (HM3.out.below bb4)
  have HK4 : Hid (Kept B0 gs rs W W4) := HK3.out.trans (Kept.of_below bb4 (by have := HM3.out.low; have := HM3.out.sts.lt; omega))
  have i0 := bx4.cell 0
  have i1 := HM4.out.main.cell 1
  have i4 := HM4.out.sts.cell (i := i) (x := (sn : Int)) HS.out
  have i5 := HM4.out.sts.free i
  simp only [List.getElem?_cons_zero, List.getElem?_cons_succ] at i0 i1
  rw [← HN.out] at i1
  have HX4 := hide bx4
  have HST4 := hide (HST.out.below outR_ok bb4)
  rw [e4]
  clear e4 bb4 bx4 m0 m1 g2 g3 l0 l2 l3 l4 l5 z5 z6 z7 z8 z9 y2 y3 y4 y5 x2 x3 x4
  go_wp2_with fail
  go_region
  obtain ⟨W5, e5⟩ : ∃ W5, (W4.setCell ⟨gs, i, none⟩ (.int .i64 nx)).drew = W5 := ⟨_, rfl⟩
  have HM5 : Hid (Mach O B0 K H p gs (.slice (some ⟨b1, 0, none⟩) x.procs.length cV) (.slice (some ⟨g0, 0, none⟩) n cap0) (rwSet rs i (l.set k (y - 1))) { x with state := x.state.set i nx, waiting := x.waiting.set i (l.set k (y - 1)) } W5) := by
    show Mach _ _ _ _ _ _ _ _ _ _ _
    rw [← e5]
    have := HM4.out.putState (i := i) (by simp only; have := HSN.out; omega) nx
    exact this.below (Below.refl _ _).drew
  have HK5 : Hid (Kept B0 gs rs W W5) := by
    show Kept _ _ _ _ _
    rw [← e5]
    have h1 : Kept B0 gs rs W4 (W4.setCell ⟨gs, i, none⟩ (.int .i64 nx)) := Kept.put (H := H) ⟨HM2.out.low.1, by have := HM2.out.low; omega⟩ (fun r hr => (HM2.out.tab.row r hr).2.1) (.inl rfl) _
    exact (HK4.out.trans h1).trans ⟨(Below.refl _ _).drew, Nat.le_refl _, fun _ _ _ _ => rfl⟩
  have HX5 : Hid (Box W5 W3.heap.size [.int .i64 nx, .slice oa3 st.length cc3] 99) := by
    show Box _ _ _ _
    rw [← e5]
    exact (HX4.out.other (p := ⟨gs, i, none⟩) (fun e => ne_type HM4.out.sts HX4.out (by decide) e.symm) _).draw
  obtain ⟨FF, hFF⟩ : ∃ FF : Foot, FF = fun k => InF (OldNew O B0 K) (.slice (some ⟨b1, 0, none⟩) x.procs.length cV) k ∧ k < H := ⟨_, rfl⟩
  have HFG : Hid (∀ k, FF k → k ≠ gs ∧ k < H) := fun k hk => by
    rw [hFF] at hk
    have h1 := hk.1.1
    unfold OldNew at h1
    have := HM2.out.low
    exact ⟨by omega, hk.2⟩
  have HST5 : Hid (SliceR outR 2 FF W5 oa3 st) := by
    show SliceR _ _ _ _ _ _
    rw [← e5]
    have h4 := HST4.out
    rw [← hFF] at h4
    exact (h4.keep (w' := W4.setCell ⟨gs, i, none⟩ (.int .i64 nx)) outR_ok fun k hk _ => Below.heap_setCell _ _ _ k (HFG.out k hk).1).keep outR_ok fun _ _ _ => rfl
  clear hFF HST4 HST
  rw [e5]
  have c5 := HX5.out.cell 1
  simp only [List.getElem?_cons_zero, List.getElem?_cons_succ] at c5
  clear e5 i0 i1 i4 i5
  go_wp2_with fail
  have HSH0 : Hid (Shape x.waiting (x.waiting.set i (l.set k (y - 1))) 1000000) := Shape.put (c := 1000000) ⟨rfl, fun j l' hj => ⟨l', hj, rfl⟩, fun l' hl' z hz => ⟨(HR.out.wb l' hl' z hz).1, HBIG.out l' hl' z hz⟩⟩ (Int.le_refl _) HL.out (by rw [← HLN.out]; exact hkl) (by omega)
  have HSZ : Hid (st.length ≤ 16) := q7
  obtain ⟨sl, hsl⟩ : ∃ sl, sl = st.length := ⟨_, rfl⟩
  have HSLN := hide hsl
  rw [← hsl] at HX5 HSZ c5 ⊢
  clear hsl
  go_loopg [63] sl (fun gm iv wr => ∃ (q : Nat) (rs' : List Rw) (wt' : List (List Int)), q ≤ sl ∧ gm = sl - q ∧ iv = .int .i64 q ∧ Hid (wt' = ((st.take q).map pairO).foldl addO (x.waiting.set i (l.set k (y - 1)))) ∧ Hid (Shape x.waiting wt' (1000000 + q)) ∧ Hid (Mach O B0 K H p gs (.slice (some ⟨b1, 0, none⟩) x.procs.length cV) (.slice (some ⟨g0, 0, none⟩) n cap0) rs' { x with state := x.state.set i nx, waiting := wt' } wr) ∧ Hid (rs'.map (·.g) = rs.map (·.g)) ∧ Hid (Kept B0 gs rs W wr) ∧ Hid (Box wr W3.heap.size [.int .i64 nx, .slice oa3 sl cc3] 99) ∧ Hid (SliceR outR 2 FF wr oa3 st))
  case atStart => exact ⟨0, _, _, by omega, by omega, rfl, rfl, by show Shape _ _ _; simpa using HSH0.out, HM5.out, rwSet_g _ _ _, HK5.out, HX5.out, HST5.out⟩
  case round =>
    obtain ⟨q, rs', wt', hq, hgm, rfl, HWT, HSH, HMq, HRG, HKq, HXq, HSq⟩ := hrel
    have HGM := hide hgm
    clear hgm
    by_cases hlt : q < sl
    · obtain ⟨tt, le, hd, hxo, it, il, b6, off6, rfl, _, oc0, oc1⟩ := HSq.out.out_at (i := q) (by have := HSLN.out; omega)
      obtain ⟨⟨m1, m2⟩, m3, m4⟩ := HQ8.out _ (List.mem_of_getElem? hxo)
      simp only at m1 m2 m3 m4
      obtain ⟨tn, rfl⟩ := Int.eq_ofNat_of_zero_le m1
      obtain ⟨ln, rfl⟩ := Int.eq_ofNat_of_zero_le m3
      simp only [Int.toNat_natCast] at m4
      have htn : tn < n := by have := HN.out; omega
      obtain ⟨l0, hl0⟩ : ∃ l0, wt'[tn]? = some l0 := ⟨_, List.getElem?_eq_getElem (by have := HSH.out.len; have := HWN.out; omega)⟩
      obtain ⟨lx, hlx, hll0⟩ := HSH.out.row tn l0 hl0
      have hlen : l0.length = lettersP x.procs tn := by
        have hprt := List.getElem?_eq_getElem (show tn < x.procs.length by have := HN.out; omega)
        have h1 := HR.out.wl tn lx _ hlx hprt
        rw [hll0]
        unfold lettersP
        rw [getD_some hprt]
        omega
      have hln : ln < l0.length := by omega
      obtain ⟨z, hz⟩ : ∃ z, l0[ln]? = some z := ⟨_, List.getElem?_eq_getElem hln⟩
      obtain ⟨hz0, hz1⟩ := HSH.out.num l0 (List.mem_of_getElem? hl0) z (List.mem_of_getElem? hz)
      obtain ⟨W6, e6⟩ : ∃ W6, wr.alloc (.cells #[.int .i64 tn, .int .i64 ln] 102) = W6 := ⟨_, rfl⟩
      have bx6 : Box W6 wr.heap.size [.int .i64 tn, .int .i64 ln] 102 := by rw [← e6]; exact Box.new wr [.int .i64 tn, .int .i64 ln] 102
      have bb6 := bnew (Below.refl wr.heap.size wr) (.cells #[.int .i64 tn, .int .i64 ln] 102)
      rw [e6] at bb6
      have HM6 := hide (HMq.out.below bb6)
      have HK6 : Hid (Kept B0 gs rs W W6) := HKq.out.trans (Kept.of_below bb6 (by have := HMq.out.low; have := HMq.out.sts.lt; omega))
      have HX6 := hide (HXq.out.below bb6)
      have HS6 := hide (HSq.out.below outR_ok bb6)
      have k0 := bx6.cell 0
      have k1 := bx6.cell 1
      obtain ⟨r6, g6, cap6, hr6, hrl6, htw6, c0, c1, f1, hH6⟩ := HM6.out.wait hl0 hz
      simp only at htw6
      injection htw6 with v1 v2 v3
      injection v1 with v1
      injection v1 with v1
      subst v1 v3
      have m2c := HM6.out.main.cell 2
      simp only [List.getElem?_cons_zero, List.getElem?_cons_succ] at k0 k1 m2c
      have HWS : Hid (((st.take (q + 1)).map pairO).foldl addO (x.waiting.set i (l.set k (y - 1))) = wt'.set tn (l0.set ln (z + 1))) := by
        show _ = _
        rw [List.take_add_one, hxo]
        simp only [Option.toList_some, List.map_append, List.map_cons, List.map_nil, List.foldl_append, List.foldl_cons, List.foldl_nil]
        rw [← HWT.out]
        unfold addO pairO
        simp only [Int.toNat_natCast]
        exact bump_eq hl0 hz 1
      have HSH2 : Hid (Shape x.waiting (wt'.set tn (l0.set ln (z + 1))) (1000000 + (q + 1 : Nat))) := HSH.out.put (by omega) hl0 hln (by omega)
      have HRL := hide (And.intro hr6 (And.intro hrl6 hl0))
      obtain ⟨l0n, hl0n⟩ : ∃ m, m = l0.length := ⟨_, rfl⟩
      rw [← hl0n] at c0 hln
      have HL0 := hide hl0n
      have hb8 : l0n ≤ 8 := by
        have := (HR.out.letters tn (by have := HN.out; omega)).2
        omega
      clear hd hxo hl0 hlx hll0 hlen hz hr6 hrl6 hl0n bx6 bb6 m4 v2
      go_wp2_with fail
      go_region
      rw [show wrap64 (z + 1) = z + 1 from by have h16 := HSZ.out; unfold wrap64; omega]
      obtain ⟨W7, e7⟩ : ∃ W7, (W6.setCell ⟨r6.g, ln, none⟩ (.int .i64 (z + 1))).drew = W7 := ⟨_, rfl⟩
      have hput := HM6.out.putWait HRL.out.1 HRL.out.2.1 (by rw [← HL0.out]; exact hln) (z + 1)
      have hkp : Kept B0 gs rs W6 (W6.setCell ⟨r6.g, ln, none⟩ (.int .i64 (z + 1))) := Kept.put (H := H) ⟨HM2.out.low.1, by have := HM2.out.low; omega⟩ (fun r hr => (HM2.out.tab.row r hr).2.1) (.inr (by
        have h1 : r6.g ∈ rs'.map (·.g) := List.mem_map.2 ⟨r6, List.mem_of_getElem? HRL.out.1, rfl⟩
        rw [HRG.out] at h1
        obtain ⟨r, h2, h3⟩ := List.mem_map.1 h1
        exact ⟨r, h2, h3.symm⟩)) _
      have HM7 : Hid (Mach O B0 K H p gs (.slice (some ⟨b1, 0, none⟩) x.procs.length cV) (.slice (some ⟨g0, 0, none⟩) n cap0) (rwSet rs' tn (l0.set ln (z + 1))) { x with state := x.state.set i nx, waiting := wt'.set tn (l0.set ln (z + 1)) } W7) := by
        show Mach _ _ _ _ _ _ _ _ _ _ _
        rw [← e7]
        exact hput.below (Below.refl _ _).drew
      have HK7 : Hid (Kept B0 gs rs W W7) := by
        show Kept _ _ _ _ _
        rw [← e7]
        exact (HK6.out.trans hkp).trans ⟨(Below.refl _ _).drew, Nat.le_refl _, fun _ _ _ _ => rfl⟩
      have hrow6 := HM6.out.tab.row r6 (List.mem_of_getElem? HRL.out.1)
      have HX7 : Hid (Box W7 W3.heap.size [.int .i64 nx, .slice (some ⟨b6, off6, none⟩) sl cc3] 99) := by
        show Box _ _ _ _
        rw [← e7]
        exact (HX6.out.other (p := ⟨r6.g, ln, none⟩) (fun e => ne_type hrow6.1 HX6.out (by decide) e.symm) _).draw
      have HS7 : Hid (SliceR outR 2 FF W7 (some ⟨b6, off6, none⟩) st) := by
        show SliceR _ _ _ _ _ _
        rw [← e7]
        exact (HS6.out.keep (w' := W6.setCell ⟨r6.g, ln, none⟩ (.int .i64 (z + 1))) outR_ok fun k hk _ => Below.heap_setCell _ _ _ k (by have := (HFG.out k hk).2; simp only; omega)).keep outR_ok fun _ _ _ => rfl
      rw [e7]
      clear e7 hput hkp hrow6 c0 c1 f1 k0 k1 m2c
      go_wp2_with fail
      go_roundg (sl - (q + 1))
      case measure =>
        rw [HGM.out]
        exact Nat.sub_lt_sub_left hlt (Nat.lt_succ_self q)
      case rel =>
        have h16 := HSZ.out
        exact ⟨q + 1, _, _, by omega, rfl, by (have hw : wrap64 ((q : Int) + 1) = (q : Int) + 1 := wrap_small h16 hlt; simp [hw]), HWS.out.symm, HSH2, HM7, by show _ = _; rw [rwSet_g]; exact HRG.out, HK7, HX7, HS7⟩
    · have hqe : q = sl := by omega
      subst hqe
      have c6 := HXq.out.cell 1
      simp only [List.getElem?_cons_zero, List.getElem?_cons_succ] at c6
      have HWF : Hid (wt' = (st.map pairO).foldl addO (x.waiting.set i (l.set k (y - 1)))) := by
        show _ = _
        have := HWT.out
        rw [List.take_of_length_le (by have := HSLN.out; omega)] at this
        exact this
      go_wp2_with fail
      go_loopg [86] q (fun gm iv wx => ∃ (t : Nat), t ≤ q ∧ gm = q - t ∧ iv = .int .i64 t ∧ Hid (Below wr.heap.size wr wx))
      case atStart => exact ⟨0, by omega, by omega, rfl, Below.refl _ _⟩
      case round =>
        obtain ⟨t, ht, hgm2, rfl, HBt⟩ := hrel
        have HGM2 := hide hgm2
        clear hgm2
        by_cases hlt2 : t < q
        · obtain ⟨tt, le, hd, hxo, it, il, b6, off6, rfl, _, oc0, oc1⟩ := (HSq.out.below outR_ok HBt.out).out_at (i := t) (by have := HSLN.out; omega)
          obtain ⟨⟨m1, m2⟩, m3, m4⟩ := HQ8.out _ (List.mem_of_getElem? hxo)
          simp only at m1 m2 m3 m4
          obtain ⟨tn, rfl⟩ := Int.eq_ofNat_of_zero_le m1
          obtain ⟨ln, rfl⟩ := Int.eq_ofNat_of_zero_le m3
          simp only [Int.toNat_natCast] at m4
          have htn : tn < n := by have := HN.out; omega
          obtain ⟨l0, hl0⟩ : ∃ l0, wt'[tn]? = some l0 := ⟨_, List.getElem?_eq_getElem (by have := HSH.out.len; have := HWN.out; omega)⟩
          obtain ⟨lx, hlx, hll0⟩ := HSH.out.row tn l0 hl0
          have hlen : l0.length = lettersP x.procs tn := by
            have hprt := List.getElem?_eq_getElem (show tn < x.procs.length by have := HN.out; omega)
            have h1 := HR.out.wl tn lx _ hlx hprt
            rw [hll0]
            unfold lettersP
            rw [getD_some hprt]
            omega
          have hln : ln < l0.length := by omega
          obtain ⟨z, hz⟩ : ∃ z, l0[ln]? = some z := ⟨_, List.getElem?_eq_getElem hln⟩
          obtain ⟨hz0, hz1⟩ := HSH.out.num l0 (List.mem_of_getElem? hl0) z (List.mem_of_getElem? hz)
          have h16 := HSZ.out
          have hzz : ¬ 1048576 < z := by omega
          obtain ⟨W6, e6⟩ : ∃ W6, wr.alloc (.cells #[.int .i64 tn, .int .i64 ln] 102) = W6 := ⟨_, rfl⟩
          have bx6 : Box W6 wr.heap.size [.int .i64 tn, .int .i64 ln] 102 := by rw [← e6]; exact Box.new wr [.int .i64 tn, .int .i64 ln] 102
          have bb6 := bnew (Below.refl wr.heap.size wr) (.cells #[.int .i64 tn, .int .i64 ln] 102)
          rw [e6] at bb6
          have HM6 := hide ((HMq.out.below HBt.out).below bb6)
          have HB6 := hide (HBt.out.trans (bb6.mono HBt.out.size))
          have k0 := bx6.cell 0
          have k1 := bx6.cell 1
          obtain ⟨r6, g6, cap6, hr6, hrl6, htw6, c0, c1, f1, hH6⟩ := HM6.out.wait hl0 hz
          simp only at htw6
          injection htw6 with v1 v2 v3
          injection v1 with v1
          injection v1 with v1
          subst v1 v3
          have m2c := HM6.out.main.cell 2
          simp only [List.getElem?_cons_zero, List.getElem?_cons_succ] at k0 k1 m2c
          obtain ⟨l0n, hl0n⟩ : ∃ m, m = l0.length := ⟨_, rfl⟩
          rw [← hl0n] at c0 hln
          have hb8 : l0n ≤ 8 := by
            have := (HR.out.letters tn (by have := HN.out; omega)).2
            omega
          clear hd hxo hl0 hlx hll0 hlen hz hr6 hrl6 hl0n bx6 bb6 m4 v2
          go_wp2_with fail
          go_quiet (fail)
          go_wp2_with fail
          go_roundg (q - (t + 1))
          case measure => have := HGM2.out; omega
          case rel => exact ⟨t + 1, by omega, rfl, by go_num, below_drewN HB6.out _⟩
        · go_wp2_with fail
          go_ret
          refine ⟨rfl, rs', ?_, HRG.out, HKq.out.trans (Kept.of_below HBt.out (by have := HMq.out.low; have := HMq.out.sts.lt; omega))⟩
          rw [HMV.out, ← HWF.out]
          exact HMq.out.below HBt.out
end

end Go.Proofs.YtnigfddanoaonaaGreat

set_option linter.unusedVariables false
set_option linter.unusedSimpArgs false
namespace Go.Proofs.YtnigfddanoaonaaGreat
open Go.RowKit

theorem Shape.add {wt wt' : List (List Int)} {c : Int} (h : Shape wt wt' c) {o : Int × Int} (ho : ∃ l, wt[o.1.toNat]? = some l ∧ o.2.toNat < l.length) : Shape wt (addO wt' o) (c + 1) := by
  obtain ⟨l, h1, h2⟩ := ho
  have hi : o.1.toNat < wt'.length := by rw [h.len]; exact (List.getElem?_eq_some_iff.1 h1).1
  have hl' := List.getElem?_eq_getElem hi
  obtain ⟨l0, h3, h4⟩ := h.row _ _ hl'
  rw [h1] at h3
  injection h3 with h3
  subst h3
  have hk : o.2.toNat < (wt'[o.1.toNat]).length := by omega
  have hz := List.getElem?_eq_getElem hk
  have hb := h.num _ (List.mem_of_getElem? hl') _ (List.mem_of_getElem? hz)
  unfold addO
  rw [bump_eq hl' hz]
  exact h.put (by omega) hl' hk (by omega)
theorem Shape.adds {wt : List (List Int)} : ∀ (os : List (Int × Int)) {wt' : List (List Int)} {c : Int}, Shape wt wt' c → (∀ o ∈ os, ∃ l, wt[o.1.toNat]? = some l ∧ o.2.toNat < l.length) → Shape wt (os.foldl addO wt') (c + os.length)
  | [], wt', c, h, _ => by simpa using h
  | o :: r, wt', c, h, ho => by
    have h1 := Shape.adds r (h.add (ho o (by simp))) fun q hq => ho q (by simp [hq])
    rw [List.foldl_cons, List.length_cons]
    have e : c + 1 + (r.length : Int) = c + ((r.length + 1 : Nat) : Int) := by push_cast; omega
    rw [← e]
    exact h1
theorem Right.shape {x : Nwk} (h : Right x) {c : Int} (hc : ∀ t ∈ x.waiting, ∀ z ∈ t, z ≤ c) : Shape x.waiting x.waiting c := ⟨rfl, fun j l hj => ⟨l, hj, rfl⟩, fun l hl z hz => ⟨(h.wb l hl z hz).1, hc l hl z hz⟩⟩
theorem Right.row {x : Nwk} (h : Right x) {p : Nat} (hp : p < x.procs.length) : ∃ l, x.waiting[p]? = some l ∧ l.length = lettersP x.procs p := by
  have hw := List.getElem?_eq_getElem (show p < x.waiting.length by rw [h.nwt]; exact hp)
  have hpr := List.getElem?_eq_getElem hp
  have h1 := h.wl p _ _ hw hpr
  refine ⟨_, hw, ?_⟩
  unfold lettersP
  rw [getD_some hpr]
  omega
/-- A legal move. -/
theorem moveX_shape {x : Nwk} (h : Right x) {i k : Nat} {l : List Int} {y : Int} (hl : x.waiting[i]? = some l) (hk : l[k]? = some y) (hy : 0 < y) {c : Int} (hc : ∀ t ∈ x.waiting, ∀ z ∈ t, z ≤ c) : Shape x.waiting (moveX x i k).waiting (c + 16) ∧ Right { moveX x i k with waiting := x.waiting } := by
  have hin : i < x.procs.length := by rw [← h.nwt]; exact (List.getElem?_eq_some_iff.1 hl).1
  obtain ⟨l', h1, h2⟩ := h.row hin
  rw [hl] at h1
  injection h1 with h1
  subst h1
  have hkl : k < l.length := (List.getElem?_eq_some_iff.1 hk).1
  have hpr := List.getElem?_eq_getElem hin
  obtain ⟨s, hs⟩ : ∃ s, x.state[i]? = some s := ⟨_, List.getElem?_eq_getElem (by rw [h.nst]; exact hin)⟩
  obtain ⟨s0, s1⟩ := h.st i s _ hs hpr
  have hok := h.ok
  have hs1 : s < statesP x.procs i := by unfold statesP; rw [getD_some hpr]; exact s1
  have hnx := hok.next i s k hin s0 hs1 (by omega)
  have hfew := hok.few i s k hin s0 hs1 (by omega)
  have hout := hok.out i s k hin s0 hs1 (by omega)
  have hy2 := hc l (List.mem_of_getElem? hl) y (List.mem_of_getElem? hk)
  constructor
  · have h1 := (h.shape hc).put (Int.le_refl c) hl hkl (y := y - 1) (by omega)
    have h3 := Shape.adds (sentP x.procs i (x.state.getD i 0) k) h1 fun o ho => by
      rw [getD_some hs] at ho
      obtain ⟨a, b, cc, d⟩ := hout o ho
      obtain ⟨l2, e1, e2⟩ := h.row (p := o.1.toNat) (by omega)
      exact ⟨l2, e1, by omega⟩
    unfold moveX
    simp only
    rw [bump_eq hl hk]
    rw [getD_some hs] at h3 ⊢
    refine ⟨h3.len, h3.row, fun l' hl' z hz => ?_⟩
    have := h3.num l' hl' z hz
    omega
  · refine ⟨h.n, h.proc, h.und, ?_, ?_, h.nwt, h.wl, h.wb⟩
    · show (x.state.set i _).length = _
      rw [List.length_set]; exact h.nst
    · intro j t pj hj hpj
      have hj' : (x.state.set i (nextP x.procs i (x.state.getD i 0) k))[j]? = some t := hj
      rw [List.getElem?_set] at hj'
      split at hj'
      · rename_i e
        subst e
        split at hj'
        · injection hj' with hj'
          subst hj'
          rw [getD_some hs]
          unfold statesP at hnx
          have e2 : x.procs[i]? = some pj := hpj
          rw [getD_some e2] at hnx
          exact hnx
        · cases hj'
      · exact h.st j t pj hj' hpj
theorem moveX_right {x : Nwk} (h : Right x) {i k : Nat} {l : List Int} {y : Int} (hl : x.waiting[i]? = some l) (hk : l[k]? = some y) (hy : 0 < y) {c : Int} (hc : ∀ t ∈ x.waiting, ∀ z ∈ t, z ≤ c) (hm : c + 16 ≤ 1048576) :
    Right (moveX x i k) ∧ (∀ t ∈ (moveX x i k).waiting, ∀ z ∈ t, z ≤ c + 16) ∧ (moveX x i k).procs = x.procs := by
  obtain ⟨h1, h2⟩ := moveX_shape h hl hk hy hc
  refine ⟨⟨h2.n, h2.proc, h2.und, h2.nst, h2.st, ?_, ?_, ?_⟩, fun t ht z hz => (h1.num t ht z hz).2, rfl⟩
  · rw [h1.len]; exact h.nwt
  · intro j t pj hj hpj
    obtain ⟨l0, e1, e2⟩ := h1.row j t hj
    rw [e2]
    exact h.wl j l0 pj e1 hpj
  · intro t ht z hz
    have := h1.num t ht z hz
    omega
theorem mem_rowMv {p : Nat} {l : List Int} {k : Nat} {m : Nat × Nat} (h : m ∈ rowMv p l k) : m.1 = p ∧ m.2 < k ∧ 0 < l.getD m.2 0 := by
  unfold rowMv at h
  obtain ⟨a, ha, rfl⟩ := List.mem_map.1 h
  obtain ⟨h1, h2⟩ := List.mem_filter.1 ha
  exact ⟨rfl, List.mem_range.1 h1, by simpa using h2⟩
/-- A move that is listed is legal. -/
theorem mem_moves {wt : List (List Int)} {m : Nat × Nat} (h : m ∈ movesS wt) : ∃ l y, wt[m.1]? = some l ∧ l[m.2]? = some y ∧ 0 < y := by
  unfold movesS at h
  obtain ⟨p, hp, hm⟩ := List.mem_flatMap.1 h
  obtain ⟨e, h1, h2⟩ := mem_rowMv hm
  have hpl := List.mem_range.1 hp
  have hl := List.getElem?_eq_getElem hpl
  rw [getD_some hl] at h1 h2
  have hy := List.getElem?_eq_getElem h1
  rw [getD_some hy] at h2
  exact ⟨_, _, by rw [e]; exact hl, hy, h2⟩

/-- The pick with number i among some moves. -/
def pickS (picks : List Int) (l : List (Nat × Nat)) (i : Nat) : Nat × Nat := l.getD ((picks.getD (i % picks.length) 0).toNat % l.length) (0, 0)
/-- A run by picks: the network and the counts when it has halted; none where the moves are used up. -/
def runX (picks : List Int) : Nat → Nat → Nwk → List (List Int) → Option (Nwk × List (List Int))
  | 0, i, x, ct => if (movesS x.waiting).isEmpty then some (x, ct) else none
  | n + 1, i, x, ct => if (movesS x.waiting).isEmpty then some (x, ct) else runX picks n (i + 1) (moveX x (pickS picks (movesS x.waiting) i).1 (pickS picks (movesS x.waiting) i).2) (bump ct (pickS picks (movesS x.waiting) i).1 (pickS picks (movesS x.waiting) i).2 1)
theorem pickS_mem {picks : List Int} {l : List (Nat × Nat)} {i : Nat} (h : l ≠ []) : pickS picks l i ∈ l := by
  unfold pickS
  have hl : 0 < l.length := List.length_pos_iff.2 h
  have hi : (picks.getD (i % picks.length) 0).toNat % l.length < l.length := Nat.mod_lt _ hl
  rw [getD_some (List.getElem?_eq_getElem hi)]
  exact List.getElem_mem hi

end Go.Proofs.YtnigfddanoaonaaGreat

set_option linter.unusedVariables false
set_option linter.unusedSimpArgs false
namespace Go.Proofs.YtnigfddanoaonaaGreat
open Go.RowKit

theorem methMv2 (x : Value) (w : World) : Sem.run Tryz.prog (method 349 147 x "sandpile/network.moves") w = .ok ((198 : Nat), x) w := by kernel_rfl
set_option maxRecDepth 100000 in
set_option maxHeartbeats 2000000 in
theorem nmv_any (x : Nwk) (op : Option Addr) (cp : Nat) (os : Option Addr) (cs : Nat) (ow : Option Addr) (cw : Nat) (F : Foot) (w : World) (hp : SliceR prcR 3 F w op x.procs) (hs : SliceR intR 1 F w os x.state) (ht : SliceR (slcR intR 1) 1 F w ow x.waiting) (hz : netErr x = 0) :
    Calls Tryz.prog 40 #[.agg #[.slice op x.procs.length cp, .slice os x.state.length cs, .slice ow x.waiting.length cw]] w fun e w' => ∃ v, e = .returned (.tuple #[v, .int .i64 0]) ∧ OwnS mvR 2 w.heap.size 80 Non w' v (movesS x.waiting) ∧ Below w.heap.size w w' := by
  have hr := netErr_zero hz
  have hst := hr.nst
  have hwt := hr.nwt
  have h12 := hr.n.2
  have hb0 := box_refl w (.cells #[.slice op x.procs.length cp, .slice os x.state.length cs, .slice ow x.waiting.length cw] 26)
  have HCK := hide (netCheck_any x.procs op cp x.state os cs x.waiting ow cw F _ (hp.below prcR_ok (below_box hb0)) (by omega) (hs.below intR_ok (below_box hb0)) (by omega) (ht.below (slcR_ok intR_ok (by decide)) (below_box hb0)) (by omega))
  rw [show (⟨x.procs, x.state, x.waiting⟩ : Nwk) = x from rfl, hz] at HCK
  have HST := hide (fun (u : World) (hu : Below w.heap.size w u) => nstart_any x op cp os cs ow cw F u (hp.below prcR_ok hu) (hs.below intR_ok hu) (ht.below (slcR_ok intR_ok (by decide)) hu) hr)
  rw [hst, hwt] at HCK ⊢
  have HW12 : Hid (x.waiting.length ≤ 12 ∧ ∀ l ∈ x.waiting, l.length ≤ 8) := by
    refine ⟨by rw [hwt]; exact h12, fun l hl => ?_⟩
    obtain ⟨j, hj, rfl⟩ := List.mem_iff_getElem.1 hl
    obtain ⟨l', h1, h2⟩ := hr.row (p := j) (by rw [← hwt]; exact hj)
    rw [List.getElem?_eq_getElem hj] at h1
    injection h1 with h1
    rw [h1, h2]
    exact (hr.letters j (by rw [← hwt]; exact hj)).2
  have hmv := methMv2
  clear hst hwt hr hp hs ht hz hb0
  go_enter Tryz.func40, Tryz.ntmps40
  go_wp2_with (first
    | (go_at_call 43; refine HCK.out.mono ?_; rintro e w2 ⟨rfl, hb2⟩; have hx2 := hb2.mono (B' := w.heap.size + 1) (by simp); have d0 := box_cell hx2 0; have d1 := box_cell hx2 1; have d2 := box_cell hx2 2; simp at d0 d1 d2; have HX := hide (below_box hx2); clear hb2 hx2)
    | (go_at_call 45; refine (HST.out w2 HX.out).mono ?_; rintro e w3 ⟨B0, K, H, p, gs, vp, tw, rs, rfl, hB0, hM, h4⟩; have HMV := hide (nmoves_any hM HW12.out.1 HW12.out.2); have HX3 := hide (HX.out.trans (h4.mono HX.out.size)); clear hM h4)
    | (go_at_call 198; refine HMV.out.mono ?_; rintro e w5 ⟨v5, rfl, h5, hb5⟩; have HO := hide h5; have HB5 := hide (HX3.out.trans (hb5.mono HX3.out.size)); clear h5 hb5))
  go_ret2
  exact ⟨_, rfl, HO.out.rebase HX3.out.size, HB5.out⟩

/-- The counts that are too many. -/
def leftE : Int → List Int → Int
  | _, [] => 0
  | left, k :: r => if left < k then 12 else leftE (left - k) r
def cntErr (x : Nwk) (t : List (List Int)) : Int := if shapedErr x.procs t = 0 then (if t.any negB then 2 else leftE 4096 t.flatten) else shapedErr x.procs t
set_option maxRecDepth 100000 in
set_option maxHeartbeats 4000000 in
theorem ncounted_any (x : Nwk) (op : Option Addr) (cp : Nat) (os : Option Addr) (ns cs : Nat) (ow : Option Addr) (nw cw : Nat) (t : List (List Int)) (ot : Option Addr) (ct : Nat) (F G : Foot) (w : World)
    (hp : SliceR prcR 3 F w op x.procs) (hp2 : x.procs.length ≤ 1000000) (ht : SliceR (slcR intR 1) 1 G w ot t) (ht2 : t.length ≤ 1000000) (hct : t.length ≤ ct) :
    Calls Tryz.prog 49 #[.agg #[.slice op x.procs.length cp, .slice os ns cs, .slice ow nw cw], .slice ot t.length ct] w fun e w' => e = .returned (.int .i64 (cntErr x t)) ∧ Below w.heap.size w w' := by
  have hb0 := box_refl w (.cells #[.slice op x.procs.length cp, .slice os ns cs, .slice ow nw cw] 26)
  have HSH := hide (shaped_any x.procs op cp os ns cs ow nw cw t ot ct F G _ (hp.below prcR_ok (below_box hb0)) (by omega) (ht.below (slcR_ok intR_ok (by decide)) (below_box hb0)) (by omega))
  obtain ⟨se, hse⟩ : ∃ se, se = shapedErr x.procs t := ⟨_, rfl⟩
  rw [← hse] at HSH
  have HSE := hide hse
  have HT := hide ht
  clear hse ht hp
  by_cases h0 : se = 0
  · subst h0
    have HR : Hid (cntErr x t = if t.any negB then 2 else leftE 4096 t.flatten) := if_pos HSE.out.symm
    go_enter Tryz.func49, Tryz.ntmps49
    go_wp2_with (go_at_call 91; refine HSH.out.mono ?_; rintro e w2 ⟨rfl, hb2⟩; have HX := hide (below_box (hb2.mono (B' := w.heap.size + 1) (by simp))); clear hb2)
    go_loopw [21] (fun iv wr => ∃ k : Nat, k ≤ t.length ∧ iv = .int .i64 k ∧ Hid (t.any negB = (t.drop k).any negB) ∧ wr = w2) (fun iv _ => t.length - (intOf iv).toNat)
    case atStart => exact ⟨0, by omega, rfl, rfl, rfl⟩
    case round =>
      obtain ⟨k, hk, rfl, HN, rfl⟩ := hrel
      by_cases hlt : k < t.length
      · obtain ⟨l, hd, hl, b, off, ol, cl, hot, _, c0, hcl, hl9, hsl⟩ := (HT.out.below (slcR_ok intR_ok (by decide)) HX.out).slc_at hlt
        have HD := hide hd
        subst hot
        clear hd hl
        by_cases hl0 : l.length = 0
        · have hnl : negB l = false := by rw [List.length_eq_zero_iff.1 hl0]; rfl
          have HN2 : Hid (t.any negB = (t.drop (k + 1)).any negB) := by show _ = _; rw [HN.out, HD.out, List.any_cons, hnl, Bool.false_or]
          rw [hl0] at c0
          clear hl0 hnl hsl hcl hl9
          go_wp2_with fail
          go_roundw
          case rel => exact ⟨k + 1, by omega, by go_num, HN2, by first | rfl | trivial⟩
          case measure => simp [intOf]; omega
        · have HM := hide (min_any l ol cl G wr hsl hcl hl9 (by omega))
          obtain ⟨ln, hln⟩ : ∃ ln, ln = l.length := ⟨_, rfl⟩
          have hq : (0 : Int) < (ln : Int) := by omega
          rw [← hln] at HM c0 hcl
          clear hln
          obtain ⟨nl, hnl⟩ : ∃ nl, nl = negB l := ⟨_, rfl⟩
          rw [← hnl] at HM
          have HNL := hide hnl
          clear hl0 hnl hsl hl9
          cases nl
          · have HN2 : Hid (t.any negB = (t.drop (k + 1)).any negB) := by show _ = _; rw [HN.out, HD.out, List.any_cons, ← HNL.out, Bool.false_or]
            go_wp2_with (go_at_call 92; refine HM.out.mono ?_; rintro e w5 ⟨m, rfl, hm, rfl⟩)
            go_roundw
            case rel => exact ⟨k + 1, by omega, by go_num, HN2, by first | rfl | trivial⟩
            case measure => simp [intOf]; omega
          · have HN2 : Hid (t.any negB = true) := by show _ = _; rw [HN.out, HD.out, List.any_cons, ← HNL.out, Bool.true_or]
            go_wp2_with (go_at_call 92; refine HM.out.mono ?_; rintro e w5 ⟨m, rfl, hm, rfl⟩)
            go_ret
            exact ⟨ret_int (by rw [HR.out, if_pos HN2.out]), HX.out⟩
      · have HN2 : Hid (t.any negB = false) := by
          show _ = _
          rw [HN.out, List.drop_eq_nil_of_le (by omega)]
          rfl
        have HR2 : Hid (cntErr x t = leftE 4096 t.flatten) := by show _ = _; rw [HR.out, if_neg (by rw [HN2.out]; decide)]
        obtain ⟨w2', hw2'⟩ : ∃ w2' : World, w2' = wr := ⟨_, rfl⟩
        subst hw2'
        have HNN : Hid (∀ l ∈ t, ∀ z ∈ l, 0 ≤ z) := fun l hl z hz => by
          have h1 := HN2.out
          rw [List.any_eq_false] at h1
          have h2 := h1 l hl
          unfold negB at h2
          simp at h2
          exact h2 z hz
        go_wp2_with fail
        go_loopg [8, 36] t.length (fun gm lv iv wx => ∃ (i : Nat) (left : Int), i ≤ t.length ∧ gm = t.length - i ∧ iv = .int .i64 i ∧ lv = .int .i64 left ∧ Hid (cntErr x t = leftE left (t.drop i).flatten) ∧ 0 ≤ left ∧ left ≤ 4096 ∧ w2' = wx)
        case atStart => exact ⟨0, 4096, by omega, by omega, rfl, rfl, HR2, by omega, by omega, rfl⟩
        case round =>
          obtain ⟨i, left, hi, hgm, rfl, rfl, HL, hl0, hl1, rfl⟩ := hrel
          have HGM := hide hgm
          clear hgm
          by_cases hlt : i < t.length
          · obtain ⟨l, hd, hl, b, off, ol, cl, hot, _, c0, hcl, hl9, hsl⟩ := (HT.out.below (slcR_ok intR_ok (by decide)) HX.out).slc_at hlt
            subst hot
            have HLN := hide (HNN.out l (List.mem_of_getElem? hl))
            have HL2 : Hid (cntErr x t = leftE left (l ++ (t.drop (i + 1)).flatten)) := by show _ = _; rw [HL.out, hd, List.flatten_cons]
            have HSL := hide hsl
            clear hd hl hsl
            go_wp2_with fail
            go_loopg [8, 42] l.length (fun gm lv jv wx => ∃ (j : Nat) (left : Int), j ≤ l.length ∧ gm = l.length - j ∧ jv = .int .i64 j ∧ lv = .int .i64 left ∧ Hid (cntErr x t = leftE left (l.drop j ++ (t.drop (i + 1)).flatten)) ∧ 0 ≤ left ∧ left ≤ 4096 ∧ w2' = wx)
            case atStart => exact ⟨0, left, by omega, by omega, rfl, rfl, HL2, hl0, hl1, by first | rfl | trivial⟩
            case round =>
              obtain ⟨j, left, hj, hgm, rfl, rfl, HJ, hl0, hl1, rfl⟩ := hrel
              have HGM2 := hide hgm
              clear hgm
              by_cases hjl : j < l.length
              · obtain ⟨z, hdz, hz, iz, b2, off2, hol, _, e0⟩ := HSL.out.int_at hjl
                subst hol
                have hz0 := HLN.out z (List.mem_of_getElem? hz)
                have HJ2 : Hid (cntErr x t = if left < z then 12 else leftE (left - z) (l.drop (j + 1) ++ (t.drop (i + 1)).flatten)) := by show _ = _; rw [HJ.out, hdz]; rfl
                clear hdz hz
                by_cases hlz : left < z
                · have HJ3 : Hid (cntErr x t = 12) := by show _ = _; rw [HJ2.out, if_pos hlz]
                  have q1 : decide (left < z) = true := by simp [hlz]
                  clear hlz
                  go_wp2_with fail
                  go_ret
                  exact ⟨ret_int HJ3.out.symm, HX.out⟩
                · have HJ3 : Hid (cntErr x t = leftE (left - z) (l.drop (j + 1) ++ (t.drop (i + 1)).flatten)) := by show _ = _; rw [HJ2.out, if_neg hlz]
                  have q1 : decide (left < z) = false := by simp; omega
                  have hlz2 : z ≤ left := by omega
                  clear hlz
                  go_wp2_with fail
                  go_roundg (l.length - (j + 1))
                  case measure => have := HGM2.out; omega
                  case rel => exact ⟨j + 1, left - z, by omega, rfl, by go_num, by go_num, HJ3, by omega, by omega, by first | rfl | trivial⟩
              · have hje : j = l.length := by omega
                have HJ3 : Hid (cntErr x t = leftE left (t.drop (i + 1)).flatten) := by show _ = _; rw [HJ.out, hje, List.drop_length, List.nil_append]
                clear hje
                go_wp2_with fail
                go_roundg (t.length - (i + 1))
                case measure => have := HGM.out; omega
                case rel => exact ⟨i + 1, left, by omega, rfl, by go_num, rfl, HJ3, hl0, hl1, by first | rfl | trivial⟩
          · have HL3 : Hid (cntErr x t = 0) := by
              show _ = _
              rw [HL.out, List.drop_eq_nil_of_le (by omega)]
              rfl
            go_wp2_with fail
            go_ret
            exact ⟨ret_int HL3.out.symm, HX.out⟩
  · have HR : Hid (cntErr x t = se) := by
      show _ = _
      unfold cntErr
      rw [← HSE.out, if_neg h0]
    go_enter Tryz.func49, Tryz.ntmps49
    go_wp2_with (go_at_call 91; refine HSH.out.mono ?_; rintro e w2 ⟨rfl, hb2⟩; have HX := hide (below_box (hb2.mono (B' := w.heap.size + 1) (by simp))); clear hb2)
    go_ret
    exact ⟨ret_int HR.out.symm, HX.out⟩

end Go.Proofs.YtnigfddanoaonaaGreat

/-
  Rows of outputs: swapping two parts of the same length, and rotating two parts.
-/
import Derived.Test.YtmjcjmljnliaoaaIns
set_option linter.unusedVariables false
namespace Go.Proofs.Ytmjcjmljnliaoaa
open Go.RowKit

theorem set_mid (U V : List Out) (x y : Out) : (U ++ x :: V).set U.length y = U ++ y :: V := by
  rw [List.set_append_right _ _ (Nat.le_refl _)]
  simp
theorem get_mid (U V : List Out) (x : Out) : (U ++ x :: V)[U.length]? = some x := by
  rw [List.getElem?_append_right (Nat.le_refl _)]
  simp

theorem RowO.draw {w : World} {g : Nat} {d : List Out} {rest : List Value} (h : RowO w g d rest) : RowO w.drew g d rest := h

set_option maxRecDepth 100000 in
set_option maxHeartbeats 4000000 in
theorem swapRange_any (X A M B Y : List Out) (rest : List Value) (g kb n a b m c : Nat) (w : World) (hr : RowO w g (X ++ (A ++ (M ++ (B ++ Y)))) rest) (hn : Hid (n = (X ++ (A ++ (M ++ (B ++ Y)))).length)) (ha : Hid (a = X.length)) (hb : Hid (b = X.length + A.length + M.length)) (hmA : Hid (m = A.length)) (hmB : Hid (m = B.length)) (hlen : n ≤ 1000000000000000) :
    Calls Try.prog 171 #[.slice (some ⟨g, 0, none⟩) n c, .int .i64 a, .int .i64 b, .int .i64 m, .func (.func 146) #[] #[.pointer (some ⟨kb, 0, none⟩)]] w fun e w' =>
      e = .returned (.tuple #[]) ∧ RowO w' g (X ++ (B ++ (M ++ (A ++ Y)))) rest ∧ w.grownBy w' (some g) := by
  have hbd : a + m ≤ b ∧ b + m ≤ n := by
    have h1 := hn.out; have h2 := ha.out; have h3 := hb.out; have h4 := hmA.out; have h5 := hmB.out
    simp at h1; omega
  have hb1 := hbd.1
  have hb2 := hbd.2
  clear hbd
  go_enter Try.func171, Try.ntmps171
  go_wp2_with fail
  go_loopw [10] (fun i wr => ∃ (k : Nat) (A1 A2 B1 B2 : List Out), i = .int .i64 k ∧ k ≤ m ∧ Hid (A = A1 ++ A2) ∧ Hid (B = B1 ++ B2) ∧ Hid (k = A1.length) ∧ Hid (k = B1.length) ∧
    RowO wr g (X ++ (B1 ++ (A2 ++ (M ++ (A1 ++ (B2 ++ Y)))))) rest ∧ w.grownBy wr (some g)) (fun i _ => m - (intOf i).toNat)
  case atStart => exact ⟨0, [], A, [], B, rfl, by omega, rfl, rfl, rfl, rfl, by simpa using hr, grown_refl _ _⟩
  case round =>
    obtain ⟨k, A1, A2, B1, B2, rfl, hkm, HA, HB, HK, HK', hrr, hgr⟩ := hrel
    by_cases hlt : k < m
    · have hA2 : A2 ≠ [] := by intro h; have h1 := HA.out; have h2 := hmA.out; have h3 := HK.out; subst h; subst h1; simp at h2; omega
      have hB2 : B2 ≠ [] := by intro h; have h1 := HB.out; have h2 := hmB.out; have h3 := HK'.out; subst h; subst h1; simp at h2; omega
      obtain ⟨⟨xt, xl⟩, A3, rfl⟩ := List.exists_cons_of_ne_nil hA2
      obtain ⟨⟨yt, yl⟩, B3, rfl⟩ := List.exists_cons_of_ne_nil hB2
      clear hA2 hB2
      have HP : Hid (a + k = (X ++ B1).length) := by have h1 := ha.out; have h2 := HK'.out; show _ = _; simp; omega
      have HQ : Hid (b + k = (X ++ (B1 ++ ⟨xt, xl⟩ :: (A3 ++ (M ++ A1)))).length) := by
        have h1 := hb.out; have h2 := HK'.out; have h3 := HA.out; have h4 := HK.out; show _ = _; subst h3; simp at h1 ⊢; omega
      have HQ' : Hid (b + k = (X ++ (B1 ++ ⟨yt, yl⟩ :: (A3 ++ (M ++ A1)))).length) := by have h := HQ.out; show _ = _; simp at h ⊢; omega
      have e1 : X ++ (B1 ++ (⟨xt, xl⟩ :: A3 ++ (M ++ (A1 ++ (⟨yt, yl⟩ :: B3 ++ Y))))) = (X ++ B1) ++ ⟨xt, xl⟩ :: (A3 ++ (M ++ (A1 ++ ⟨yt, yl⟩ :: (B3 ++ Y)))) := by simp
      have e2 : X ++ (B1 ++ (⟨xt, xl⟩ :: A3 ++ (M ++ (A1 ++ (⟨yt, yl⟩ :: B3 ++ Y))))) = (X ++ (B1 ++ ⟨xt, xl⟩ :: (A3 ++ (M ++ A1)))) ++ ⟨yt, yl⟩ :: (B3 ++ Y) := by simp
      have hxd : (X ++ (B1 ++ (⟨xt, xl⟩ :: A3 ++ (M ++ (A1 ++ (⟨yt, yl⟩ :: B3 ++ Y))))))[a + k]? = some ⟨xt, xl⟩ := by rw [e1, HP.out]; exact get_mid _ _ _
      have hyd : (X ++ (B1 ++ (⟨xt, xl⟩ :: A3 ++ (M ++ (A1 ++ (⟨yt, yl⟩ :: B3 ++ Y))))))[b + k]? = some ⟨yt, yl⟩ := by rw [e2, HQ.out]; exact get_mid _ _ _
      obtain ⟨cx0, cx1⟩ := hrr.cells hxd
      obtain ⟨cy0, cy1⟩ := hrr.cells hyd
      have f0 := hrr.free ((a + k) * 2)
      have f1 := hrr.free ((a + k) * 2 + 1)
      have f2 := hrr.free ((b + k) * 2)
      have f3 := hrr.free ((b + k) * 2 + 1)
      have hlx : a + k < (X ++ (B1 ++ (⟨xt, xl⟩ :: A3 ++ (M ++ (A1 ++ (⟨yt, yl⟩ :: B3 ++ Y)))))).length := (List.getElem?_eq_some_iff.1 hxd).1
      have hly : b + k < ((X ++ (B1 ++ (⟨xt, xl⟩ :: A3 ++ (M ++ (A1 ++ (⟨yt, yl⟩ :: B3 ++ Y)))))).set (a + k) ⟨yt, yl⟩).length := by rw [List.length_set]; exact (List.getElem?_eq_some_iff.1 hyd).1
      have hput := RowO.put (RowO.put hrr hlx yt yl) hly xt xl
      have hgrn := grown_drew (grown_set (grown_set (grown_set (grown_set hgr ((a + k) * 2) (.int .i64 yt)) ((a + k) * 2 + 1) (.int .i64 yl)) ((b + k) * 2) (.int .i64 xt)) ((b + k) * 2 + 1) (.int .i64 xl))
      have hsw : ((X ++ (B1 ++ (⟨xt, xl⟩ :: A3 ++ (M ++ (A1 ++ (⟨yt, yl⟩ :: B3 ++ Y)))))).set (a + k) ⟨yt, yl⟩).set (b + k) ⟨xt, xl⟩ = X ++ ((B1 ++ [⟨yt, yl⟩]) ++ (A3 ++ (M ++ ((A1 ++ [⟨xt, xl⟩]) ++ (B3 ++ Y))))) := by
        rw [e1, HP.out, set_mid]
        rw [show (X ++ B1) ++ ⟨yt, yl⟩ :: (A3 ++ (M ++ (A1 ++ ⟨yt, yl⟩ :: (B3 ++ Y)))) = (X ++ (B1 ++ ⟨yt, yl⟩ :: (A3 ++ (M ++ A1)))) ++ ⟨yt, yl⟩ :: (B3 ++ Y) from by simp, HQ'.out, set_mid]
        simp
      rw [hsw] at hput
      have HPUT := hide (RowO.draw hput)
      have HGRN := hide hgrn
      have h1 : a + k < n := by omega
      have h2 : b + k < n := by omega
      have h3 : a + k < b + k := by omega
      clear hxd hyd hlx hly hput hgrn hsw e1 e2 hrr hgr
      go_wp2_with fail
      go_region
      go_wp2_with fail
      go_roundw
      case rel =>
        refine ⟨k + 1, A1 ++ [⟨xt, xl⟩], A3, B1 ++ [⟨yt, yl⟩], B3, by go_num, by omega, ?_, ?_, ?_, ?_, HPUT.out, HGRN.out⟩
        · have h := HA.out; show _ = _; simpa using h
        · have h := HB.out; show _ = _; simpa using h
        · have h := HK.out; show _ = _; simp; omega
        · have h := HK'.out; show _ = _; simp; omega
      case measure => simp [intOf]; omega
    · go_wp2_with fail
      go_end0
      refine ⟨rfl, ?_, hgr⟩
      have hA2 : A2 = [] := by
        have h1 := HA.out; have h2 := hmA.out; have h3 := HK.out
        apply List.eq_nil_of_length_eq_zero; rw [h1] at h2; simp at h2; omega
      have hB2 : B2 = [] := by
        have h1 := HB.out; have h2 := hmB.out; have h3 := HK'.out
        apply List.eq_nil_of_length_eq_zero; rw [h1] at h2; simp at h2; omega
      have h1 := HA.out
      have h2 := HB.out
      subst hA2 hB2
      rw [List.append_nil] at h1 h2
      subst h1 h2
      simpa using hrr

theorem swapRange_int (X A M B Y : List Out) (rest : List Value) (g kb n c : Nat) (P Q N : Int) (w : World) (hr : RowO w g (X ++ (A ++ (M ++ (B ++ Y)))) rest) (hn : Hid (n = (X ++ (A ++ (M ++ (B ++ Y)))).length)) (hP : Hid (P = X.length)) (hQ : Hid (Q = X.length + A.length + M.length)) (hA : Hid (N = A.length)) (hB : Hid (N = B.length)) (hlen : n ≤ 1000000000000000) :
    Calls Try.prog 171 #[.slice (some ⟨g, 0, none⟩) n c, .int .i64 P, .int .i64 Q, .int .i64 N, .func (.func 146) #[] #[.pointer (some ⟨kb, 0, none⟩)]] w fun e w' =>
      e = .returned (.tuple #[]) ∧ RowO w' g (X ++ (B ++ (M ++ (A ++ Y)))) rest ∧ w.grownBy w' (some g) := by
  have h1 := hP.out
  have h2 := hQ.out
  have h3 := hA.out
  have h4 := hB.out
  subst h1 h2 h3
  have := swapRange_any X A M B Y rest g kb n X.length (X.length + A.length + M.length) A.length c w hr hn rfl rfl rfl (by show _ = _; omega) hlen
  simpa using this

set_option maxRecDepth 100000 in
set_option maxHeartbeats 4000000 in
theorem rotate_any (X A B Y : List Out) (rest : List Value) (g kb n c : Nat) (P Q E : Int) (w : World) (hr : RowO w g (X ++ (A ++ (B ++ Y))) rest) (hn : Hid (n = (X ++ (A ++ (B ++ Y))).length)) (hP : Hid (P = X.length)) (hQ : Hid (Q = X.length + A.length)) (hE : Hid (E = X.length + A.length + B.length)) (hA : Hid (A ≠ [])) (hB : Hid (B ≠ [])) (hlen : n ≤ 1000000000000000) :
    Calls Try.prog 170 #[.slice (some ⟨g, 0, none⟩) n c, .int .i64 P, .int .i64 Q, .int .i64 E, .func (.func 146) #[] #[.pointer (some ⟨kb, 0, none⟩)]] w fun e w' =>
      e = .returned (.tuple #[]) ∧ RowO w' g (X ++ (B ++ (A ++ Y))) rest ∧ w.grownBy w' (some g) := by
  have hbd : 0 ≤ P ∧ P < Q ∧ Q < E ∧ E ≤ n := by
    have h1 := hn.out; have h2 := hP.out; have h3 := hQ.out; have h4 := hE.out
    have h5 := List.length_pos_iff.2 hA.out
    have h6 := List.length_pos_iff.2 hB.out
    simp at h1; omega
  have hb0 := hbd.1
  have hb1 := hbd.2.1
  have hb2 := hbd.2.2.1
  have hb3 := hbd.2.2.2
  clear hbd
  go_enter Try.func170, Try.ntmps170
  go_wp2_with fail
  go_loopw [10, 11] (fun iv jv wr => ∃ (i j : Nat) (U A' B' V : List Out), iv = .int .i64 i ∧ jv = .int .i64 j ∧ 0 < i ∧ 0 < j ∧ i ≤ n ∧ j ≤ n ∧ i ≤ Q ∧ Q + j ≤ n ∧ Hid (i = A'.length) ∧ Hid (j = B'.length) ∧ Hid (Q = U.length + A'.length) ∧ Hid (n = (U ++ (A' ++ (B' ++ V))).length) ∧
    Hid (U ++ (B' ++ (A' ++ V)) = X ++ (B ++ (A ++ Y))) ∧ RowO wr g (U ++ (A' ++ (B' ++ V))) rest ∧ w.grownBy wr (some g)) (fun i j _ => (intOf i).toNat + (intOf j).toNat)
  case atStart =>
    have h1 := hn.out; have h2 := hP.out; have h3 := hQ.out; have h4 := hE.out
    have h5 := List.length_pos_iff.2 hA.out
    have h6 := List.length_pos_iff.2 hB.out
    simp at h1
    refine ⟨A.length, B.length, X, A, B, Y, ?_, ?_, h5, h6, by omega, by omega, by omega, by omega, rfl, rfl, hQ, hn, rfl, hr, grown_refl _ _⟩
    · congr 1; omega
    · congr 1; omega
  case round =>
    obtain ⟨i, j, U, A', B', V, rfl, rfl, hi0, hj0, hin, hjn, hiQ, hjQ, HI, HJ, HQ, HN, HT, hrr, hgr⟩ := hrel
    by_cases hij : i = j
    · have hq : ((i : Int) != (j : Int)) = false := by simp [hij]
      have HIJ := hide hij
      clear hij
      go_wp2_with fail
      refine (swapRange_int U A' [] B' V rest g kb n c _ _ _ wr (by simpa using hrr) (by show _ = _; have := HN.out; simpa using this) (by show _ = _; have := HQ.out; have := HI.out; omega) (by show _ = _; have := HQ.out; simp; omega) (by show _ = _; have := HI.out; omega) (by show _ = _; have := HI.out; have := HJ.out; have := HIJ.out; omega) hlen).mono ?_
      rintro e w2 ⟨rfl, hr2, hg2⟩
      go_wp2_with fail
      go_end0
      refine ⟨rfl, ?_, grown_trans hgr hg2⟩
      rw [← HT.out]
      simpa using hr2
    · have hq : ((i : Int) != (j : Int)) = true := by simp; omega
      by_cases hlt : j < i
      · obtain ⟨A1, A2, hA12, hA1⟩ : ∃ A1 A2, A' = A1 ++ A2 ∧ A1.length = j := ⟨A'.take j, A'.drop j, (List.take_append_drop _ _).symm, by have := HI.out; simp; omega⟩
        subst hA12
        have HA1 := hide hA1
        clear hA1 hij
        go_wp2_with fail
        refine (swapRange_int U A1 A2 B' V rest g kb n c _ _ _ wr (by simpa using hrr) (by show _ = _; have := HN.out; simpa using this) (by show _ = _; have := HQ.out; have := HI.out; omega) (by show _ = _; have := HQ.out; simp at this; omega) (by show _ = _; have := HA1.out; omega) (by show _ = _; have := HJ.out; omega) hlen).mono ?_
        rintro e w2 ⟨rfl, hr2, hg2⟩
        go_wp2_with fail
        go_roundw
        case rel =>
          refine ⟨i - j, j, U ++ B', A2, A1, V, ?_, rfl, by omega, hj0, by omega, hjn, by omega, hjQ, ?_, ?_, ?_, ?_, ?_, by simpa using hr2, grown_trans hgr hg2⟩
          · congr 1; omega
          · have h1 := HI.out; have h2 := HA1.out; show _ = _; simp at h1; omega
          · have h2 := HA1.out; show _ = _; omega
          · have h1 := HI.out; have h2 := HA1.out; have h3 := HQ.out; have h4 := HJ.out; show _ = _; simp at h1 h3 ⊢; omega
          · have h1 := HN.out; show _ = _; simp at h1 ⊢; omega
          · have h1 := HT.out; show _ = _; simpa using h1
        case measure => simp [intOf]; omega
      · have hlt2 : i < j := by omega
        obtain ⟨B1, B2, hB12, hB2⟩ : ∃ B1 B2, B' = B1 ++ B2 ∧ B2.length = i := ⟨B'.take (j - i), B'.drop (j - i), (List.take_append_drop _ _).symm, by have := HJ.out; simp; omega⟩
        subst hB12
        have HB2 := hide hB2
        clear hB2 hij
        go_wp2_with fail
        refine (swapRange_int U A' B1 B2 V rest g kb n c _ _ _ wr (by simpa using hrr) (by show _ = _; have := HN.out; simpa using this) (by show _ = _; have := HQ.out; have := HI.out; omega) (by show _ = _; have h1 := HQ.out; have h2 := HJ.out; have h3 := HB2.out; simp at h2; omega) (by show _ = _; have := HI.out; omega) (by show _ = _; have := HB2.out; omega) hlen).mono ?_
        rintro e w2 ⟨rfl, hr2, hg2⟩
        go_wp2_with fail
        go_roundw
        case rel =>
          refine ⟨i, j - i, U, B2, B1, A' ++ V, rfl, ?_, hi0, by omega, hin, by omega, hiQ, by omega, ?_, ?_, ?_, ?_, ?_, by simpa using hr2, grown_trans hgr hg2⟩
          · congr 1; omega
          · have h2 := HB2.out; show _ = _; omega
          · have h1 := HJ.out; have h2 := HB2.out; show _ = _; simp at h1; omega
          · have h1 := HI.out; have h2 := HB2.out; have h3 := HQ.out; show _ = _; omega
          · have h1 := HN.out; show _ = _; simp at h1 ⊢; omega
          · have h1 := HT.out; show _ = _; simpa using h1
        case measure => simp [intOf]; omega

end Go.Proofs.Ytmjcjmljnliaoaa

/-
  The merge of two sorted parts of a row: the second part has one element.
-/
import Derived.Test.YtmjcjmljnliaoaaJoin
set_option linter.unusedVariables false
namespace Go.Proofs.Ytmjcjmljnliaoaa
open Go.RowKit

set_option maxRecDepth 100000 in
set_option maxHeartbeats 4000000 in
theorem sym_right (X A Y : List Out) (xt xl : Int) (rest : List Value) (g kb ka n a m b c : Nat) (w : World) (hr : RowO w g (X ++ (A ++ ([⟨xt, xl⟩] ++ Y))) rest) (hk : Keys w kb ka) (hn : Hid (n = (X ++ (A ++ ([(⟨xt, xl⟩ : Out)] ++ Y))).length)) (ha : Hid (a = X.length)) (hm : Hid (m = a + A.length)) (hb : Hid (b = m + 1)) (hA : Hid (Srt A)) (hA1 : Hid (A.length ≠ 1)) (hlen : n ≤ 1000000000000000) :
    Calls Try.prog 168 #[.slice (some ⟨g, 0, none⟩) n c, .int .i64 a, .int .i64 m, .int .i64 b, .func (.func 146) #[] #[.pointer (some ⟨kb, 0, none⟩)]] w fun e w' =>
      e = .returned (.tuple #[]) ∧ RowO w' g (X ++ (isort (A ++ [⟨xt, xl⟩]) ++ Y)) rest ∧ w.grownBy w' (some g) := by
  have hne := hk.ne hr
  have hbn : a ≤ m ∧ m < b ∧ b ≤ n := by have h1 := hn.out; have h2 := ha.out; have h3 := hb.out; have h4 := hm.out; simp at h1; omega
  have hbn1 := hbn.1
  have hbn2 := hbn.2.1
  have hbn3 := hbn.2.2
  clear hbn
  have hone0 : ((m : Int) - a == 1) = false := by have := hm.out; have := hA1.out; simp; omega
  have hone : ((b : Int) - m == 1) = true := by have := hb.out; simp; omega
  go_enter Try.func168, Try.ntmps168
  go_wp2_with fail
  go_loopw [14, 15] (fun iv jv wr => ∃ (i j : Nat), iv = .int .i64 i ∧ jv = .int .i64 j ∧ a ≤ i ∧ i ≤ j ∧ j ≤ m ∧ 
    Hid (i = a ∨ ∀ y, A[i - a - 1]? = some y → leO y ⟨xt, xl⟩) ∧ Hid (j = m ∨ ∀ y, A[j - a]? = some y → leO ⟨xt, xl⟩ y) ∧ RowO wr g (X ++ (A ++ ([⟨xt, xl⟩] ++ Y))) rest ∧ w.grownBy wr (some g)) (fun i j _ => (intOf j).toNat - (intOf i).toNat)
  case atStart => exact ⟨a, m, rfl, rfl, by omega, by omega, by omega, .inl rfl, .inl rfl, hr, grown_refl _ _⟩
  case round =>
    obtain ⟨i, j, rfl, rfl, hai, hij, hjm, HI, HJ, hrr, hgr⟩ := hrel
    by_cases hlt : i < j
    · obtain ⟨h, hh⟩ : ∃ h, h = (i + j) / 2 := ⟨_, rfl⟩
      have hhi : i ≤ h := by omega
      have hhj : h < j := by omega
      have hmid : ((i : Int) + j) / 2 = (h : Int) := by omega
      clear hh
      obtain ⟨e, rfl⟩ : ∃ e, h = a + e := ⟨h - a, by omega⟩
      have HM : Hid (m = X.length + A.length) := by have h1 := ha.out; have h2 := hm.out; show _ = _; omega
      obtain ⟨⟨yt, yl⟩, hy⟩ : ∃ y, A[e]? = some y := ⟨A[e]'(by have := hm.out; omega), List.getElem?_eq_getElem _⟩
      have hyd : (X ++ (A ++ ([⟨xt, xl⟩] ++ Y)))[a + e]? = some ⟨yt, yl⟩ := by
        rw [ha.out]
        exact get_in _ _ _ hy
      have hxd : (X ++ (A ++ ([⟨xt, xl⟩] ++ Y)))[m]? = some ⟨xt, xl⟩ := by
        rw [HM.out, ← List.append_assoc, ← List.length_append]
        exact get_in (X ++ A) [⟨xt, xl⟩] Y (k := 0) rfl
      obtain ⟨cy0, cy1⟩ := hrr.cells hyd
      obtain ⟨cx0, cx1⟩ := hrr.cells hxd
      have hkw := hide ((hk.grown hne hgr).grown hne (grown_drew (grown_refl wr (some g))))
      have HY := hide hy
      clear hyd hxd hy
      have b1 : 0 ≤ (a : Int) + e := by omega
      have b2 : (a : Int) + e < (n : Int) := by omega
      have b3 : 0 ≤ (m : Int) := by omega
      have b4 : (m : Int) < (n : Int) := by omega
      have b5 : ((a : Int) + e).toNat = a + e := by omega
      by_cases hle : leO ⟨yt, yl⟩ ⟨xt, xl⟩
      · have hcm : 0 ≤ cmpO ⟨xt, xl⟩ ⟨yt, yl⟩ := by have := (cmpO_neg (a := ⟨xt, xl⟩) (b := ⟨yt, yl⟩)); simp only [hle, not_true, iff_false] at this; omega
        have hcd : decide (cmpO ⟨xt, xl⟩ ⟨yt, yl⟩ < 0) = false := by simp; omega
        have HLE := hide hle
        clear hle
        go_wp2_with fail
        go_still_tail 9, (by kernel_rfl)
        change wpList _ _ _ _ _ wr.drew
        clear b1 b2 b3 b4 b5
        go_wp2_with fail
        refine (cmpO_any xt xl yt yl kb ka wr.drew hkw).mono ?_
        rintro e2 w2 ⟨rfl, hb2⟩
        go_wp2_with fail
        go_roundw
        case rel =>
          refine ⟨a + e + 1, j, by go_num, rfl, by omega, by omega, by omega, .inr fun y hy => ?_, HJ, RowO.below (w := wr.drew) hrr hb2, grown_below (grown_drew hgr) hb2⟩
          rw [show a + e + 1 - a - 1 = e from by omega, HY.out] at hy
          injection hy with hy
          subst hy
          exact HLE.out
        case measure => simp [intOf]; omega
      · have hcm : cmpO ⟨xt, xl⟩ ⟨yt, yl⟩ < 0 := cmpO_neg.2 hle
        have HLE := hide hle
        clear hle
        go_wp2_with fail
        go_still_tail 9, (by kernel_rfl)
        change wpList _ _ _ _ _ wr.drew
        clear b1 b2 b3 b4 b5
        go_wp2_with fail
        refine (cmpO_any xt xl yt yl kb ka wr.drew hkw).mono ?_
        rintro e2 w2 ⟨rfl, hb2⟩
        go_wp2_with fail
        go_roundw
        case rel =>
          refine ⟨i, a + e, by go_num, by go_num, by omega, by omega, by omega, HI, .inr fun y hy => ?_, RowO.below (w := wr.drew) hrr hb2, grown_below (grown_drew hgr) hb2⟩
          rw [show a + e - a = e from by omega, HY.out] at hy
          injection hy with hy
          subst hy
          exact (leO_total _ _).resolve_right HLE.out
        case measure => simp [intOf]; omega
    · have hij2 : j = i := by omega
      subst hij2
      obtain ⟨A1, A2, rfl, HA1⟩ : ∃ A1 A2, A = A1 ++ A2 ∧ Hid (j = a + A1.length) := ⟨A.take (j - a), A.drop (j - a), (List.take_append_drop _ _).symm, by have := hm.out; show _ = _; simp; omega⟩
      have HS : Hid (A1 ++ ⟨xt, xl⟩ :: A2 = isort ((A1 ++ A2) ++ [⟨xt, xl⟩])) := by
        show _ = _
        rw [isort_perm_eq (l := (A1 ++ A2) ++ [(⟨xt, xl⟩ : Out)]) (l' := (⟨xt, xl⟩ : Out) :: (A1 ++ A2)) List.perm_append_comm]
        refine one_left hA.out ?_ ?_
        · intro y hy
          rcases HI.out with h | h
          · have := HA1.out
            have h0 : A1 = [] := List.eq_nil_of_length_eq_zero (by omega)
            subst h0
            simp at hy
          · refine h y ?_
            have h1 := HA1.out
            have h0 : A1 ≠ [] := by rintro rfl; simp at hy
            have h2 := List.length_pos_iff.2 h0
            rw [List.getElem?_append_left (by omega), show j - a - 1 = A1.length - 1 from by omega, ← List.getLast?_eq_getElem?]
            exact hy
        · intro y hy
          rcases HJ.out with h | h
          · have h1 := HA1.out
            have h2 := hm.out
            have h0 : A2 = [] := List.eq_nil_of_length_eq_zero (by simp at h2; omega)
            subst h0
            simp at hy
          · refine h y ?_
            have h1 := HA1.out
            rw [List.getElem?_append_right (by omega), show j - a - A1.length = 0 from by omega, ← List.head?_eq_getElem?]
            exact hy
      clear HI HJ
      go_wp2_with fail
      obtain ⟨wo, rfl⟩ : ∃ wo : World, wo = wr := ⟨_, rfl⟩
      go_loopw [17] (fun iv wr => ∃ (k : Nat) (C D : List Out), iv = .int .i64 k ∧ j ≤ k ∧ k ≤ m ∧ Hid (k = j + C.length) ∧ Hid (A2 = C ++ D) ∧ RowO wr g (X ++ (A1 ++ (C ++ ⟨xt, xl⟩ :: (D ++ Y)))) rest ∧ w.grownBy wr (some g)) (fun i _ => (intOf i).toNat)
      case atStart =>
        refine ⟨m, A2, [], rfl, by omega, by omega, ?_, ?_, by simpa using hrr, hgr⟩
        · have h1 := HA1.out; have h2 := hm.out; show _ = _; simp at h2; omega
        · show _ = _; simp
      case round =>
        obtain ⟨k, C, D, rfl, hjk, hkm, HK, HCD, hrj, hgj⟩ := hrel
        by_cases hd : j < k
        · have hC : C ≠ [] := by rintro rfl; have h := HK.out; simp at h; omega
          obtain ⟨C', y, rfl⟩ : ∃ C' y, C = C' ++ [y] := ⟨C.dropLast, C.getLast hC, (List.dropLast_concat_getLast hC).symm⟩
          clear hC
          obtain ⟨yt, yl⟩ := y
          obtain ⟨k, rfl⟩ : ∃ k', k = k' + 1 := ⟨k - 1, by omega⟩
          have hi : Hid (k = (X ++ (A1 ++ C')).length) := by have h1 := HK.out; have h2 := ha.out; have h3 := HA1.out; show _ = _; simp at h1 ⊢; omega
          have hrA : RowO wr g ((X ++ (A1 ++ C')) ++ ⟨yt, yl⟩ :: ⟨xt, xl⟩ :: (D ++ Y)) rest := by simpa using hrj
          have hyd : ((X ++ (A1 ++ C')) ++ ⟨yt, yl⟩ :: ⟨xt, xl⟩ :: (D ++ Y))[k]? = some ⟨yt, yl⟩ := by rw [hi.out]; exact get_mid _ _ _
          have hxd : ((X ++ (A1 ++ C')) ++ ⟨yt, yl⟩ :: ⟨xt, xl⟩ :: (D ++ Y))[k + 1]? = some ⟨xt, xl⟩ := by rw [hi.out, List.getElem?_append_right (by omega)]; simp
          obtain ⟨cx0, cx1⟩ := hrA.cells hxd
          obtain ⟨cy0, cy1⟩ := hrA.cells hyd
          have f0 := hrA.free (k * 2)
          have f1 := hrA.free (k * 2 + 1)
          have f2 := hrA.free ((k + 1) * 2)
          have f3 := hrA.free ((k + 1) * 2 + 1)
          have hkn : k + 1 < n := by omega
          have hr3 := RowO.put (RowO.put hrA (i := k + 1) (by rw [hi.out]; simp <;> omega) yt yl) (i := k) (by rw [hi.out]; simp <;> omega) xt xl
          have hg3 := grown_drew (grown_set (grown_set (grown_set (grown_set hgj ((k + 1) * 2) (.int .i64 yt)) ((k + 1) * 2 + 1) (.int .i64 yl)) (k * 2) (.int .i64 xt)) (k * 2 + 1) (.int .i64 xl))
          have hsw : (((X ++ (A1 ++ C')) ++ ⟨yt, yl⟩ :: ⟨xt, xl⟩ :: (D ++ Y)).set (k + 1) ⟨yt, yl⟩).set k ⟨xt, xl⟩ = X ++ (A1 ++ (C' ++ ⟨xt, xl⟩ :: ((⟨yt, yl⟩ :: D) ++ Y))) := by
            rw [hi.out, swap_adj]
            simp
          rw [hsw] at hr3
          have HR3 := hide (RowO.draw hr3)
          have HG3 := hide hg3
          clear hxd hyd hrj hrr hsw hr3 hg3 hrA hgj
          go_wp2_with fail
          go_region
          go_wp2_with fail
          go_roundw
          case rel =>
            refine ⟨k, C', ⟨yt, yl⟩ :: D, by go_num, by omega, by omega, ?_, ?_, HR3.out, HG3.out⟩
            · have h1 := HK.out; show _ = _; simp at h1; omega
            · have h1 := HCD.out; show _ = _; simpa using h1
          case measure => simp [intOf]
        · have hC : C = [] := List.eq_nil_of_length_eq_zero (by have h := HK.out; omega)
          subst hC
          go_wp2_with fail
          refine bodyPost_ret (results_none rfl _ _ _) rfl ?_
          refine ⟨rfl, ?_, hgj⟩
          have h1 := HCD.out
          rw [List.nil_append] at h1
          subst h1
          rw [← HS.out]
          simpa using hrj

end Go.Proofs.Ytmjcjmljnliaoaa

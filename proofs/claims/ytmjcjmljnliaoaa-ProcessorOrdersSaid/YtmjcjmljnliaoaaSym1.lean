/-
  The merge of two sorted parts of a row: one part has one element.
-/
import Derived.Test.YtmjcjmljnliaoaaJoin
set_option linter.unusedVariables false
namespace Go.Proofs.Ytmjcjmljnliaoaa
open Go.RowKit

set_option maxRecDepth 100000 in
set_option maxHeartbeats 4000000 in
theorem sym_left (X B Y : List Out) (xt xl : Int) (rest : List Value) (g kb ka n a m b c : Nat) (w : World) (hr : RowO w g (X ++ ([⟨xt, xl⟩] ++ (B ++ Y))) rest) (hk : Keys w kb ka) (hn : Hid (n = (X ++ ([(⟨xt, xl⟩ : Out)] ++ (B ++ Y))).length)) (ha : Hid (a = X.length)) (hm : Hid (m = a + 1)) (hb : Hid (b = m + B.length)) (hB : Hid (Srt B)) (hlen : n ≤ 1000000000000000) :
    Calls Try.prog 168 #[.slice (some ⟨g, 0, none⟩) n c, .int .i64 a, .int .i64 m, .int .i64 b, .func (.func 146) #[] #[.pointer (some ⟨kb, 0, none⟩)]] w fun e w' =>
      e = .returned (.tuple #[]) ∧ RowO w' g (X ++ (isort ([⟨xt, xl⟩] ++ B) ++ Y)) rest ∧ w.grownBy w' (some g) := by
  have hne := hk.ne hr
  have hbn : a < m ∧ m ≤ b ∧ b ≤ n := by have h1 := hn.out; have h2 := ha.out; have h3 := hb.out; have h4 := hm.out; simp at h1; omega
  have hbn1 := hbn.1
  have hbn2 := hbn.2.1
  have hbn3 := hbn.2.2
  clear hbn
  have hone : ((m : Int) - a == 1) = true := by have := hm.out; simp; omega
  go_enter Try.func168, Try.ntmps168
  go_wp2_with fail
  go_loopw [10, 11] (fun iv jv wr => ∃ (i j : Nat), iv = .int .i64 i ∧ jv = .int .i64 j ∧ m ≤ i ∧ i ≤ j ∧ j ≤ b ∧ 
    Hid (i = m ∨ ∀ y, B[i - m - 1]? = some y → leO y ⟨xt, xl⟩) ∧ Hid (j = b ∨ ∀ y, B[j - m]? = some y → leO ⟨xt, xl⟩ y) ∧ RowO wr g (X ++ ([⟨xt, xl⟩] ++ (B ++ Y))) rest ∧ w.grownBy wr (some g)) (fun i j _ => (intOf j).toNat - (intOf i).toNat)
  case atStart => exact ⟨m, b, rfl, rfl, by omega, by omega, by omega, .inl rfl, .inl rfl, hr, grown_refl _ _⟩
  case round =>
    obtain ⟨i, j, rfl, rfl, hmi, hij, hjb, HI, HJ, hrr, hgr⟩ := hrel
    by_cases hlt : i < j
    · obtain ⟨h, hh⟩ : ∃ h, h = (i + j) / 2 := ⟨_, rfl⟩
      have hhi : i ≤ h := by omega
      have hhj : h < j := by omega
      have hmid : ((i : Int) + j) / 2 = (h : Int) := by omega
      clear hh
      obtain ⟨e, rfl⟩ : ∃ e, h = m + e := ⟨h - m, by omega⟩
      have HE : Hid (m + e = X.length + 1 + e) := by have h1 := ha.out; have h2 := hm.out; show _ = _; omega
      obtain ⟨⟨yt, yl⟩, hy⟩ : ∃ y, B[e]? = some y := ⟨B[e]'(by have := hb.out; omega), List.getElem?_eq_getElem _⟩
      have hyd : (X ++ ([⟨xt, xl⟩] ++ (B ++ Y)))[m + e]? = some ⟨yt, yl⟩ := by
        rw [HE.out, ← List.append_assoc, show X.length + 1 + e = (X ++ [(⟨xt, xl⟩ : Out)]).length + e from by simp]
        exact get_in _ _ _ hy
      have hxd : (X ++ ([⟨xt, xl⟩] ++ (B ++ Y)))[a]? = some ⟨xt, xl⟩ := by
        rw [ha.out]
        exact get_in X [⟨xt, xl⟩] (B ++ Y) (k := 0) rfl
      obtain ⟨cy0, cy1⟩ := hrr.cells hyd
      obtain ⟨cx0, cx1⟩ := hrr.cells hxd
      have hkw := hide ((hk.grown hne hgr).grown hne (grown_drew (grown_refl wr (some g))))
      have HY := hide hy
      clear hyd hxd hy
      have b1 : 0 ≤ (m : Int) + e := by omega
      have b2 : (m : Int) + e < (n : Int) := by omega
      have b3 : 0 ≤ (a : Int) := by omega
      have b4 : (a : Int) < (n : Int) := by omega
      have b5 : ((m : Int) + e).toNat = m + e := by omega
      by_cases hle : leO ⟨xt, xl⟩ ⟨yt, yl⟩
      · have hcm : 0 ≤ cmpO ⟨yt, yl⟩ ⟨xt, xl⟩ := by have := (cmpO_neg (a := ⟨yt, yl⟩) (b := ⟨xt, xl⟩)); simp only [hle, not_true, iff_false] at this; omega
        have HLE := hide hle
        clear hle
        go_wp2_with fail
        go_still_tail 9, (by kernel_rfl)
        change wpList _ _ _ _ _ wr.drew
        clear b1 b2 b3 b4 b5
        go_wp2_with fail
        refine (cmpO_any yt yl xt xl kb ka wr.drew hkw).mono ?_
        rintro e2 w2 ⟨rfl, hb2⟩
        go_wp2_with fail
        go_roundw
        case rel =>
          refine ⟨i, m + e, by go_num, by go_num, by omega, by omega, by omega, HI, .inr fun y hy => ?_, RowO.below (w := wr.drew) hrr hb2, grown_below (grown_drew hgr) hb2⟩
          rw [show m + e - m = e from by omega, HY.out] at hy
          injection hy with hy
          subst hy
          exact HLE.out
        case measure => simp [intOf]; omega
      · have hcm : cmpO ⟨yt, yl⟩ ⟨xt, xl⟩ < 0 := cmpO_neg.2 hle
        have HLE := hide hle
        clear hle
        go_wp2_with fail
        go_still_tail 9, (by kernel_rfl)
        change wpList _ _ _ _ _ wr.drew
        clear b1 b2 b3 b4 b5
        go_wp2_with fail
        refine (cmpO_any yt yl xt xl kb ka wr.drew hkw).mono ?_
        rintro e2 w2 ⟨rfl, hb2⟩
        go_wp2_with fail
        go_roundw
        case rel =>
          refine ⟨m + e + 1, j, by go_num, rfl, by omega, by omega, by omega, .inr fun y hy => ?_, HJ, RowO.below (w := wr.drew) hrr hb2, grown_below (grown_drew hgr) hb2⟩
          rw [show m + e + 1 - m - 1 = e from by omega, HY.out] at hy
          injection hy with hy
          subst hy
          exact (leO_total _ _).resolve_left HLE.out
        case measure => simp [intOf]; omega
    · have hij2 : j = i := by omega
      subst hij2
      obtain ⟨B1, B2, rfl, HB1⟩ : ∃ B1 B2, B = B1 ++ B2 ∧ Hid (j = m + B1.length) := ⟨B.take (j - m), B.drop (j - m), (List.take_append_drop _ _).symm, by have := hb.out; show _ = _; simp; omega⟩
      have HS : Hid (B1 ++ ⟨xt, xl⟩ :: B2 = isort (⟨xt, xl⟩ :: (B1 ++ B2))) := by
        refine one_left hB.out ?_ ?_
        · intro y hy
          rcases HI.out with h | h
          · have := HB1.out
            have h0 : B1 = [] := List.eq_nil_of_length_eq_zero (by omega)
            subst h0
            simp at hy
          · refine h y ?_
            have h1 := HB1.out
            have h0 : B1 ≠ [] := by rintro rfl; simp at hy
            have h2 := List.length_pos_iff.2 h0
            rw [List.getElem?_append_left (by omega), show j - m - 1 = B1.length - 1 from by omega, ← List.getLast?_eq_getElem?]
            exact hy
        · intro y hy
          rcases HJ.out with h | h
          · have h1 := HB1.out
            have h2 := hb.out
            have h0 : B2 = [] := List.eq_nil_of_length_eq_zero (by simp at h2; omega)
            subst h0
            simp at hy
          · refine h y ?_
            have h1 := HB1.out
            rw [List.getElem?_append_right (by omega), show j - m - B1.length = 0 from by omega, ← List.head?_eq_getElem?]
            exact hy
      clear HI HJ
      go_wp2_with fail
      obtain ⟨wo, rfl⟩ : ∃ wo : World, wo = wr := ⟨_, rfl⟩
      go_loopw [13] (fun iv wr => ∃ (k : Nat) (C D : List Out), iv = .int .i64 k ∧ k < j ∧ Hid (k = a + C.length) ∧ Hid (B1 = C ++ D) ∧ RowO wr g (X ++ (C ++ ⟨xt, xl⟩ :: (D ++ (B2 ++ Y)))) rest ∧ w.grownBy wr (some g)) (fun i _ => j - (intOf i).toNat)
      case atStart => exact ⟨a, [], B1, rfl, by omega, rfl, rfl, by simpa using hrr, hgr⟩
      case round =>
        obtain ⟨k, C, D, rfl, hkj, HK, HCD, hrj, hgj⟩ := hrel
        have HL : Hid (j = k + 1 + D.length) := by
          have h1 := HB1.out; have h2 := HCD.out; have h3 := HK.out; have h4 := hm.out
          rw [h2] at h1
          show _ = _; simp at h1; omega
        by_cases hd : k + 1 < j
        · have hD : D ≠ [] := by rintro rfl; have h := HL.out; simp at h; omega
          obtain ⟨⟨yt, yl⟩, D', rfl⟩ := List.exists_cons_of_ne_nil hD
          clear hD
          have hi : Hid (k = (X ++ C).length) := by have h1 := HK.out; have h2 := ha.out; show _ = _; simp; omega
          have hrA : RowO wr g ((X ++ C) ++ ⟨xt, xl⟩ :: ⟨yt, yl⟩ :: (D' ++ (B2 ++ Y))) rest := by simpa using hrj
          have hxd : ((X ++ C) ++ ⟨xt, xl⟩ :: ⟨yt, yl⟩ :: (D' ++ (B2 ++ Y)))[k]? = some ⟨xt, xl⟩ := by rw [hi.out, List.getElem?_append_right (Nat.le_refl _)]; simp
          have hyd : ((X ++ C) ++ ⟨xt, xl⟩ :: ⟨yt, yl⟩ :: (D' ++ (B2 ++ Y)))[k + 1]? = some ⟨yt, yl⟩ := by rw [hi.out, List.getElem?_append_right (by omega)]; simp
          obtain ⟨cx0, cx1⟩ := hrA.cells hxd
          obtain ⟨cy0, cy1⟩ := hrA.cells hyd
          have f0 := hrA.free (k * 2)
          have f1 := hrA.free (k * 2 + 1)
          have f2 := hrA.free ((k + 1) * 2)
          have f3 := hrA.free ((k + 1) * 2 + 1)
          have hkn : k + 1 < n := by omega
          have hr3 := RowO.put (RowO.put hrA (i := k) (by rw [hi.out]; simp <;> omega) yt yl) (i := k + 1) (by rw [hi.out]; simp <;> omega) xt xl
          have hg3 := grown_drew (grown_set (grown_set (grown_set (grown_set hgj (k * 2) (.int .i64 yt)) (k * 2 + 1) (.int .i64 yl)) ((k + 1) * 2) (.int .i64 xt)) ((k + 1) * 2 + 1) (.int .i64 xl))
          have hsw : (((X ++ C) ++ ⟨xt, xl⟩ :: ⟨yt, yl⟩ :: (D' ++ (B2 ++ Y))).set k ⟨yt, yl⟩).set (k + 1) ⟨xt, xl⟩ = X ++ ((C ++ [⟨yt, yl⟩]) ++ ⟨xt, xl⟩ :: (D' ++ (B2 ++ Y))) := by
            rw [hi.out, swap_adj2]
            simp
          rw [hsw] at hr3
          have HR3 := hide (RowO.draw hr3)
          have HG3 := hide hg3
          clear hxd hyd hrj hrr hsw hr3 hg3 hrA hgj
          go_wp2_with fail
          go_region
          go_wp2_with fail
          go_roundw
          case rel =>
            refine ⟨k + 1, C ++ [⟨yt, yl⟩], D', by go_num, by omega, ?_, ?_, HR3.out, HG3.out⟩
            · have h1 := HK.out; show _ = _; simp; omega
            · have h1 := HCD.out; show _ = _; simpa using h1
          case measure => simp [intOf]; omega
        · have hD : D = [] := List.eq_nil_of_length_eq_zero (by have h := HL.out; omega)
          subst hD
          have hdd : decide ((k : Int) < (j : Int) - 1) = false := by simp; omega
          go_wp2_with fail
          refine bodyPost_ret (results_none rfl _ _ _) rfl ?_
          refine ⟨rfl, ?_, hgj⟩
          have h1 := HCD.out
          rw [List.append_nil] at h1
          subst h1
          have h2 := HS.out
          show RowO _ _ (X ++ (isort (⟨xt, xl⟩ :: (B1 ++ B2)) ++ Y)) _
          rw [← h2]
          simpa using hrj

end Go.Proofs.Ytmjcjmljnliaoaa

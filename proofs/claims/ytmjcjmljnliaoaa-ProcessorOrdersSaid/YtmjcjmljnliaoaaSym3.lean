/-
  The merge of two sorted parts of a row: both parts have at least two elements.
-/
import Derived.Test.YtmjcjmljnliaoaaSym1
import Derived.Test.YtmjcjmljnliaoaaSym2
import Derived.Deep.DeepCutAuto
set_option linter.unusedVariables false
namespace Go.Proofs.Ytmjcjmljnliaoaa
open Go.RowKit

def SymUpto (L : Nat) : Prop := ∀ (X A B Y : List Out) (rest : List Value) (g kb ka n c : Nat) (P Q E : Int) (w : World), RowO w g (X ++ (A ++ (B ++ Y))) rest → Keys w kb ka → Hid (n = (X ++ (A ++ (B ++ Y))).length) → Hid (P = X.length) → Hid (Q = X.length + A.length) → Hid (E = X.length + A.length + B.length) → Hid (A ≠ []) → Hid (B ≠ []) → Hid (Srt A) → Hid (Srt B) → Hid (A.length + B.length ≤ L) → n ≤ 1000000000000000 →
    Calls Try.prog 168 #[.slice (some ⟨g, 0, none⟩) n c, .int .i64 P, .int .i64 Q, .int .i64 E, .func (.func 146) #[] #[.pointer (some ⟨kb, 0, none⟩)]] w fun e w' =>
      e = .returned (.tuple #[]) ∧ RowO w' g (X ++ (isort (A ++ B) ++ Y)) rest ∧ w.grownBy w' (some g)

def R1 (w : World) (g : Nat) (X A1 A2 B1 B2 Y : List Out) (rest : List Value) (wx : World) : Prop := RowO wx g (X ++ (A1 ++ (B1 ++ (A2 ++ (B2 ++ Y))))) rest ∧ w.grownBy wx (some g)
def R2 (w : World) (g : Nat) (X A1 A2 B1 B2 Y : List Out) (rest : List Value) (wx : World) : Prop := RowO wx g (X ++ (isort (A1 ++ B1) ++ (A2 ++ (B2 ++ Y)))) rest ∧ w.grownBy wx (some g)
def R3 (w : World) (g : Nat) (X A1 A2 B1 B2 Y : List Out) (rest : List Value) (wx : World) : Prop := RowO wx g (X ++ (isort (A1 ++ B1) ++ (isort (A2 ++ B2) ++ Y))) rest ∧ w.grownBy wx (some g)

set_option maxRecDepth 100000 in
set_option maxHeartbeats 8000000 in
theorem sym_gen {L : Nat} (IH : Hid (SymUpto L)) (X A B Y : List Out) (rest : List Value) (g kb ka n a m b c : Nat) (w : World) (hr : RowO w g (X ++ (A ++ (B ++ Y))) rest) (hk : Keys w kb ka) (hn : Hid (n = (X ++ (A ++ (B ++ Y))).length)) (ha : Hid (a = X.length)) (hm : Hid (m = a + A.length)) (hb : Hid (b = m + B.length)) (hA : Hid (Srt A)) (hB : Hid (Srt B)) (hA1 : Hid (2 ≤ A.length)) (hB1 : Hid (2 ≤ B.length)) (hL : Hid (A.length + B.length ≤ L + 1)) (hlen : n ≤ 1000000000000000) :
    Calls Try.prog 168 #[.slice (some ⟨g, 0, none⟩) n c, .int .i64 a, .int .i64 m, .int .i64 b, .func (.func 146) #[] #[.pointer (some ⟨kb, 0, none⟩)]] w fun e w' =>
      e = .returned (.tuple #[]) ∧ RowO w' g (X ++ (isort (A ++ B) ++ Y)) rest ∧ w.grownBy w' (some g) := by
  have hne := hk.ne hr
  have hbn : a < m ∧ m < b ∧ b ≤ n := by have h1 := hn.out; have h2 := ha.out; have h3 := hb.out; have h4 := hm.out; have h5 := hA1.out; have h6 := hB1.out; simp at h1; omega
  have hbn1 := hbn.1
  have hbn2 := hbn.2.1
  have hbn3 := hbn.2.2
  clear hbn
  have hone0 : ((m : Int) - a == 1) = false := by have := hm.out; have := hA1.out; simp; omega
  have hone : ((b : Int) - m == 1) = false := by have := hb.out; have := hB1.out; simp; omega
  obtain ⟨mid, hmd⟩ : ∃ mid, mid = (a + b) / 2 := ⟨_, rfl⟩
  have hmid : ((a : Int) + b) / 2 = (mid : Int) := by omega
  have hm1 : a < mid := by have := hm.out; have := hA1.out; omega
  have hm2 : mid < b := by omega
  have HMID := hide hmd
  clear hmd
  obtain ⟨s0, r0, hcase⟩ : ∃ s0 r0 : Nat, (mid < m ∧ decide ((mid : Int) < (m : Int)) = true ∧ Hid (s0 = mid + m - b) ∧ Hid (r0 = mid)) ∨ (m ≤ mid ∧ decide ((mid : Int) < (m : Int)) = false ∧ Hid (s0 = a) ∧ Hid (r0 = m)) := by
    by_cases h : mid < m
    · exact ⟨_, _, .inl ⟨h, by simp; omega, rfl, rfl⟩⟩
    · exact ⟨_, _, .inr ⟨by omega, by simp; omega, rfl, rfl⟩⟩
  have hs0 : a ≤ s0 ∧ mid + m - b ≤ s0 ∧ s0 ≤ r0 ∧ r0 ≤ m ∧ r0 ≤ mid ∧ mid - a ≤ m - a + (b - m) := by
    have h3 := HMID.out
    rcases hcase with ⟨h, _, h1, h2⟩ | ⟨h, _, h1, h2⟩ <;> (have h1 := h1.out; have h2 := h2.out; omega)
  have hs1 := hs0.1
  have hs2 := hs0.2.1
  have hs3 := hs0.2.2.1
  have hs4 := hs0.2.2.2.1
  have hs5 := hs0.2.2.2.2.1
  clear hs0
  have hends : Hid ((s0 = a ∨ s0 = mid + m - b) ∧ (r0 = mid ∨ r0 = m)) := by
    rcases hcase with ⟨h, _, h1, h2⟩ | ⟨h, _, h1, h2⟩ <;> (have h1 := h1.out; have h2 := h2.out; show _ ∧ _; omega)
  have HC := hide hcase
  clear hcase
  go_enter Try.func168, Try.ntmps168
  go_upto_if 140 with fail
  go_cut [20, 21] (fun s20 s21 wx => s20 = .int .i64 s0 ∧ s21 = .int .i64 r0 ∧ w = wx)
  case first =>
    rcases HC.out with ⟨hmm, hmm', hcs, hcr⟩ | ⟨hmm, hmm', hcs, hcr⟩
    · clear HC
      go_wp2_with fail
      go_meet
      refine ⟨?_, ?_, rfl⟩
      · have h := hcs.out; congr 1; omega
      · have h := hcr.out; congr 1; omega
    · clear HC
      go_wp2_with fail
      go_meet
      refine ⟨?_, ?_, rfl⟩
      · have h := hcs.out; congr 1; omega
      · have h := hcr.out; congr 1; omega
  clear HC
  obtain ⟨rfl, rfl, rfl⟩ := hcut
  go_wp2_with fail
  go_loopw [20, 21] (fun iv jv wr => ∃ (s r : Nat), iv = .int .i64 s ∧ jv = .int .i64 r ∧ s0 ≤ s ∧ s ≤ r ∧ r ≤ r0 ∧ 
    Hid (s = s0 ∨ ∀ x y, A[s - 1 - a]? = some x → B[mid - s]? = some y → leO x y) ∧ Hid (r = r0 ∨ ∀ x y, A[r - a]? = some x → B[mid - 1 - r]? = some y → leO y x) ∧ RowO wr g (X ++ (A ++ (B ++ Y))) rest ∧ w.grownBy wr (some g)) (fun i j _ => (intOf j).toNat - (intOf i).toNat)
  case atStart =>
    exact ⟨s0, r0, rfl, rfl, by omega, by omega, by omega, .inl rfl, .inl rfl, hr, grown_refl _ _⟩
  case round =>
    obtain ⟨s, r, rfl, rfl, hss, hsr, hrr0, HS, HR, hrr, hgr⟩ := hrel
    by_cases hlt : s < r
    · obtain ⟨h, hh⟩ : ∃ h, h = (s + r) / 2 := ⟨_, rfl⟩
      have hhi : s ≤ h := by omega
      have hhj : h < r := by omega
      have hmid2 : ((s : Int) + r) / 2 = (h : Int) := by omega
      clear hh
      obtain ⟨q, hq⟩ : ∃ q, q = mid + m - 1 - h := ⟨_, rfl⟩
      have hpc : (mid : Int) + m - 1 - h = (q : Int) := by omega
      have hq1 : m ≤ q := by omega
      have hq2 : q < b := by omega
      have HQ := hide hq
      clear hq
      obtain ⟨⟨yt, yl⟩, hy⟩ : ∃ y, A[h - a]? = some y := ⟨A[h - a]'(by have := hm.out; omega), List.getElem?_eq_getElem _⟩
      obtain ⟨⟨xt, xl⟩, hx⟩ : ∃ x, B[q - m]? = some x := ⟨B[q - m]'(by have := hb.out; omega), List.getElem?_eq_getElem _⟩
      have hyd : (X ++ (A ++ (B ++ Y)))[h]? = some ⟨yt, yl⟩ := by
        have h1 := get_in X A (B ++ Y) hy
        rw [show X.length + (h - a) = h from by have := ha.out; omega] at h1
        exact h1
      have hxd : (X ++ (A ++ (B ++ Y)))[q]? = some ⟨xt, xl⟩ := by
        have h1 := get_in (X ++ A) B Y hx
        rw [List.append_assoc, show (X ++ A).length + (q - m) = q from by have := ha.out; have := hm.out; simp; omega] at h1
        exact h1
      obtain ⟨cy0, cy1⟩ := hrr.cells hyd
      obtain ⟨cx0, cx1⟩ := hrr.cells hxd
      have hkw := hide ((hk.grown hne hgr).grown hne (grown_drew (grown_refl wr (some g))))
      have HY := hide hy
      have HX := hide hx
      clear hyd hxd hy hx
      have b1 : 0 ≤ (h : Int) := by omega
      have b2 : (h : Int) < (n : Int) := by omega
      have b3 : 0 ≤ (q : Int) := by omega
      have b4 : (q : Int) < (n : Int) := by omega
      have b5 : IntKind.i64.wrap (q : Int) = (q : Int) := IntWalk.i64_in _ (by omega)
      by_cases hle : leO ⟨yt, yl⟩ ⟨xt, xl⟩
      · have hcm : 0 ≤ cmpO ⟨xt, xl⟩ ⟨yt, yl⟩ := by have := (cmpO_neg (a := ⟨xt, xl⟩) (b := ⟨yt, yl⟩)); simp only [hle, not_true, iff_false] at this; omega
        have hcd : decide (cmpO ⟨xt, xl⟩ ⟨yt, yl⟩ < 0) = false := by simp; omega
        have HLE := hide hle
        clear hle
        go_wp2_with fail
        go_still_tail 11, (by kernel_rfl)
        change wpList _ _ _ _ _ wr.drew
        clear b1 b2 b3 b4 b5
        go_wp2_with fail
        refine (cmpO_any xt xl yt yl kb ka wr.drew hkw).mono ?_
        rintro e2 w2 ⟨rfl, hb2⟩
        go_wp2_with fail
        go_roundw
        case rel =>
          refine ⟨h + 1, r, by go_num, rfl, by omega, by omega, by omega, .inr fun x y hx hy => ?_, HR, RowO.below (w := wr.drew) hrr hb2, grown_below (grown_drew hgr) hb2⟩
          have h3 := HQ.out
          rw [show h + 1 - 1 - a = h - a from by omega, HY.out] at hx
          rw [show mid - (h + 1) = q - m from by omega, HX.out] at hy
          injection hx with hx
          injection hy with hy
          subst hx hy
          exact HLE.out
        case measure => simp [intOf]; omega
      · have hcm : cmpO ⟨xt, xl⟩ ⟨yt, yl⟩ < 0 := cmpO_neg.2 hle
        have HLE := hide hle
        clear hle
        go_wp2_with fail
        go_still_tail 11, (by kernel_rfl)
        change wpList _ _ _ _ _ wr.drew
        clear b1 b2 b3 b4 b5
        go_wp2_with fail
        refine (cmpO_any xt xl yt yl kb ka wr.drew hkw).mono ?_
        rintro e2 w2 ⟨rfl, hb2⟩
        go_wp2_with fail
        go_roundw
        case rel =>
          refine ⟨s, h, rfl, by go_num, by omega, by omega, by omega, HS, .inr fun x y hx hy => ?_, RowO.below (w := wr.drew) hrr hb2, grown_below (grown_drew hgr) hb2⟩
          have h3 := HQ.out
          rw [HY.out] at hx
          rw [show mid - 1 - h = q - m from by omega, HX.out] at hy
          injection hx with hx
          injection hy with hy
          subst hx hy
          exact (leO_total _ _).resolve_left HLE.out
        case measure => simp [intOf]; omega
    · have hij2 : r = s := by omega
      subst hij2
      clear hlt hsr
      obtain ⟨A1, A2, rfl, HA1⟩ : ∃ A1 A2, A = A1 ++ A2 ∧ Hid (r = a + A1.length) := ⟨A.take (r - a), A.drop (r - a), (List.take_append_drop _ _).symm, by have := hm.out; show _ = _; simp; omega⟩
      obtain ⟨B1, B2, rfl, HB1⟩ : ∃ B1 B2, B = B1 ++ B2 ∧ Hid (mid = r + B1.length) := ⟨B.take (mid - r), B.drop (mid - r), (List.take_append_drop _ _).symm, by have := hb.out; show _ = _; simp; omega⟩
      have HAL : Hid (m = r + A2.length) := by have h1 := hm.out; have h2 := HA1.out; show _ = _; simp at h1; omega
      have HBL : Hid (b = m + B1.length + B2.length) := by have h1 := hb.out; show _ = _; simp at h1; omega
      have HMG : Hid (isort (A1 ++ B1) ++ isort (A2 ++ B2) = isort ((A1 ++ A2) ++ (B1 ++ B2))) := by
        have e1 := HA1.out
        have e2 := HB1.out
        have e3 := HAL.out
        have e4 := HBL.out
        have e5 := hends.out
        refine merge_parts hA.out hB.out ?_ ?_
        · intro x y hx hy
          have n1 : A1 ≠ [] := by rintro rfl; simp at hx
          have n2 : B2 ≠ [] := by rintro rfl; simp at hy
          have n1 := List.length_pos_iff.2 n1
          have n2 := List.length_pos_iff.2 n2
          rcases HS.out with h | h
          · omega
          · refine h x y ?_ ?_
            · rw [List.getElem?_append_left (by omega), show r - 1 - a = A1.length - 1 from by omega, ← List.getLast?_eq_getElem?]
              exact hx
            · rw [List.getElem?_append_right (by omega), show mid - r - B1.length = 0 from by omega, ← List.head?_eq_getElem?]
              exact hy
        · intro x y hx hy
          have n1 : B1 ≠ [] := by rintro rfl; simp at hx
          have n2 : A2 ≠ [] := by rintro rfl; simp at hy
          have n1 := List.length_pos_iff.2 n1
          have n2 := List.length_pos_iff.2 n2
          rcases HR.out with h | h
          · omega
          · refine h y x ?_ ?_
            · rw [List.getElem?_append_right (by omega), show r - a - A1.length = 0 from by omega, ← List.head?_eq_getElem?]
              exact hy
            · rw [List.getElem?_append_left (by omega), show mid - 1 - r = B1.length - 1 from by omega, ← List.getLast?_eq_getElem?]
              exact hx
      clear HS HR hends hss hrr0 hs1 hs2 hs3 hs4 hs5
      obtain ⟨t, ht⟩ : ∃ t, t = m + B1.length := ⟨_, rfl⟩
      have htt : (mid : Int) + m - r = (t : Int) := by have := HB1.out; omega
      have HTT := hide ht
      clear ht
      have ROT : Hid (r < m → m < t → Calls Try.prog 170 #[.slice (some ⟨g, 0, none⟩) n c, .int .i64 r, .int .i64 m, .int .i64 t, .func (.func 146) #[] #[.pointer (some ⟨kb, 0, none⟩)]] wr fun e w' =>
          e = .returned (.tuple #[]) ∧ R1 w g X A1 A2 B1 B2 Y rest w') := by
        intro c1 c2
        refine (rotate_any (X ++ A1) A2 B1 (B2 ++ Y) rest g kb n c r m t wr ?_ ?_ ?_ ?_ ?_ ?_ ?_ hlen).mono ?_
        · simpa using hrr
        · have h := hn.out; show _ = _; simp at h ⊢; omega
        · have h1 := HA1.out; have h2 := ha.out; show _ = _; simp; omega
        · have h1 := HA1.out; have h2 := ha.out; have h3 := HAL.out; show _ = _; simp; omega
        · have h1 := HA1.out; have h2 := ha.out; have h3 := HAL.out; have h4 := HTT.out; show _ = _; simp; omega
        · rintro rfl; have h3 := HAL.out; simp at h3; omega
        · rintro rfl; have h3 := HTT.out; simp at h3; omega
        · rintro e w' ⟨rfl, h1, h2⟩
          exact ⟨rfl, by simpa using h1, grown_trans hgr h2⟩
      have ROT0 : Hid (¬ (r < m ∧ m < t) → R1 w g X A1 A2 B1 B2 Y rest wr) := by
        intro hx
        refine ⟨?_, hgr⟩
        have h3 := HAL.out
        have h4 := HTT.out
        by_cases c1 : r < m
        · have h0 : B1 = [] := List.eq_nil_of_length_eq_zero (by omega)
          subst h0
          simpa using hrr
        · have h0 : A2 = [] := List.eq_nil_of_length_eq_zero (by omega)
          subst h0
          simpa using hrr
      have LEFT : Hid (∀ wx, a < r → r < mid → R1 w g X A1 A2 B1 B2 Y rest wx → Calls Try.prog 168 #[.slice (some ⟨g, 0, none⟩) n c, .int .i64 a, .int .i64 r, .int .i64 mid, .func (.func 146) #[] #[.pointer (some ⟨kb, 0, none⟩)]] wx fun e w' =>
          e = .returned (.tuple #[]) ∧ R2 w g X A1 A2 B1 B2 Y rest w') := by
        intro wx c1 c2 hx
        have h1 := HA1.out; have h2 := ha.out; have h3 := HAL.out; have h4 := HBL.out; have h5 := HB1.out; have h6 := HMID.out; have h7 := hL.out; have h8 := hA1.out; have h9 := hB1.out
        refine (IH.out X A1 B1 (A2 ++ (B2 ++ Y)) rest g kb ka n c a r mid wx hx.1 (hk.grown hne hx.2) ?_ ?_ ?_ ?_ ?_ ?_ ?_ ?_ ?_ hlen).mono ?_
        · have h := hn.out; show _ = _; simp at h ⊢; omega
        · show _ = _; omega
        · show _ = _; omega
        · show _ = _; omega
        · rintro rfl; simp at h1; omega
        · rintro rfl; simp at h5; omega
        · exact srt_left hA.out
        · exact srt_left hB.out
        · show _ ≤ _; simp at h7 h8 h9; omega
        · rintro e w' ⟨rfl, h1, h2⟩
          exact ⟨rfl, h1, grown_trans hx.2 h2⟩
      have LEFT0 : Hid (∀ wx, ¬ (a < r ∧ r < mid) → R1 w g X A1 A2 B1 B2 Y rest wx → R2 w g X A1 A2 B1 B2 Y rest wx) := by
        rintro wx hx ⟨h1, h2⟩
        refine ⟨?_, h2⟩
        have h3 := HA1.out
        have h4 := HB1.out
        by_cases c1 : a < r
        · have h0 : B1 = [] := List.eq_nil_of_length_eq_zero (by omega)
          subst h0
          rw [List.append_nil, isort_id (srt_left hA.out)]
          simpa using h1
        · have h0 : A1 = [] := List.eq_nil_of_length_eq_zero (by omega)
          subst h0
          rw [List.nil_append, isort_id (srt_left hB.out)]
          simpa using h1
      have RIGHT : Hid (∀ wx, mid < t → t < b → R2 w g X A1 A2 B1 B2 Y rest wx → Calls Try.prog 168 #[.slice (some ⟨g, 0, none⟩) n c, .int .i64 mid, .int .i64 t, .int .i64 b, .func (.func 146) #[] #[.pointer (some ⟨kb, 0, none⟩)]] wx fun e w' =>
          e = .returned (.tuple #[]) ∧ R3 w g X A1 A2 B1 B2 Y rest w') := by
        intro wx c1 c2 hx
        have h1 := HA1.out; have h2 := ha.out; have h3 := HAL.out; have h4 := HBL.out; have h5 := HB1.out; have h6 := HMID.out; have h7 := hL.out; have h8 := hA1.out; have h9 := hB1.out; have h10 := HTT.out
        refine (IH.out (X ++ isort (A1 ++ B1)) A2 B2 Y rest g kb ka n c mid t b wx (by simpa using hx.1) (hk.grown hne hx.2) ?_ ?_ ?_ ?_ ?_ ?_ ?_ ?_ ?_ hlen).mono ?_
        · have h := hn.out; show _ = _; simp [isort_length] at h ⊢; omega
        · show _ = _; simp [isort_length]; omega
        · show _ = _; simp [isort_length]; omega
        · show _ = _; simp [isort_length]; omega
        · rintro rfl; simp at h3; omega
        · rintro rfl; simp at h4; omega
        · exact srt_right hA.out
        · exact srt_right hB.out
        · show _ ≤ _; simp at h7 h8 h9; omega
        · rintro e w' ⟨rfl, h1, h2⟩
          exact ⟨rfl, by simpa using h1, grown_trans hx.2 h2⟩
      have RIGHT0 : Hid (∀ wx, ¬ (mid < t ∧ t < b) → R2 w g X A1 A2 B1 B2 Y rest wx → R3 w g X A1 A2 B1 B2 Y rest wx) := by
        rintro wx hx ⟨h1, h2⟩
        refine ⟨?_, h2⟩
        have h3 := HAL.out
        have h4 := HBL.out
        have h5 := HB1.out
        have h6 := HTT.out
        by_cases c1 : mid < t
        · have h0 : B2 = [] := List.eq_nil_of_length_eq_zero (by omega)
          subst h0
          rw [List.append_nil, isort_id (srt_right hA.out)]
          simpa using h1
        · have h0 : A2 = [] := List.eq_nil_of_length_eq_zero (by omega)
          subst h0
          rw [List.nil_append, isort_id (srt_right hB.out)]
          simpa using h1
      have DONE : Hid (∀ wx, R3 w g X A1 A2 B1 B2 Y rest wx → RowO wx g (X ++ (isort ((A1 ++ A2) ++ (B1 ++ B2)) ++ Y)) rest ∧ w.grownBy wx (some g)) := by
        rintro wx ⟨h1, h2⟩
        refine ⟨?_, h2⟩
        rw [← HMG.out]
        simpa using h1
      have e5 : r < mid ↔ m < t := by have h1 := HB1.out; have h2 := HTT.out; omega
      have e6 : mid < t ↔ r < m := by have h1 := HB1.out; have h2 := HTT.out; have h3 := HAL.out; omega
      have E5 := hide e5
      have E6 := hide e6
      clear e5 e6 HMG hk hr hn
      obtain ⟨c1, c1'⟩ | ⟨c1, c1'⟩ : (r < m ∧ mid < t) ∨ (¬ r < m ∧ ¬ mid < t) := by have := E6.out; omega
      all_goals obtain ⟨c2, c2'⟩ | ⟨c2, c2'⟩ : (m < t ∧ r < mid) ∨ (¬ m < t ∧ ¬ r < mid) := by have := E5.out; omega
      · by_cases c3 : a < r
        · by_cases c4 : t < b
          · go_wp2_with fail
            refine (ROT.out c1 c2).mono ?_
            rintro e w1 ⟨rfl, h1⟩
            go_wp2_with fail
            refine (LEFT.out _ c3 c2' h1).mono ?_
            rintro e w2 ⟨rfl, h2⟩
            go_wp2_with fail
            refine (RIGHT.out _ c1' c4 h2).mono ?_
            rintro e w3 ⟨rfl, h3⟩
            go_wp2_with fail
            go_end0
            exact ⟨rfl, DONE.out _ h3⟩
          · go_wp2_with fail
            refine (ROT.out c1 c2).mono ?_
            rintro e w1 ⟨rfl, h1⟩
            go_wp2_with fail
            refine (LEFT.out _ c3 c2' h1).mono ?_
            rintro e w2 ⟨rfl, h2⟩
            go_wp2_with fail
            go_end0
            exact ⟨rfl, DONE.out _ (RIGHT0.out _ (by omega) h2)⟩
        · by_cases c4 : t < b
          · go_wp2_with fail
            refine (ROT.out c1 c2).mono ?_
            rintro e w1 ⟨rfl, h1⟩
            go_wp2_with fail
            refine (RIGHT.out _ c1' c4 (LEFT0.out _ (by omega) h1)).mono ?_
            rintro e w3 ⟨rfl, h3⟩
            go_wp2_with fail
            go_end0
            exact ⟨rfl, DONE.out _ h3⟩
          · go_wp2_with fail
            refine (ROT.out c1 c2).mono ?_
            rintro e w1 ⟨rfl, h1⟩
            go_wp2_with fail
            go_end0
            exact ⟨rfl, DONE.out _ (RIGHT0.out _ (by omega) (LEFT0.out _ (by omega) h1))⟩
      · have h1 := ROT0.out (by omega)
        have h2 := LEFT0.out _ (by omega) h1
        by_cases c4 : t < b
        · go_wp2_with fail
          refine (RIGHT.out _ c1' c4 h2).mono ?_
          rintro e w3 ⟨rfl, h3⟩
          go_wp2_with fail
          go_end0
          exact ⟨rfl, DONE.out _ h3⟩
        · exfalso; omega
      · have h1 := ROT0.out (by omega)
        by_cases c3 : a < r
        · go_wp2_with fail
          refine (LEFT.out _ c3 c2' h1).mono ?_
          rintro e w3 ⟨rfl, h2⟩
          go_wp2_with fail
          go_end0
          exact ⟨rfl, DONE.out _ (RIGHT0.out _ (by omega) h2)⟩
        · first
            | (exfalso; omega)
            | (go_wp2_with fail
               go_end0
               exact ⟨rfl, DONE.out _ (RIGHT0.out _ (by omega) (LEFT0.out _ (by omega) h1))⟩)
      · have h1 := ROT0.out (by omega)
        have h2 := LEFT0.out _ (by omega) h1
        go_wp2_with fail
        go_end0
        exact ⟨rfl, DONE.out _ (RIGHT0.out _ (by omega) h2)⟩

theorem sym_any : ∀ L, SymUpto L
  | 0 => by
    intro X A B Y rest g kb ka n c P Q E w hr hk hn hP hQ hE hA hB hsA hsB hL hlen
    have h1 := List.length_pos_iff.2 hA.out
    have h2 := hL.out
    omega
  | L + 1 => by
    intro X A B Y rest g kb ka n c P Q E w hr hk hn hP hQ hE hA hB hsA hsB hL hlen
    have hA0 := List.length_pos_iff.2 hA.out
    have hB0 := List.length_pos_iff.2 hB.out
    have h1 := hP.out
    have h2 := hQ.out
    have h3 := hE.out
    subst h1 h2 h3
    rw [show (X.length : Int) + A.length = ((X.length + A.length : Nat) : Int) from by omega, show ((X.length + A.length : Nat) : Int) + B.length = ((X.length + A.length + B.length : Nat) : Int) from by omega]
    by_cases a1 : A.length = 1
    · obtain ⟨⟨xt, xl⟩, rfl⟩ := List.length_eq_one_iff.1 a1
      exact sym_left X B Y xt xl rest g kb ka n _ _ _ c w hr hk hn rfl rfl rfl hsB hlen
    · by_cases b1 : B.length = 1
      · obtain ⟨⟨xt, xl⟩, rfl⟩ := List.length_eq_one_iff.1 b1
        exact sym_right X A Y xt xl rest g kb ka n _ _ _ c w hr hk hn rfl rfl rfl hsA a1 hlen
      · exact sym_gen (sym_any L) X A B Y rest g kb ka n _ _ _ c w hr hk hn rfl rfl rfl hsA hsB (by show _ ≤ _; omega) (by show _ ≤ _; omega) hL hlen

end Go.Proofs.Ytmjcjmljnliaoaa

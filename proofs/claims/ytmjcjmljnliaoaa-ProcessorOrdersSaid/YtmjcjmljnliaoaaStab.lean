/-
  The stable sort of a row of outputs: blocks of 20, then merges.
-/
import Derived.Test.YtmjcjmljnliaoaaSym3
import Derived.Test.YtmjcjmljnliaoaaSorted
set_option linter.unusedVariables false
namespace Go.Proofs.Ytmjcjmljnliaoaa
open Go.RowKit

inductive Bk (s : Nat) : List Out → Prop
  | last (l : List Out) : Srt l → l.length ≤ s → Bk s l
  | cons (l r : List Out) : Srt l → l.length = s → Bk s r → Bk s (l ++ r)
inductive Full (s : Nat) : List Out → Prop
  | nil : Full s []
  | snoc (D l : List Out) : Full s D → Srt l → l.length = s → Full s (D ++ l)
theorem Full.bk {s : Nat} {D : List Out} (h : Full s D) : ∀ {R : List Out}, Bk s R → Bk s (D ++ R) := by
  induction h with
  | nil => intro R hR; exact hR
  | snoc D l _ hs hl ih =>
    intro R hR
    rw [List.append_assoc]
    exact ih (Bk.cons l R hs hl hR)
theorem Bk.split {s : Nat} {R : List Out} (h : Bk s R) (hs : s ≤ R.length) : ∃ l r, R = l ++ r ∧ Srt l ∧ l.length = s ∧ Bk s r := by
  cases h with
  | last _ h1 h2 => exact ⟨R, [], by simp, h1, by omega, Bk.last [] List.Pairwise.nil (by simp)⟩
  | cons l r h1 h2 h3 => exact ⟨l, r, rfl, h1, h2, h3⟩
theorem Bk.small {s : Nat} {R : List Out} (h : Bk s R) (hs : R.length ≤ s) : Srt R := by
  cases h with
  | last _ h1 h2 => exact h1
  | cons l r h1 h2 h3 =>
    have : r = [] := List.eq_nil_of_length_eq_zero (by simp at hs; omega)
    subst this
    simpa using h1

theorem sym_int (X A B Y : List Out) (rest : List Value) (g kb ka n c : Nat) (P Q E : Int) (w : World) (hr : RowO w g (X ++ (A ++ (B ++ Y))) rest) (hk : Keys w kb ka) (hn : Hid (n = (X ++ (A ++ (B ++ Y))).length)) (hP : Hid (P = X.length)) (hQ : Hid (Q = X.length + A.length)) (hE : Hid (E = X.length + A.length + B.length)) (hA : A ≠ []) (hB : B ≠ []) (hsA : Srt A) (hsB : Srt B) (hlen : n ≤ 1000000000000000) :
    Calls Try.prog 168 #[.slice (some ⟨g, 0, none⟩) n c, .int .i64 P, .int .i64 Q, .int .i64 E, .func (.func 146) #[] #[.pointer (some ⟨kb, 0, none⟩)]] w fun e w' =>
      e = .returned (.tuple #[]) ∧ RowO w' g (X ++ (isort (A ++ B) ++ Y)) rest ∧ w.grownBy w' (some g) :=
  sym_any _ X A B Y rest g kb ka n c P Q E w hr hk hn hP hQ hE hA hB hsA hsB (Nat.le_refl _) hlen

set_option maxRecDepth 100000 in
set_option maxHeartbeats 4000000 in
theorem stable_any : StableUpto 1000000000000 := by
  intro d rest g kb ka c w hr hk hd
  have hne := hk.ne hr
  obtain ⟨n, hn⟩ : ∃ n, n = d.length := ⟨_, rfl⟩
  rw [← hn] at hd ⊢
  have HN := hide hn
  clear hn
  go_enter Try.func161, Try.ntmps161
  go_wp2_with fail
  go_loopw [7, 8] (fun av bv wr => ∃ (a : Nat) (D R : List Out), av = .int .i64 a ∧ bv = .int .i64 (a + 20 : Nat) ∧ a ≤ n ∧ Hid (a = D.length) ∧ Hid (n = (D ++ R).length) ∧ Hid (Full 20 D) ∧ Hid ((D ++ R).Perm d) ∧ RowO wr g (D ++ R) rest ∧ w.grownBy wr (some g)) (fun i _ _ => n - (intOf i).toNat)
  case atStart => exact ⟨0, [], d, rfl, rfl, by omega, rfl, HN, Full.nil, List.Perm.refl _, hr, grown_refl _ _⟩
  case round =>
    obtain ⟨a, D, R, rfl, rfl, han, HA, HL, HF, HP, hrr, hgr⟩ := hrel
    by_cases hlt : a + 20 ≤ n
    · obtain ⟨M, R, rfl, HM⟩ : ∃ M R', R = M ++ R' ∧ Hid (M.length = 20) := ⟨R.take 20, R.drop 20, (List.take_append_drop _ _).symm, by have h1 := HA.out; have h2 := HL.out; show _ = _; simp at h2 ⊢; omega⟩
      go_wp2_with fail
      refine (insSort_int D M R rest g kb ka n c a _ wr hrr (hk.grown hne hgr) HL (by show _ = _; rw [HA.out]) (by show _ = _; have h1 := HA.out; have h2 := HM.out; omega) (by omega)).mono ?_
      rintro e w2 ⟨rfl, hr2, hg2⟩
      go_wp2_with fail
      go_roundw
      case rel =>
        have h2 := HM.out
        refine ⟨a + 20, D ++ isort M, R, by go_num, by go_num, by omega, ?_, ?_, Full.snoc _ _ HF.out (isort_srt _) (by rw [isort_length]; exact h2), ?_, by simpa using hr2, grown_trans hgr hg2⟩
        · have h1 := HA.out; show _ = _; simp [isort_length]; omega
        · have h1 := HL.out; show _ = _; simp [isort_length] at h1 ⊢; omega
        · refine List.Perm.trans ?_ HP.out
          rw [List.append_assoc]
          exact List.Perm.append_left D (List.Perm.append_right R (isort_perm M))
      case measure => simp [intOf]; omega
    · go_wp2_with fail
      refine (insSort_int D R [] rest g kb ka n c a n wr (by simpa using hrr) (hk.grown hne hgr) (by simpa using HL) (by show _ = _; rw [HA.out]) (by show _ = _; have h1 := HA.out; have h2 := HL.out; simp at h2; omega) (by omega)).mono ?_
      rintro e w2 ⟨rfl, hr2, hg2⟩
      have hg3 := grown_trans hgr hg2
      have HB : Hid (Bk 20 (D ++ isort R)) := HF.out.bk (Bk.last _ (isort_srt _) (by rw [isort_length]; have h1 := HA.out; have h2 := HL.out; simp at h2; omega))
      have HP2 : Hid ((D ++ isort R).Perm d) := (List.Perm.append_left D (isort_perm R)).trans HP.out
      have hr3 : RowO w2 g (D ++ isort R) rest := by simpa using hr2
      clear hr2 hg2 hrr hgr HA HL HF HP hlt han hr
      go_wp2_with fail
      obtain ⟨wo, rfl⟩ : ∃ wo : World, wo = w2 := ⟨_, rfl⟩
      go_loopw [6] (fun sv wr => ∃ (s : Nat) (D : List Out), sv = .int .i64 s ∧ 20 ≤ s ∧ s ≤ 2000000000020 ∧ Hid (Bk s D) ∧ Hid (D.Perm d) ∧ RowO wr g D rest ∧ w.grownBy wr (some g)) (fun i _ => n - (intOf i).toNat)
      case atStart => exact ⟨20, _, rfl, by omega, by omega, HB, HP2, hr3, hg3⟩
      case round =>
        obtain ⟨s, D, rfl, hs1, hs2, HBK, HPD, hrs, hgs⟩ := hrel
        by_cases hsn : s < n
        · go_wp2_with fail
          obtain ⟨wo, rfl⟩ : ∃ wo : World, wo = wr := ⟨_, rfl⟩
          go_loopw [7, 8] (fun av bv wr => ∃ (a : Nat) (D R : List Out), av = .int .i64 a ∧ bv = .int .i64 (a + 2 * s : Nat) ∧ a ≤ n ∧ Hid (a = D.length) ∧ Hid (n = (D ++ R).length) ∧ Hid (Full (2 * s) D) ∧ Hid (Bk s R) ∧ Hid ((D ++ R).Perm d) ∧ RowO wr g (D ++ R) rest ∧ w.grownBy wr (some g)) (fun i _ _ => n - (intOf i).toNat)
          case atStart =>
            refine ⟨0, [], D, rfl, by go_num, by omega, rfl, ?_, Full.nil, HBK, HPD, hrs, hgs⟩
            have h1 := HPD.out.length_eq; have h2 := HN.out; show _ = _; simp; omega
          case round =>
            obtain ⟨a, D1, R, rfl, rfl, han, HA, HL, HF, HBR, HP, hrr, hgr⟩ := hrel
            by_cases hlt : a + 2 * s ≤ n
            · have hRl : 2 * s ≤ R.length := by have h1 := HA.out; have h2 := HL.out; simp at h2; omega
              obtain ⟨l1, r1, h1, hl1, hn1, hb1⟩ := HBR.out.split (by omega)
              obtain ⟨l2, R', h2, hl2, hn2, hb2⟩ := hb1.split (by rw [h1] at hRl; simp at hRl; omega)
              subst h2
              subst h1
              have HBR' := hide hb2
              have Hl1 := hide hl1
              have Hl2 := hide hl2
              have Hn1 := hide hn1
              have Hn2 := hide hn2
              clear hb1 hb2 hl1 hl2 hn1 hn2 hRl
              go_wp2_with fail
              refine (sym_int D1 l1 l2 R' rest g kb ka n c a _ _ wr hrr (hk.grown hne hgr) HL (by show _ = _; rw [HA.out]) (by show _ = _; have h1 := HA.out; have h2 := Hn1.out; omega) (by show _ = _; have h1 := HA.out; have h2 := Hn1.out; have h3 := Hn2.out; omega) (by have h2 := Hn1.out; rintro rfl; simp at h2; omega) (by have h2 := Hn2.out; rintro rfl; simp at h2; omega) Hl1.out Hl2.out (by omega)).mono ?_
              rintro e w2 ⟨rfl, hr2, hg2⟩
              go_wp2_with fail
              go_roundw
              case rel =>
                have h2 := Hn1.out
                have h3 := Hn2.out
                refine ⟨a + 2 * s, D1 ++ isort (l1 ++ l2), R', by go_num, by go_num, by omega, ?_, ?_, Full.snoc _ _ HF.out (isort_srt _) (by rw [isort_length]; simp; omega), HBR', ?_, by simpa using hr2, grown_trans hgr hg2⟩
                · have h1 := HA.out; show _ = _; simp [isort_length]; omega
                · have h1 := HL.out; show _ = _; simp [isort_length] at h1 ⊢; omega
                · refine List.Perm.trans ?_ HP.out
                  rw [List.append_assoc, show l1 ++ (l2 ++ R') = (l1 ++ l2) ++ R' from by simp]
                  exact List.Perm.append_left D1 (List.Perm.append_right R' (isort_perm _))
              case measure => simp [intOf]; omega
            · by_cases hm : a + s < n
              · have hRl : s < R.length := by have h1 := HA.out; have h2 := HL.out; simp at h2; omega
                obtain ⟨l1, l2, h1, hl1, hn1, hb1⟩ := HBR.out.split (by omega)
                subst h1
                have Hl1 := hide hl1
                have Hl2 := hide (hb1.small (by have h1 := HA.out; have h2 := HL.out; simp at h2; omega))
                have Hn1 := hide hn1
                have Hn2 : Hid (l2 ≠ []) := by rintro rfl; simp at hRl; omega
                clear hb1 hl1 hn1 hRl
                go_wp2_with fail
                refine (sym_int D1 l1 l2 [] rest g kb ka n c a _ n wr (by simpa using hrr) (hk.grown hne hgr) (by simpa using HL) (by show _ = _; rw [HA.out]) (by show _ = _; have h1 := HA.out; have h2 := Hn1.out; omega) (by show _ = _; have h1 := HA.out; have h2 := HL.out; simp at h2; omega) (by have h2 := Hn1.out; rintro rfl; simp at h2; omega) Hn2.out Hl1.out Hl2.out (by omega)).mono ?_
                rintro e w2 ⟨rfl, hr2, hg2⟩
                go_wp2_with fail
                go_roundw
                case rel =>
                  refine ⟨s * 2, D1 ++ isort (l1 ++ l2), by go_num, by omega, by omega, ?_, ?_, by simpa using hr2, grown_trans hgr hg2⟩
                  · have := HF.out.bk (Bk.last (s := 2 * s) _ (isort_srt (l1 ++ l2)) (by rw [isort_length]; have h1 := HA.out; have h2 := HL.out; simp at h2 ⊢; omega))
                    rw [Nat.mul_comm] at this
                    exact this
                  · exact (List.Perm.append_left D1 (isort_perm _)).trans HP.out
                case measure => simp [intOf]; omega
              · go_wp2_with fail
                go_roundw
                case rel =>
                  refine ⟨s * 2, D1 ++ R, by go_num, by omega, by omega, ?_, HP, hrr, hgr⟩
                  have h0 : R.length ≤ s := by have h1 := HA.out; have h2 := HL.out; simp at h2; omega
                  have := HF.out.bk (Bk.last (s := 2 * s) R (HBR.out.small h0) (by omega))
                  rw [Nat.mul_comm] at this
                  exact this
                case measure => simp [intOf]; omega
        · go_wp2_with fail
          go_end0
          refine ⟨rfl, ?_, hgs⟩
          have h1 := HPD.out
          rw [← isort_of (HBK.out.small (by have h2 := h1.length_eq; have h3 := HN.out; omega)) h1]
          exact hrs

theorem sorted_any : SortedUpto 1000000000000 := sorted_of stable_any (by omega)

end Go.Proofs.Ytmjcjmljnliaoaa

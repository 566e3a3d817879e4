/-
  A row of outputs that is sorted in place: the insertion sort.
-/
import Derived.Test.YtmjcjmljnliaoaaCmp
set_option linter.unusedVariables false
namespace Go.Proofs.Ytmjcjmljnliaoaa
open Go.RowKit

def flatO (d : List Out) : List Value := d.flatMap fun o => [.int .i64 o.to, .int .i64 o.letter]
theorem flatO_len (d : List Out) : (flatO d).length = d.length * 2 := by
  induction d with
  | nil => rfl
  | cons x r ih => simp only [flatO, List.flatMap_cons, List.length_append, List.length_cons, List.length_nil] at *; omega
theorem flatO_get {d : List Out} {i : Nat} {t l : Int} (h : d[i]? = some ⟨t, l⟩) : (flatO d)[i * 2]? = some (.int .i64 t) ∧ (flatO d)[i * 2 + 1]? = some (.int .i64 l) := by
  induction d generalizing i with
  | nil => simp at h
  | cons x r ih =>
    match i, h with
    | 0, h =>
      simp at h
      subst h
      exact ⟨rfl, rfl⟩
    | i + 1, h =>
      have h2 := ih (by simpa using h)
      rw [show (i + 1) * 2 = i * 2 + 1 + 1 from by omega]
      exact ⟨by simpa [flatO] using h2.1, by simpa [flatO] using h2.2⟩
theorem flatO_set (d : List Out) (i : Nat) (t l : Int) : flatO (d.set i ⟨t, l⟩) = ((flatO d).set (i * 2) (.int .i64 t)).set (i * 2 + 1) (.int .i64 l) := by
  induction d generalizing i with
  | nil => simp [flatO]
  | cons x r ih =>
    match i with
    | 0 => simp [flatO]
    | i + 1 =>
      rw [show (i + 1) * 2 = i * 2 + 1 + 1 from by omega]
      have h2 := ih i
      simp only [flatO] at h2
      simp [flatO, h2]

def RowO (w : World) (g : Nat) (d : List Out) (rest : List Value) : Prop := w.heap[g]? = some (.cells (flatO d ++ rest).toArray 80 (0, 0))

section
variable {w w' : World} {g : Nat} {d : List Out} {rest : List Value}
theorem RowO.lt (h : RowO w g d rest) : g < w.heap.size := (Array.getElem?_eq_some_iff.1 h).1
theorem RowO.cells (h : RowO w g d rest) {i : Nat} {t l : Int} (hi : d[i]? = some ⟨t, l⟩) : w.cell? ⟨g, i * 2, none⟩ = some (.int .i64 t) ∧ w.cell? ⟨g, i * 2 + 1, none⟩ = some (.int .i64 l) := by
  have hl : i < d.length := (List.getElem?_eq_some_iff.1 hi).1
  have hg := flatO_get hi
  rw [cell_of_row w g _ _ _ _ h, cell_of_row w g _ _ _ _ h]
  simp only [List.getElem?_toArray]
  rw [List.getElem?_append_left (by rw [flatO_len]; omega), List.getElem?_append_left (by rw [flatO_len]; omega)]
  exact hg
theorem RowO.free (h : RowO w g d rest) (i : Nat) : w.frozen? ⟨g, i, none⟩ = false := frozen_of_row w g i _ _ h
theorem RowO.keep (h : RowO w g d rest) (hb : w'.heap[g]? = w.heap[g]?) : RowO w' g d rest := hb.trans h
theorem RowO.below (h : RowO w g d rest) (hb : Below w.heap.size w w') : RowO w' g d rest := h.keep (hb.block g h.lt)
theorem RowO.put (h : RowO w g d rest) {i : Nat} (hi : i < d.length) (t l : Int) : RowO ((w.setCell ⟨g, i * 2, none⟩ (.int .i64 t)).setCell ⟨g, i * 2 + 1, none⟩ (.int .i64 l)) g (d.set i ⟨t, l⟩) rest := by
  have h1 := heap_setCell_same w g (i * 2) _ _ (.int .i64 t) h
  have h2 := heap_setCell_same (w.setCell ⟨g, i * 2, none⟩ (.int .i64 t)) g (i * 2 + 1) _ _ (.int .i64 l) h1
  unfold RowO
  rw [h2, flatO_set]
  congr 2
  rw [List.setIfInBounds_toArray, List.setIfInBounds_toArray, List.set_append_left _ _ (by rw [flatO_len]; omega), List.set_append_left _ _ (by rw [List.length_set, flatO_len]; omega)]
end

theorem Keys.ne {w : World} {kb ka g : Nat} {d : List Out} {rest : List Value} (hk : Keys w kb ka) (h : RowO w g d rest) : kb ≠ g ∧ ka ≠ g := by
  constructor
  · rintro rfl
    have := hk.1.symm.trans h
    simp at this
  · rintro rfl
    have := hk.2.symm.trans h
    simp at this
theorem Keys.grown {w w' : World} {kb ka g : Nat} (hk : Keys w kb ka) (hne : kb ≠ g ∧ ka ≠ g) (hg : w.grownBy w' (some g)) : Keys w' kb ka :=
  ⟨(hg.block kb (Array.getElem?_eq_some_iff.1 hk.1).1 (fun e => hne.1 (by injection e))).trans hk.1, (hg.block ka (Array.getElem?_eq_some_iff.1 hk.2).1 (fun e => hne.2 (by injection e))).trans hk.2⟩

theorem grown_refl (w : World) (r : Option Nat) : w.grownBy w r := ⟨rfl, rfl, rfl, Nat.le_refl _, fun _ _ _ => rfl⟩
theorem grown_below {a w w' : World} {r : Option Nat} (h : a.grownBy w r) (hb : Below w.heap.size w w') : a.grownBy w' r :=
  ⟨hb.os.trans h.os, hb.tape.trans h.tape, hb.output.trans h.output, Nat.le_trans h.size hb.size, fun k hk hne => (hb.block k (Nat.lt_of_lt_of_le hk h.size)).trans (h.block k hk hne)⟩
theorem grown_trans {a w w' : World} {r : Option Nat} (h : a.grownBy w r) (k : w.grownBy w' r) : a.grownBy w' r :=
  ⟨k.os.trans h.os, k.tape.trans h.tape, k.output.trans h.output, Nat.le_trans h.size k.size, fun i hi hne => (k.block i (Nat.lt_of_lt_of_le hi h.size) hne).trans (h.block i hi hne)⟩
theorem grown_set {a w : World} {g : Nat} (h : a.grownBy w (some g)) (i : Nat) (u : Value) : a.grownBy (w.setCell ⟨g, i, none⟩ u) (some g) :=
  ⟨h.os, h.tape, h.output, by simpa [World.setCell] using h.size, fun k hk hne => (Below.heap_setCell w ⟨g, i, none⟩ u k (fun e => hne (by rw [e]))).trans (h.block k hk hne)⟩
theorem grown_drew {a w : World} {r : Option Nat} (h : a.grownBy w r) : a.grownBy w.drew r := ⟨h.os, h.tape, h.output, h.size, h.block⟩
theorem grown_drewN {a w : World} {r : Option Nat} (h : a.grownBy w r) (n : Nat) : a.grownBy (w.drewN n) r := ⟨h.os, h.tape, h.output, h.size, h.block⟩

theorem swap_adj (A B : List Out) (x y : Out) : ((A ++ y :: x :: B).set (A.length + 1) y).set A.length x = A ++ x :: y :: B := by
  rw [List.set_append_right _ _ (by omega), List.set_append_right _ _ (by omega)]
  simp

def cmpFun (kb : Nat) : Value := .func (.func 146) #[] #[.pointer (some ⟨kb, 0, none⟩)]

set_option maxRecDepth 100000 in
set_option maxHeartbeats 4000000 in
theorem insSort_any (X M Y : List Out) (rest : List Value) (g kb ka n a b c : Nat) (w : World) (hr : RowO w g (X ++ (M ++ Y)) rest) (hk : Keys w kb ka) (hn : Hid (n = (X ++ (M ++ Y)).length)) (ha : Hid (a = X.length)) (hb : Hid (b = X.length + M.length)) (hlen : n ≤ 1000000000000000) :
    Calls Try.prog 167 #[.slice (some ⟨g, 0, none⟩) n c, .int .i64 a, .int .i64 b, .func (.func 146) #[] #[.pointer (some ⟨kb, 0, none⟩)]] w fun e w' =>
      e = .returned (.tuple #[]) ∧ RowO w' g (X ++ (isort M ++ Y)) rest ∧ w.grownBy w' (some g) := by
  have hne := hk.ne hr
  have hbn : a ≤ b ∧ b ≤ n := by have h1 := hn.out; have h2 := ha.out; have h3 := hb.out; simp at h1; omega
  have hbn1 := hbn.1
  have hbn2 := hbn.2
  clear hbn
  cases M with
  | nil =>
    have hab : b = a := by have h2 := ha.out; have h3 := hb.out; simp at h3; omega
    subst hab
    clear hbn1
    go_enter Try.func167, Try.ntmps167
    go_wp2_with fail
    refine wp_loop_rounds 1 ?_
    rw [rounds_succ]
    go_wp2_with fail
    go_end0
    exact ⟨rfl, hr, grown_refl _ _⟩
  | cons m M =>
  go_enter Try.func167, Try.ntmps167
  go_wp2_with fail
  go_loopw [8] (fun i wr => ∃ (k : Nat) (S R : List Out), i = .int .i64 k ∧ k ≤ n ∧ a < k ∧ Hid (k = a + S.length) ∧ Hid (Srt S) ∧ Hid ((S ++ R).Perm (m :: M)) ∧ Hid (b = a + (S ++ R).length) ∧ RowO wr g (X ++ (S ++ (R ++ Y))) rest ∧ w.grownBy wr (some g)) (fun i _ => n + 1 - (intOf i).toNat)
  case atStart =>
    have h1 := hn.out
    have h2 := ha.out
    have h3 := hb.out
    simp at h1 h3
    refine ⟨a + 1, [m], M, by go_num, by omega, by omega, rfl, List.pairwise_singleton _ _, List.Perm.refl _, ?_, by simpa using hr, grown_refl _ _⟩
    show _ = _
    simp; omega
  case round =>
    obtain ⟨k, S, R, rfl, hkn, hka, HK, HS, HP, HB, hrr, hgr⟩ := hrel
    cases R with
    | nil =>
      have hlt : ¬ k < b := by have h1 := HB.out; have h2 := HK.out; simp at h1; omega
      go_wp2_with fail
      go_end0
      refine ⟨rfl, ?_, hgr⟩
      have h1 := HP.out
      rw [List.append_nil] at h1
      rw [← isort_of HS.out h1]
      simpa using hrr
    | cons x R =>
      have hlt : k < b := by have h1 := HB.out; have h2 := HK.out; simp at h1; omega
      go_wp2_with fail
      obtain ⟨wo, rfl⟩ : ∃ wo : World, wo = wr := ⟨_, rfl⟩
      go_loopw [9] (fun i wr => ∃ (j : Nat) (P Q : List Out), i = .int .i64 j ∧ a ≤ j ∧ j ≤ k ∧ Hid (j = a + P.length) ∧ Hid (S = P ++ Q) ∧ Hid (∀ q ∈ Q, leO x q) ∧ RowO wr g (X ++ (P ++ x :: (Q ++ (R ++ Y)))) rest ∧ w.grownBy wr (some g)) (fun i _ => (intOf i).toNat)
      case atStart =>
        exact ⟨k, S, [], rfl, by omega, by omega, HK, by show _ = _; simp, by show ∀ q ∈ _, _; simp, by simpa using hrr, hgr⟩
      case round =>
        obtain ⟨j, P, Q, rfl, haj, hjk, HJ, HPQ, HQ, hrj, hgj⟩ := hrel
        have out : ∀ wx, RowO wx g (X ++ (P ++ x :: (Q ++ (R ++ Y)))) rest → w.grownBy wx (some g) → Srt (P ++ x :: Q) →
            ∃ (k2 : Nat) (S R : List Out), Value.int .i64 ((k : Int) + 1) = .int .i64 k2 ∧ k2 ≤ n ∧ a < k2 ∧ Hid (k2 = a + S.length) ∧ Hid (Srt S) ∧ Hid ((S ++ R).Perm (m :: M)) ∧ Hid (b = a + (S ++ R).length) ∧ RowO wx g (X ++ (S ++ (R ++ Y))) rest ∧ w.grownBy wx (some g) := by
          intro wx hx hg hsr
          have h1 := HPQ.out
          have h2 := HK.out
          have h3 := HB.out
          subst h1
          simp at h2 h3
          refine ⟨k + 1, P ++ x :: Q, R, by go_num, by omega, by omega, by show _ = _; simp; omega, hsr, ?_, by show _ = _; simp; omega, by simpa using hx, hg⟩
          show List.Perm _ _
          refine List.Perm.trans ?_ HP.out
          simp only [List.append_assoc, List.cons_append]
          exact List.Perm.append_left P (List.perm_middle.symm)
        have OUT := hide out
        clear out
        by_cases hj : a < j
        · have hp : P ≠ [] := by intro h; have := HJ.out; subst h; simp at this; omega
          obtain ⟨P', y, rfl⟩ : ∃ P' y, P = P' ++ [y] := ⟨P.dropLast, P.getLast hp, (List.dropLast_concat_getLast hp).symm⟩
          clear hp
          obtain ⟨i, rfl⟩ : ∃ i, j = i + 1 := ⟨j - 1, by omega⟩
          have hi : Hid (i = (X ++ P').length) := by have h1 := HJ.out; have h2 := ha.out; show _ = _; simp at h1 ⊢; omega
          have hrA : RowO wr g ((X ++ P') ++ y :: x :: (Q ++ (R ++ Y))) rest := by simpa using hrj
          have hyd : ((X ++ P') ++ y :: x :: (Q ++ (R ++ Y)))[i]? = some y := by rw [hi.out, List.getElem?_append_right (Nat.le_refl _)]; simp
          have hxd : ((X ++ P') ++ y :: x :: (Q ++ (R ++ Y)))[i + 1]? = some x := by rw [hi.out, List.getElem?_append_right (by omega)]; simp
          obtain ⟨yt, yl⟩ := y
          obtain ⟨xt, xl⟩ := x
          obtain ⟨cy0, cy1⟩ := hrA.cells hyd
          obtain ⟨cx0, cx1⟩ := hrA.cells hxd
          have hkw := hide ((hk.grown hne hgj).grown hne (grown_drew (grown_refl wr (some g))))
          clear hyd hxd hrj hrr
          have hgd : decide ((a : Int) < (i : Int) + 1) = true := by simp; omega
          have b1 : 0 ≤ (i : Int) + 1 := by omega
          have b2 : (i : Int) + 1 < (n : Int) := by omega
          have b3 : 0 ≤ (i : Int) := by omega
          have b4 : (i : Int) < (n : Int) := by omega
          have b5 : ((i : Int) + 1).toNat = i + 1 := by omega
          have b6 : IntKind.i64.wrap (i : Int) = (i : Int) := IntWalk.i64_in _ (by omega)
          by_cases hle : leO ⟨yt, yl⟩ ⟨xt, xl⟩
          · have hcm : 0 ≤ cmpO ⟨xt, xl⟩ ⟨yt, yl⟩ := by have := (cmpO_neg (a := ⟨xt, xl⟩) (b := ⟨yt, yl⟩)); simp only [hle, not_true, iff_false] at this; omega
            have HLE := hide hle
            clear hle
            go_wp2_with fail
            go_still_tail 14, (by kernel_rfl)
            change wpList _ _ _ _ _ wr.drew
            clear b1 b2 b3 b4 b5 b6
            go_wp2_with fail
            refine (cmpO_any xt xl yt yl kb ka wr.drew hkw).mono ?_
            rintro e w2 ⟨rfl, hb2⟩
            go_wp2_with fail
            go_roundw
            case rel =>
              refine OUT.out _ (by have h := RowO.below (w := wr.drew) hrA hb2; simpa using h) (grown_below (grown_drew hgj) hb2) ?_
              have h2 := HS.out
              rw [HPQ.out] at h2
              obtain ⟨h3, h4, h5⟩ := List.pairwise_append.1 h2
              refine List.pairwise_append.2 ⟨h3, List.pairwise_cons.2 ⟨HQ.out, h4⟩, fun p hp q hq => ?_⟩
              rcases List.mem_cons.1 hq with rfl | hq
              · rcases List.mem_append.1 hp with hp | hp
                · have := (List.pairwise_append.1 h3).2.2 p hp _ (List.mem_singleton.2 rfl)
                  exact leO_trans this HLE.out
                · rw [List.mem_singleton.1 hp]; exact HLE.out
              · exact h5 p hp q hq
            case measure => simp [intOf]; omega
          · have hcm : cmpO ⟨xt, xl⟩ ⟨yt, yl⟩ < 0 := cmpO_neg.2 hle
            have HLE := hide hle
            clear hle
            go_wp2_with fail
            go_still_tail 14, (by kernel_rfl)
            change wpList _ _ _ _ _ wr.drew
            clear b1 b2 b3 b4 b5 b6
            go_wp2_with fail
            refine (cmpO_any xt xl yt yl kb ka wr.drew hkw).mono ?_
            rintro e w2 ⟨rfl, hb2⟩
            have hr2 := RowO.below (w := wr.drew) hrA hb2
            have hg2 := grown_below (grown_drew hgj) hb2
            have cy0 := (hb2.cell (World.block_lt_of_cell? _ _ cy0)).trans cy0
            have cy1 := (hb2.cell (World.block_lt_of_cell? _ _ cy1)).trans cy1
            have cx0 := (hb2.cell (World.block_lt_of_cell? _ _ cx0)).trans cx0
            have cx1 := (hb2.cell (World.block_lt_of_cell? _ _ cx1)).trans cx1
            have f0 := hr2.free (i * 2)
            have f1 := hr2.free (i * 2 + 1)
            have f2 := hr2.free ((i + 1) * 2)
            have f3 := hr2.free ((i + 1) * 2 + 1)
            clear hb2
            go_wp2_with fail
            go_region
            have hr3 := RowO.put (RowO.put (w := w2) hr2 (i := i + 1) (by rw [hi.out]; simp <;> omega) yt yl) (i := i) (by rw [hi.out]; simp <;> omega) xt xl
            have hg3 := grown_set (grown_set (grown_set (grown_set hg2 ((i + 1) * 2) (.int .i64 yt)) ((i + 1) * 2 + 1) (.int .i64 yl)) (i * 2) (.int .i64 xt)) (i * 2 + 1) (.int .i64 xl)
            have hsw : (((X ++ P') ++ ⟨yt, yl⟩ :: ⟨xt, xl⟩ :: (Q ++ (R ++ Y))).set (i + 1) ⟨yt, yl⟩).set i ⟨xt, xl⟩ = (X ++ P') ++ ⟨xt, xl⟩ :: ⟨yt, yl⟩ :: (Q ++ (R ++ Y)) := by rw [hi.out]; exact swap_adj _ _ _ _
            rw [hsw] at hr3
            rw [show (X ++ P') ++ ⟨xt, xl⟩ :: ⟨yt, yl⟩ :: (Q ++ (R ++ Y)) = X ++ (P' ++ ⟨xt, xl⟩ :: ((⟨yt, yl⟩ :: Q) ++ (R ++ Y))) from by simp] at hr3
            have hr4 := hr3
            have hg4 := grown_drew hg3
            clear hsw hr2 hr3 hg3 hg2 f0 f1 f2 f3 cy0 cy1 cx0 cx1 hrA hkw
            go_wp2_with fail
            go_roundw
            case rel =>
              refine ⟨i, P', ⟨yt, yl⟩ :: Q, by go_num, by omega, by omega, ?_, ?_, ?_, hr4, hg4⟩
              · have h1 := HJ.out
                show _ = _
                simp at h1; omega
              · have h1 := HPQ.out
                show _ = _
                simpa using h1
              · intro q hq
                rcases List.mem_cons.1 hq with rfl | hq
                · exact (leO_total _ _).resolve_right HLE.out
                · exact HQ.out q hq
            case measure => simp [intOf]
        · have hd : decide ((a : Int) < (j : Int)) = false := by simp; omega
          go_wp2_with fail
          go_quiet (fail)
          go_wp2_with fail
          go_roundw
          case rel => 
            refine OUT.out _ hrj (grown_drewN hgj _) ?_
            have h1 := HJ.out
            have : P = [] := List.eq_nil_of_length_eq_zero (by omega)
            subst this
            have h2 := HS.out
            rw [HPQ.out] at h2
            exact List.pairwise_cons.2 ⟨HQ.out, h2⟩
          case measure => simp [intOf]; omega

end Go.Proofs.Ytmjcjmljnliaoaa

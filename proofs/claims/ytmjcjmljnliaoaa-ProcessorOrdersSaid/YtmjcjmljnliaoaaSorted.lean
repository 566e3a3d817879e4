/-
  sorted: a copy of a list of outputs, in order; here for lists of fewer than 20 elements, whose sort is one insertion sort.
-/
import Derived.Test.YtmjcjmljnliaoaaClone
set_option linter.unusedVariables false
namespace Go.Proofs.Ytmjcjmljnliaoaa
open Go.RowKit

theorem flat_of_chunks : ∀ {l : List Out} {cells : List Value}, cells.length = l.length * 2 → (∀ i x, l[i]? = some x → chunk 2 i cells = [.int .i64 x.to, .int .i64 x.letter]) → cells = flatO l
  | [], cells, h, _ => List.eq_nil_of_length_eq_zero (by simpa using h)
  | x :: r, [], h, _ => by simp at h
  | x :: r, [_], h, _ => by simp at h; omega
  | x :: r, a :: b :: cells, h, hc => by
    have h0 := hc 0 x rfl
    simp [chunk] at h0
    have hr := flat_of_chunks (l := r) (cells := cells) (by simp at h; omega) fun i y hy => by
      have := hc (i + 1) y (by simpa using hy)
      unfold chunk at this ⊢
      rw [show (i + 1) * 2 = i * 2 + 1 + 1 from by omega] at this
      simpa using this
    rw [h0.1, h0.2, hr]
    rfl
theorem chunks_of_flat {l : List Out} {i : Nat} {x : Out} (h : l[i]? = some x) : chunk 2 i (flatO l) = [.int .i64 x.to, .int .i64 x.letter] := by
  induction l generalizing i with
  | nil => simp at h
  | cons y r ih =>
    match i, h with
    | 0, h => simp at h; subst h; simp [chunk, flatO]
    | i + 1, h =>
      have := ih (by simpa using h)
      unfold chunk at this ⊢
      rw [show (i + 1) * 2 = i * 2 + 1 + 1 from by omega]
      simpa [flatO] using this

/-- A list of outputs that the call owns, as a row that can be sorted; and back. -/
theorem OwnS.rowO {base : Nat} {w : World} {v : Value} {l : List Out} (h : OwnS outR 2 base 80 Non w v l) (hl : l ≠ []) :
    (∀ x ∈ l, I64 x.to ∧ I64 x.letter) ∧ ∃ g cap rest, v = .slice (some ⟨g, 0, none⟩) l.length cap ∧ base ≤ g ∧ RowO w g l rest ∧
      ∀ w' l', l'.length = l.length → (∀ x ∈ l', I64 x.to ∧ I64 x.letter) → RowO w' g l' rest → OwnS outR 2 base 80 Non w' v l' := by
  obtain ⟨cells, ho, h1, hc⟩ := h
  have hcl := ho.1
  have hfl : cells = flatO l := flat_of_chunks hcl fun i x hx => (hc i x hx).1
  subst hfl
  refine ⟨fun x hx => ?_, ?_⟩
  · obtain ⟨i, hi, rfl⟩ := List.getElem_of_mem hx
    exact (hc i _ (List.getElem?_eq_getElem hi)).2
  rcases ho.2 with ⟨_, hn⟩ | ⟨g, cap, cur, rfl, hg, hh, hle, hm, hcs, htake⟩
  · exact absurd (List.eq_nil_of_length_eq_zero hn) hl
  · have hcur : cur = (flatO l ++ cur.toList.drop (l.length * 2)).toArray := by
      apply Array.toList_inj.1
      rw [← htake]
      simp
    refine ⟨g, cap, cur.toList.drop (l.length * 2), rfl, hg, by unfold RowO; rw [hh]; exact congrArg (fun c => some (Obj.cells c 80 (0, 0))) hcur, ?_⟩
    intro w' l' hl' hI hr
    refine ⟨flatO l', ⟨by rw [flatO_len], .inr ⟨g, cap, _, by rw [hl'], hg, hr, by omega, hm, ?_, ?_⟩⟩, ?_, ?_⟩
    · have h2 : cur.toList.length = cap * 2 := hcs
      rw [List.size_toArray, List.length_append, flatO_len, List.length_drop, h2, hl']
      omega
    · rw [← flatO_len l']
      exact List.take_left
    · intro u hu
      simp only [flatO, List.mem_flatMap] at hu
      obtain ⟨o, _, hu⟩ := hu
      simp at hu
      rcases hu with rfl | rfl <;> rfl
    · intro i x hx
      exact ⟨chunks_of_flat hx, hI x (List.mem_of_getElem? hx)⟩

theorem insSort_int (X M Y : List Out) (rest : List Value) (g kb ka n c : Nat) (A B : Int) (w : World) (hr : RowO w g (X ++ (M ++ Y)) rest) (hk : Keys w kb ka) (hn : Hid (n = (X ++ (M ++ Y)).length)) (hA : Hid (A = X.length)) (hB : Hid (B = X.length + M.length)) (hlen : n ≤ 1000000000000000) :
    Calls Try.prog 167 #[.slice (some ⟨g, 0, none⟩) n c, .int .i64 A, .int .i64 B, .func (.func 146) #[] #[.pointer (some ⟨kb, 0, none⟩)]] w fun e w' =>
      e = .returned (.tuple #[]) ∧ RowO w' g (X ++ (isort M ++ Y)) rest ∧ w.grownBy w' (some g) := by
  have h1 := hA.out
  have h2 := hB.out
  subst h1 h2
  have := insSort_any X M Y rest g kb ka n X.length (X.length + M.length) c w hr hk hn rfl rfl hlen
  simpa using this

theorem insSort_zero (oa : Option Addr) (c kb : Nat) (w : World) :
    Calls Try.prog 167 #[.slice oa 0 c, .int .i64 0, .int .i64 0, .func (.func 146) #[] #[.pointer (some ⟨kb, 0, none⟩)]] w fun e w' =>
      e = .returned (.tuple #[]) ∧ w = w' := by
  go_enter Try.func167, Try.ntmps167
  go_wp2_with fail
  refine wp_loop_rounds 1 ?_
  rw [rounds_succ]
  go_wp2_with fail
  go_end0
  exact ⟨rfl, rfl⟩

def StableUpto (N : Nat) : Prop := ∀ (d : List Out) (rest : List Value) (g kb ka c : Nat) (w : World), RowO w g d rest → Keys w kb ka → d.length ≤ N →
  Calls Try.prog 161 #[.slice (some ⟨g, 0, none⟩) d.length c, .int .i64 d.length, .func (.func 146) #[] #[.pointer (some ⟨kb, 0, none⟩)]] w fun e w' =>
    e = .returned (.tuple #[]) ∧ RowO w' g (isort d) rest ∧ w.grownBy w' (some g)

set_option maxHeartbeats 400000 in
theorem stable_zero (oa : Option Addr) (c kb : Nat) (w : World) :
    Calls Try.prog 161 #[.slice oa 0 c, .int .i64 0, .func (.func 146) #[] #[.pointer (some ⟨kb, 0, none⟩)]] w fun e w' =>
      e = .returned (.tuple #[]) ∧ w = w' := by
  go_enter Try.func161, Try.ntmps161
  go_wp2_with fail
  refine wp_loop_rounds 1 ?_
  rw [rounds_succ]
  go_wp2_with fail
  refine (insSort_zero _ _ _ _).mono ?_
  rintro e w' ⟨rfl, rfl⟩
  go_wp2_with fail
  refine wp_loop_rounds 1 ?_
  rw [rounds_succ]
  go_wp2_with fail
  go_end0
  exact ⟨rfl, rfl⟩

set_option maxHeartbeats 400000 in
theorem stable_small : StableUpto 19 := by
  intro d rest g kb ka c w hr hk hd
  go_enter Try.func161, Try.ntmps161
  go_wp2_with fail
  refine wp_loop_rounds 1 ?_
  rw [rounds_succ]
  go_wp2_with fail
  refine (insSort_int [] d [] rest g kb ka _ c 0 _ w (by simpa using hr) hk (by show _ = _; simp) rfl (by show _ = _; simp) (by omega)).mono ?_
  rintro e w2 ⟨rfl, hr2, hg2⟩
  go_wp2_with fail
  refine wp_loop_rounds 1 ?_
  rw [rounds_succ]
  go_wp2_with fail
  go_end0
  exact ⟨rfl, by simpa using hr2, hg2⟩

theorem ssf_zero (oa : Option Addr) (c kb : Nat) (w : World) :
    Calls Try.prog 145 #[.slice oa 0 c, .func (.func 146) #[] #[.pointer (some ⟨kb, 0, none⟩)]] w fun e w' =>
      e = .returned (.tuple #[]) ∧ w = w' := by
  go_enter Try.func145, Try.ntmps145
  go_wp2_with fail
  refine (stable_zero _ _ _ _).mono ?_
  rintro e w' ⟨rfl, rfl⟩
  go_wp2_with fail
  go_end0
  exact ⟨rfl, rfl⟩
theorem ssf_of {N : Nat} (H : Hid (StableUpto N)) (d : List Out) (rest : List Value) (g kb ka c : Nat) (w : World) (hr : RowO w g d rest) (hk : Keys w kb ka) (hd : d.length ≤ N) :
    Calls Try.prog 145 #[.slice (some ⟨g, 0, none⟩) d.length c, .func (.func 146) #[] #[.pointer (some ⟨kb, 0, none⟩)]] w fun e w' =>
      e = .returned (.tuple #[]) ∧ RowO w' g (isort d) rest ∧ w.grownBy w' (some g) := by
  go_enter Try.func145, Try.ntmps145
  go_wp2_with fail
  refine (H.out d rest g kb ka c w hr hk hd).mono ?_
  rintro e w' ⟨rfl, h1, h2⟩
  go_wp2_with fail
  go_end0
  exact ⟨rfl, h1, h2⟩

def SortedUpto (N : Nat) : Prop := ∀ (l : List Out) (oa : Option Addr) (c : Nat) (F : Foot) (w : World), SliceR outR 2 F w oa l → l.length ≤ c → l.length ≤ N →
  Calls Try.prog 83 #[.slice oa l.length c] w fun e w' => ∃ v, e = .returned v ∧ OwnS outR 2 w.heap.size 80 Non w' v (isort l) ∧ Below w.heap.size w w'

set_option maxHeartbeats 1000000 in
theorem ordered_of {N : Nat} (H : StableUpto N) (hN : N ≤ 1000000000000) (l : List Out) (oa : Option Addr) (c ka : Nat) (F : Foot) (w : World) (hs : SliceR outR 2 F w oa l) (hc : l.length ≤ c) (hl : l.length ≤ N)
    (hka : w.heap[ka]? = some (.cells #[keyF 126, keyF 127] 160 (0, 0))) :
    Calls Try.prog 125 #[.slice oa l.length c, .slice (some ⟨ka, 0, none⟩) 2 2] w fun e w' => ∃ v, e = .returned v ∧ OwnS outR 2 w.heap.size 80 Non w' v (isort l) ∧ Below w.heap.size w w' := by
  have HH := hide H
  clear H
  have hkal : ka < w.heap.size := (Array.getElem?_eq_some_iff.1 hka).1
  have HK := hide hka
  clear hka
  go_enter Try.func125, Try.ntmps125
  go_wp2_with fail
  refine (cloneOut_any l oa c F _ (hs.below outR_ok (bnew (Below.refl _ _) _)) hc (by omega)).mono ?_
  rintro e w2 ⟨v, rfl, ho, hb2⟩
  have hx2 := hb2.mono (B' := w.heap.size + 1) (by simp)
  have hkeys : Keys w2 w.heap.size ka := by
    refine ⟨?_, ?_⟩
    · rw [hx2.block _ (by omega)]; exact heap_alloc_new w _
    · rw [hx2.block _ (by omega), Below.heap_alloc _ _ _ hkal]; exact HK.out
  have ho1 := ho.rebase (base' := w.heap.size) (by simp)
  clear ho hb2
  by_cases hnil : l = []
  · subst hnil
    obtain ⟨oa', c', rfl, _, _⟩ := ho1.slice outR_ok
    go_wp2_with fail
    refine (ssf_zero _ _ _ _).mono ?_
    rintro e w' ⟨rfl, rfl⟩
    go_wp2_with fail
    go_ret
    exact ⟨_, rfl, ho1, below_box hx2⟩
  · obtain ⟨hI, g, cap, rest, rfl, hg, hr, hback⟩ := ho1.rowO hnil
    have HBK := hide hback
    clear hback
    go_wp2_with fail
    refine (ssf_of HH l rest g _ ka cap _ hr hkeys hl).mono ?_
    rintro e w3 ⟨rfl, hr3, hg3⟩
    go_wp2_with fail
    go_ret
    refine ⟨_, rfl, HBK.out w3 (isort l) (isort_length l) (fun x hx => hI x ((isort_perm l).mem_iff.1 hx)) hr3, ?_⟩
    exact (below_box hx2).grown hg3 (below_box hx2).size (fun k hk => by injection hk with hk; omega)

theorem sorted_of {N : Nat} (H : StableUpto N) (hN : N ≤ 1000000000000) : SortedUpto N := by
  intro l oa c F w hs hc hl
  have HH := hide H
  clear H
  go_enter Try.func83, Try.ntmps83
  go_wp2_with fail
  have hka : (w.alloc (.cells #[keyF 126, keyF 127] 160)).heap[w.heap.size]? = some (.cells #[keyF 126, keyF 127] 160 (0, 0)) := heap_alloc_new w _
  refine (ordered_of HH.out hN l oa c w.heap.size F _ (hs.below outR_ok (bnew (Below.refl _ _) _)) hc hl hka).mono ?_
  rintro e w2 ⟨v, rfl, ho, hb2⟩
  go_wp2_with fail
  go_ret
  exact ⟨v, rfl, ho.rebase (by simp), below_then (bnew (Below.refl _ _) _) hb2⟩

theorem sorted_small : SortedUpto 19 := sorted_of stable_small (by omega)

end Go.Proofs.Ytmjcjmljnliaoaa

/-
  A row of the call's own, one cell an element, that is known whole: read, written in place. No program is named here.
-/
import Derived.Test.YtmjcjmljnliaoaaOwn
import Derived.OwnWalk
set_option linter.unusedVariables false
namespace Go.Proofs.Ytmjcjmljnliaoaa
open Go.RowKit

/-- Block g holds f of xs, and behind them rest. -/
def Row1 {α : Type} (f : α → Value) (w : World) (g : Nat) (e : TypeId) (xs : List α) (rest : List Value) : Prop := w.heap[g]? = some (.cells (xs.map f ++ rest).toArray e (0, 0))

section
variable {α : Type} {f : α → Value} {w w' : World} {g : Nat} {e : TypeId} {xs : List α} {rest : List Value}
theorem Row1.lt (h : Row1 f w g e xs rest) : g < w.heap.size := (Array.getElem?_eq_some_iff.1 h).1
theorem Row1.cell (h : Row1 f w g e xs rest) {i : Nat} {x : α} (hi : xs[i]? = some x) : w.cell? ⟨g, i, none⟩ = some (f x) := by
  have hl : i < xs.length := (List.getElem?_eq_some_iff.1 hi).1
  rw [cell_of_row w g _ _ _ _ h]
  simp only [List.getElem?_toArray]
  rw [List.getElem?_append_left (by simpa using hl), List.getElem?_map, hi]
  rfl
theorem Row1.free (h : Row1 f w g e xs rest) (i : Nat) : w.frozen? ⟨g, i, none⟩ = false := frozen_of_row w g i _ _ h
theorem Row1.keep (h : Row1 f w g e xs rest) (hb : w'.heap[g]? = w.heap[g]?) : Row1 f w' g e xs rest := hb.trans h
theorem Row1.below (h : Row1 f w g e xs rest) (hb : Below w.heap.size w w') : Row1 f w' g e xs rest := h.keep (hb.block g h.lt)
theorem Row1.new (h : Row1 f w g e xs rest) (o : Obj) : Row1 f (w.alloc o) g e xs rest := h.below (bnew (Below.refl _ _) o)
theorem Row1.draw (h : Row1 f w g e xs rest) : Row1 f w.drew g e xs rest := h
theorem heap_set1 (w : World) (g i : Nat) (l : List Value) (e : TypeId) (u : Value) (h : w.heap[g]? = some (.cells l.toArray e (0, 0))) : (w.setCell ⟨g, i, none⟩ u).heap[g]? = some (.cells (l.set i u).toArray e (0, 0)) := by
  simp [World.setCell, Array.getElem?_modify, h]
theorem Row1.put (h : Row1 f w g e xs rest) {i : Nat} (hi : i < xs.length) (y : α) : Row1 f (w.setCell ⟨g, i, none⟩ (f y)) g e (xs.set i y) rest := by
  unfold Row1
  rw [heap_set1 w g i _ e _ h, List.set_append_left _ _ (by simpa using hi), List.map_set]
/-- A store into another block. -/
theorem Row1.other (h : Row1 f w g e xs rest) {p : Addr} (hp : g ≠ p.block) (u : Value) : Row1 f (w.setCell p u) g e xs rest := h.keep (Below.heap_setCell w p u g hp)
theorem Row1.of (cur : List Value) (h : w.heap[g]? = some (.cells cur.toArray e (0, 0))) (hx : xs.map f = cur.take xs.length) : Row1 f w g e xs (cur.drop xs.length) := by
  unfold Row1
  rw [hx, List.take_append_drop]
  exact h
theorem Row1.own (h : Row1 f w g e xs rest) (hone : ∀ x, (f x).cells = #[f x]) {base cap : Nat} (hg : base ≤ g) (hc : cap = xs.length + rest.length) (hm : cap ≤ maxLen) :
    w.ownsRow base e 1 (.slice (some ⟨g, 0, none⟩) xs.length cap) xs.length (xs.map f) :=
  ⟨by simp, .inr ⟨g, cap, _, rfl, hg, h, by omega, hm, by simp; omega, by simp⟩⟩
end

section
variable {w w' : World} {g base : Nat} {e : TypeId} {F : Foot} {rest : List Value} {v : Value}
theorem Row1.ints {xs : List Int} (h : Row1 (Value.int .i64) w g e xs rest) (hx : ∀ x ∈ xs, I64 x) (hF : F g) : SliceR intR 1 F w (some ⟨g, 0, none⟩) xs := by
  intro i x hi
  refine ⟨g, 0, [.int .i64 x], rfl, hF, ⟨rfl, hx x (List.mem_of_getElem? hi)⟩, fun j u hu => ?_⟩
  have hj : j = 0 := by
    have := (List.getElem?_eq_some_iff.1 hu).1
    simp at this
    exact this
  subst hj
  simp at hu
  subst hu
  simpa using h.cell hi
theorem Row1.bools {xs : List Bool} (h : Row1 Value.bool w g e xs rest) (hF : F g) : SliceR boolR 1 F w (some ⟨g, 0, none⟩) xs := by
  intro i x hi
  refine ⟨g, 0, [.bool x], rfl, hF, rfl, fun j u hu => ?_⟩
  have hj : j = 0 := by
    have := (List.getElem?_eq_some_iff.1 hu).1
    simp at this
    exact this
  subst hj
  simp at hu
  subst hu
  simpa using h.cell hi
/-- A row of ints that append made (or grew), known whole. -/
theorem OwnS.row {xs : List Int} (h : OwnS intR 1 base e F w v xs) (hne : xs ≠ []) : ∃ g cap rest, v = .slice (some ⟨g, 0, none⟩) xs.length cap ∧ base ≤ g ∧ cap = xs.length + rest.length ∧ cap ≤ maxLen ∧ Row1 (Value.int .i64) w g e xs rest ∧ ∀ x ∈ xs, I64 x := by
  obtain ⟨cells, ho, h1, hc⟩ := h
  have hcells : cells = xs.map (Value.int .i64) := by
    have hl := ho.1
    apply List.ext_getElem?
    intro i
    rw [List.getElem?_map]
    rcases Nat.lt_or_ge i xs.length with hi | hi
    · have h2 := (hc i _ (List.getElem?_eq_getElem hi)).1
      rw [List.getElem?_eq_getElem hi]
      have h3 := congrArg (fun l => l[0]?) h2
      simp only [chunk, Nat.mul_one] at h3
      rw [List.getElem?_take_of_lt (by omega), List.getElem?_drop] at h3
      simpa using h3
    · rw [List.getElem?_eq_none (by omega), List.getElem?_eq_none (by omega)]
      rfl
  have h64 : ∀ x ∈ xs, I64 x := fun x hx => by
    obtain ⟨i, hi, rfl⟩ := List.getElem_of_mem hx
    exact (hc i _ (List.getElem?_eq_getElem hi)).2
  rcases ho.2 with ⟨_, hn⟩ | ⟨g, cap, cur, rfl, hg, hh, hle, hcm, hcs, htake⟩
  · exact absurd (List.eq_nil_of_length_eq_zero hn) hne
  · refine ⟨g, cap, cur.toList.drop xs.length, rfl, hg, by simp; omega, hcm, Row1.of cur.toList hh ?_, h64⟩
    rw [← hcells, ← htake, Nat.mul_one]
/-- Back. -/
theorem Row1.ownInts {xs : List Int} (h : Row1 (Value.int .i64) w g e xs rest) (hx : ∀ x ∈ xs, I64 x) {cap : Nat} (hg : base ≤ g) (hc : cap = xs.length + rest.length) (hm : cap ≤ maxLen) :
    OwnS intR 1 base e F w (.slice (some ⟨g, 0, none⟩) xs.length cap) xs := by
  refine ⟨xs.map (Value.int .i64), h.own (fun _ => rfl) hg hc hm, ?_, ?_⟩
  · intro u hu
    obtain ⟨x, _, rfl⟩ := List.mem_map.1 hu
    rfl
  · intro i x hi
    refine ⟨?_, hx x (List.mem_of_getElem? hi)⟩
    have hl : i < xs.length := (List.getElem?_eq_some_iff.1 hi).1
    apply List.ext_getElem?
    intro j
    unfold chunk
    match j with
    | 0 =>
      rw [List.getElem?_take_of_lt (by omega), List.getElem?_drop, List.getElem?_map]
      simp [hi]
    | j + 1 => rw [List.getElem?_eq_none (by simp; omega), List.getElem?_eq_none (by simp)]
theorem grown_row {w w' : World} {g : Nat} {o : Option Nat} (hg : w.grownBy w' o) (h : some g ≠ o) (hlt : g < w.heap.size) : w'.heap[g]? = w.heap[g]? := hg.block g hlt h
end

/-- make([]T, n): a row of n zeros. -/
theorem wpList_make_row {α : Type} {f : α → Value} {P : Program} (w : World) {ops : Array Oper} {rest : List Oper} {o : Oper} {a : Act} {Q : Exit → Act → World → Prop}
    (hg : o.guard = none) (l c : Operand) (t : TypeId) (hop : o.op = Op.makeSlice t l c) (e : TypeId) (x0 : α) (bytes : Nat) (h1 : P.underlying t = some (.slice e)) (hinfo : (P.info? e).map (fun i => (i.zero, i.size, i.bytes)) = some (some (f x0), 1, bytes))
    (hone : (f x0).cells = #[f x0]) (kl kc : IntKind) (L C : Int) (n : Nat) (hl : a.eval l = .int kl L) (hc : a.eval c = .int kc C) (hL : L = (n : Int)) (hC : C = (n : Int)) (b2 : bytes * n ≤ 281474976710656) (b3 : n ≤ maxLen)
    (hK : ∀ w', Row1 f w' w.heap.size e (List.replicate n x0) [] → Below w.heap.size w w' → w.grownBy w' none → wpList P ops Q rest (a.put o.dst (.slice (some ⟨w.heap.size, 0, none⟩) n n)) w') :
    wpList P ops Q (o :: rest) a w := by
  obtain ⟨i0, hi, hz0, hz1, hz2⟩ := info_parts hinfo
  refine wpList_make_full w hg l c t hop w.heap.size e i0 (f x0) 1 h1 hi hz0 hz1 kl kc L C n hl hc hL hC (by rw [hz2]; exact b2) b3 (Nat.le_refl _) fun w' hown hgr => hK w' ?_ ((Below.refl _ _).grown hgr (Nat.le_refl _) fun k hk => by cases hk) hgr
  rcases hown.2 with ⟨he, _⟩ | ⟨g, cap, cur, he, _, hh, _, _, hcs, htake⟩
  · cases he
  · injection he with e1 e2 e3
    injection e1 with e1
    injection e1 with e1
    subst e1 e3
    have hcur : cur.toList = (List.replicate n x0).map f ++ [] := by
      rw [List.append_nil, List.map_replicate]
      rw [← List.take_of_length_le (l := cur.toList) (i := n * 1) (by simp; omega), htake]
      apply List.ext_getElem?
      intro j
      simp only [Array.getElem?_toList, madeCells, Array.getElem?_map, Array.getElem?_range, List.getElem?_replicate, hone]
      by_cases hj : j < n
      · simp [hj, Nat.mod_one]
      · simp [hj]
    unfold Row1
    rw [← hcur]
    exact hh

end Go.Proofs.Ytmjcjmljnliaoaa

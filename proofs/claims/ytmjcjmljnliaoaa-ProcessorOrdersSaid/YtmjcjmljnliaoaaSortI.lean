/-
  slices.Sort at a list of integers that the call made.
-/
import Derived.Test.YtmjcjmljnliaoaaQueue
import Derived.Test.YtmjcjmljnliaoaaShelf
import Derived.Sort.OwnSortedInts
set_option linter.unusedVariables false
namespace Go.Proofs.Ytmjcjmljnliaoaa
open Go.RowKit Go.Sort

theorem sortI_any (base : Nat) (e : TypeId) (v : Value) (xs : List Int) (w : World) (hown : OwnQ base e w v xs) (hlen : xs.length ≤ 1000000000) :
    Calls Try.prog 110 #[v] w fun e' w' => e' = .returned (.tuple #[]) ∧ OwnQ base e w' v (xs.mergeSort fun x y => decide (x ≤ y)) ∧ w.grownBy w' v.ownBlock := by
  have h0 := hown
  obtain ⟨g, o, cap, cur, rfl, h1, h2, h3, h4, h5, h6, h7⟩ := hown
  have hg : g < w.heap.size := (Array.getElem?_eq_some_iff.1 h2).1
  have hH : Holds (Value.int .i64) w g o xs.toArray := by
    intro j hj
    have hj' : j < xs.length := by simpa using hj
    refine ⟨?_, by simp [World.frozen?, h2]⟩
    rw [h0.get rfl j _ (List.getElem?_eq_getElem hj')]
    simp [hj']
  refine (Try.slices_Sort_int g o cap xs w hH hg (by omega)).mono ?_
  rintro e' w' ⟨rfl, n, os, rfl⟩
  generalize hts : (xs.mergeSort fun x y => decide (x ≤ y)) = ts
  have hl : ts.length = xs.length := by rw [← hts]; exact List.length_mergeSort _
  have hm : ∀ x ∈ ts, I64 x := fun x hx => h7 x (by rw [← hts] at hx; exact (List.mergeSort_perm xs _).mem_iff.1 hx)
  refine ⟨rfl, ⟨g, o, cap, putCells (Value.int .i64) o ts.toArray cur, by rw [hl], h1, ?_, by omega, h4, by simp [putCells]; exact h5, ?_, hm⟩, ?_⟩
  · rw [heap_grow_old _ _ (by simpa [putRow, mapBlock, Sort.ahead] using hg)]
    simp [putRow, mapBlock, Sort.ahead, Array.getElem?_modify, h2, onCells]
  · apply List.ext_getElem?
    intro j
    by_cases hj : j < ts.length
    · rw [List.getElem?_take_of_lt hj, List.getElem?_drop, Array.getElem?_toList]
      simp [putCells, hj, show o + j < cur.size by omega]
    · rw [List.getElem?_take_eq_none (by omega), List.getElem?_eq_none (by simp; omega)]
  · refine ⟨rfl, rfl, rfl, by simp [grow, putRow, mapBlock, Sort.ahead], fun k hk hne => ?_⟩
    rw [heap_grow_old _ _ (by simpa [putRow, mapBlock, Sort.ahead] using hk)]
    have : g ≠ k := fun e => hne (by simp [Value.ownBlock, e])
    simp [putRow, mapBlock, Sort.ahead, Array.getElem?_modify, this]

end Go.Proofs.Ytmjcjmljnliaoaa

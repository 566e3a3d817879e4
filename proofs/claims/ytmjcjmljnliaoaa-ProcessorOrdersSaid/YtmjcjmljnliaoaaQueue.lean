/-
  A list of integers that the call made and from whose front it takes: 'work = work[1:]', 'work = append(work, x)'.
-/
import Derived.Test.YtmjcjmljnliaoaaOwn
import Derived.ArgAppend
set_option linter.unusedVariables false
namespace Go.Proofs.Ytmjcjmljnliaoaa
open Go.RowKit

/-- v is a part, from some place on to the end, of a row of the call's own, and holds xs. -/
def OwnQ (base : Nat) (e : TypeId) (w : World) (v : Value) (xs : List Int) : Prop :=
  ∃ g o cap cur, v = .slice (some ⟨g, o, none⟩) xs.length cap ∧ base ≤ g ∧ w.heap[g]? = some (.cells cur e (0, 0)) ∧ xs.length ≤ cap ∧ cap ≤ maxLen ∧ o + cap ≤ cur.size ∧ (cur.toList.drop o).take xs.length = xs.map (Value.int .i64) ∧ ∀ x ∈ xs, I64 x

section
variable {base : Nat} {e : TypeId} {w w' : World} {v : Value} {xs : List Int}

theorem OwnQ.block (h : OwnQ base e w v xs) : ∀ g, v.ownBlock = some g → base ≤ g ∧ g < w.heap.size := by
  obtain ⟨g, o, cap, cur, rfl, h1, h2, _⟩ := h
  intro k hk
  simp [Value.ownBlock] at hk
  subst hk
  exact ⟨h1, (Array.getElem?_eq_some_iff.1 h2).1⟩

theorem OwnQ.keep (h : OwnQ base e w v xs) (hb : ∀ g, v.ownBlock = some g → w'.heap[g]? = w.heap[g]?) : OwnQ base e w' v xs := by
  obtain ⟨g, o, cap, cur, rfl, h1, h2, h3⟩ := h
  exact ⟨g, o, cap, cur, rfl, h1, by rw [hb g rfl]; exact h2, h3⟩
theorem OwnQ.below (h : OwnQ base e w v xs) (hb : Below w.heap.size w w') : OwnQ base e w' v xs :=
  h.keep fun g hg => hb.block g (h.block g hg).2
theorem OwnQ.new (h : OwnQ base e w v xs) (o : Obj) : OwnQ base e (w.alloc o) v xs := h.below (bnew (Below.refl _ _) o)

theorem OwnQ.rebase {base' : Nat} (h : OwnQ base e w v xs) (hb : base' ≤ base) : OwnQ base' e w v xs := by
  obtain ⟨g, o, cap, cur, rfl, h1, h2⟩ := h
  exact ⟨g, o, cap, cur, rfl, by omega, h2⟩
/-- The list of ints that a literal lays. -/
theorem OwnQ.lit (w : World) (e : TypeId) (xs : List Int) (h : ∀ x ∈ xs, I64 x) (hl : xs.length ≤ 1000000000000) :
    OwnQ w.heap.size e (w.alloc (.cells (xs.map (Value.int .i64)).toArray e)) (.slice (some ⟨w.heap.size, 0, none⟩) xs.length xs.length) xs :=
  ⟨w.heap.size, 0, xs.length, _, rfl, Nat.le_refl _, heap_alloc_new w _, Nat.le_refl _, by unfold maxLen; omega, by simp, by simp [List.take_of_length_le], h⟩

theorem OwnQ.get (h : OwnQ base e w v xs) {g o cap : Nat} (hv : v = .slice (some ⟨g, o, none⟩) xs.length cap) : ∀ (i : Nat) (x : Int), xs[i]? = some x → w.cell? ⟨g, o + i, none⟩ = some (.int .i64 x) := by
  obtain ⟨g', o', cap', cur, hv', h1, h2, h3, h4, h5, h6, h7⟩ := h
  rw [hv] at hv'
  injection hv' with e1 e2 e3
  injection e1 with e1
  injection e1 with e4 e5
  subst e4 e5
  intro i x hx
  have hi : i < xs.length := (List.getElem?_eq_some_iff.1 hx).1
  have h8 := congrArg (fun l => l[i]?) h6
  simp only [List.getElem?_map, hx, Option.map_some] at h8
  rw [List.getElem?_take_of_lt hi, List.getElem?_drop] at h8
  rw [cell_of_row w g _ cur e (0, 0) h2, ← Array.getElem?_toList]
  exact h8

theorem OwnQ.slice (h : OwnQ base e w v xs) : ∃ oa c, v = .slice oa xs.length c ∧ xs.length ≤ c ∧ SliceR intR 1 (fun k => base ≤ k) w oa xs := by
  have h0 := h
  obtain ⟨g, o, cap, cur, rfl, h1, h2, h3, h4, h5, h6, h7⟩ := h
  refine ⟨_, cap, rfl, h3, fun i x hx => ⟨g, o, [.int .i64 x], rfl, h1, ⟨rfl, h7 x (List.mem_of_getElem? hx)⟩, fun j u hu => ?_⟩⟩
  have hj : j = 0 := by
    have := (List.getElem?_eq_some_iff.1 hu).1
    simp at this
    exact this
  subst hj
  simp at hu
  subst hu
  have := h0.get rfl i x hx
  simpa using this

/-- The first element, and what is left. -/
theorem OwnQ.head {x : Int} {r : List Int} (h : OwnQ base e w v (x :: r)) : ∃ g o cap, v = .slice (some ⟨g, o, none⟩) (r.length + 1) (cap + 1) ∧ base ≤ g ∧ g < w.heap.size ∧ r.length ≤ cap ∧ cap + 1 ≤ maxLen ∧ w.cell? ⟨g, o, none⟩ = some (.int .i64 x) ∧ I64 x ∧
    OwnQ base e w (.slice (some (if cap = 0 then ⟨g, o, none⟩ else ⟨g, o + 1, none⟩)) r.length cap) r := by
  have h0 := h
  obtain ⟨g, o, cap, cur, rfl, h1, h2, h3, h4, h5, h6, h7⟩ := h
  simp only [List.length_cons] at h3
  obtain ⟨cap, rfl⟩ : ∃ k, cap = k + 1 := ⟨cap - 1, by omega⟩
  have hx := h0.get rfl 0 x rfl
  refine ⟨g, o, cap, rfl, h1, (Array.getElem?_eq_some_iff.1 h2).1, by omega, h4, by simpa using hx, h7 x (by simp), ?_⟩
  by_cases hc : cap = 0
  · subst hc
    have hr : r = [] := List.eq_nil_of_length_eq_zero (by omega)
    subst hr
    exact ⟨g, o, 0, cur, by simp, h1, h2, by simp, by simp, by omega, by simp, by simp⟩
  · refine ⟨g, o + 1, cap, cur, by simp [hc], h1, h2, by omega, by omega, by omega, ?_, fun y hy => h7 y (by simp [hy])⟩
    have h8 := congrArg (List.drop 1) h6
    rw [List.drop_take, List.drop_drop] at h8
    simpa using h8

theorem run_append_q {P : Program} (t ty : TypeId) (i : TypeInfo) (z : Value) (ht : P.underlying t = some (.slice e)) (hi : P.info? e = some i) (hz : i.zero = some z)
    (hsize : i.size = 1) (hby : i.bytes = 8) (hzs : z.cells.size = 1) (h : OwnQ base e w v xs)
    (ad : Addr) (c : Nat) (x : Int) (hx : w.cell? (ad.add 0) = some (.int .i64 x)) (ix : I64 x) (hn : xs.length + 1 ≤ 1000000000) (hbase : base ≤ w.heap.size) :
    ∃ v' w', (Builtin.append_ #[t, t] ty #[v, .slice (some ad) 1 c]).run P w = .ok v' w' ∧ OwnQ base e w' v' (xs ++ [x]) ∧ w.grownBy w' v.ownBlock ∧ (∀ k, v'.ownBlock = some k → v.ownBlock = some k ∨ w.heap.size ≤ k) := by
  have h0 := h
  obtain ⟨g, o, cap, cur, rfl, h1, h2, h3, h4, h5, h6, h7⟩ := h
  have hg : g < w.heap.size := (Array.getElem?_eq_some_iff.1 h2).1
  have h7' : ∀ y ∈ xs ++ [x], I64 y := by
    intro y hy
    rcases List.mem_append.1 hy with hy | hy
    · exact h7 y hy
    · simp at hy; subst hy; exact ix
  by_cases hroom : xs.length + 1 ≤ cap
  · have hr := run_append_room_cells (P := P) (w := w) t ty e i ht hi g o xs.length cap ad 1 c [.int .i64 x] (by simp [hsize]) (fun j u hu => by
        have hj : j = 0 := by
          have := (List.getElem?_eq_some_iff.1 hu).1
          simp at this
          exact this
        subst hj
        simp at hu
        subst hu
        exact hx) (by simp [Value.oneCell']) hroom (fun j hj => by
        simp at hj
        subst hj
        rw [cell_of_row w g _ cur e (0, 0) h2, hsize]
        have : o + xs.length * 1 + 0 < cur.size := by omega
        simp; omega) (fun j _ => frozen_of_row w g _ cur e h2)
    rw [hsize] at hr
    refine ⟨_, _, hr, ?_, ?_, fun k hk => .inl hk⟩
    · have hlt : o + xs.length < cur.size := by omega
      have hh : (w.setCells g (o + xs.length * 1) [.int .i64 x]).heap[g]? = some (.cells (cur.set! (o + xs.length) (.int .i64 x)) e (0, 0)) := by
        simp [World.setCells, World.setCell, Array.getElem?_modify, h2]
      refine ⟨g, o, cap, _, by simp, h1, hh, by simpa using hroom, h4, by simpa using h5, ?_, h7'⟩
      have hl6 := congrArg List.length h6
      simp at hl6
      apply List.ext_getElem?
      intro j
      have h6j := congrArg (fun l => l[j]?) h6
      simp only [List.map_append, List.map_cons, List.map_nil, List.length_append, List.length_cons, List.length_nil]
      rcases Nat.lt_trichotomy j xs.length with hj | hj | hj
      · rw [List.getElem?_take_of_lt (by omega), List.getElem?_drop, List.getElem?_append_left (by simpa using hj), ← h6j]
        rw [List.getElem?_take_of_lt hj, List.getElem?_drop]
        simp [show ¬ (xs.length = j) from by omega]
      · subst hj
        rw [List.getElem?_take_of_lt (by omega), List.getElem?_drop, List.getElem?_append_right (by simp)]
        simp [hlt]
      · rw [List.getElem?_eq_none (by simp; omega), List.getElem?_eq_none (by simp; omega)]
    · refine ⟨rfl, rfl, rfl, by simp [World.setCells], fun k _ hne => ?_⟩
      have : ¬ (g = k) := fun he => hne (by simp [Value.ownBlock, he])
      simp [World.setCells, World.setCell, Array.getElem?_modify, this]
  · have hr := run_append_grow (P := P) w t ty e i z ht hi hz ⟨g, o, none⟩ xs.length cap (xs.map (Value.int .i64)) (by simp [hsize]) (fun j u hu => by
        rw [List.getElem?_map, Option.map_eq_some_iff] at hu
        obtain ⟨y, hy, rfl⟩ := hu
        rw [Addr.add_lit]
        exact h0.get rfl j y hy) ad 1 c [.int .i64 x] (by simp [hsize]) (fun j u hu => by
        have hj : j = 0 := by
          have := (List.getElem?_eq_some_iff.1 hu).1
          simp at this
          exact this
        subst hj
        simp at hu
        subst hu
        exact hx) (by omega) (by omega) (growslice_fits (by omega) (by rw [hby]; omega))
    have hge := grownCap_ge w (xs.length + 1) cap e
    have hcm : grownCap w (xs.length + 1) cap e ≤ maxLen := grownCap_le_maxLen w (xs.length + 1) cap e (by unfold maxLen; omega)
    refine ⟨_, _, hr, ⟨w.heap.size, 0, _, _, by simp, hbase, heap_alloc_new w.drew _, by simpa using hge, hcm, ?_, ?_, h7'⟩, ⟨rfl, rfl, rfl, by simp, fun k hk _ => heap_alloc_old w.drew _ hk⟩, fun k hk => .inr (by simp [Value.ownBlock] at hk; omega)⟩
    · simp only [Array.size_append, List.size_toArray, size_zeroCells, hzs]
      simp
      omega
    · simp only [Array.toList_append, List.drop_zero, List.length_append, List.length_cons, List.length_nil, List.map_append, List.map_cons, List.map_nil]
      rw [show xs.length + (0 + 1) = (xs.map (Value.int .i64) ++ [Value.int .i64 x]).length from by simp]
      exact List.take_left
end

/-- The arm for 'work = append(work, x)'. -/
theorem wpList_append_q {P : Program} {w : World} {ops : Array Oper} {rest : List Oper} {o : Oper} {a : Act} {Q : Exit → Act → World → Prop} (hgd : o.guard = none) (s y : Operand) (t : TypeId)
    (ho : o.op = .call { callee := .builtin .append, args := #[s, y], argTypes := #[t, t] })
    (base : Nat) (e : TypeId) (z : Value) (ht : P.underlying t = some (.slice e)) (hinfo : (P.info? e).map (fun i => (i.zero, i.size, i.bytes)) = some (some z, 1, 8))
    (hzs : z.cells.size = 1) (v : Value) (xs : List Int) (hs : a.eval s = v) (hown : OwnQ base e w v xs)
    (ad : Addr) (c : Nat) (x : Int) (hy : a.eval y = .slice (some ad) 1 c) (hx : w.cell? (ad.add 0) = some (.int .i64 x)) (ix : I64 x) (hn : xs.length + 1 ≤ 1000000000) (hbase : base ≤ w.heap.size)
    (h : ∀ v' w', OwnQ base e w' v' (xs ++ [x]) → Below base w w' → w.grownBy w' v.ownBlock → (∀ k, v'.ownBlock = some k → v.ownBlock = some k ∨ w.heap.size ≤ k) → wpList P ops Q rest (a.put o.dst v') w') : wpList P ops Q (o :: rest) a w := by
  obtain ⟨i0, hi, hz0, hz1, hz2⟩ := info_parts hinfo
  refine wpList_plain hgd fun _ hK => ?_
  obtain ⟨v', w', hrun, h2, h3, h4⟩ := run_append_q (P := P) t o.type i0 z ht hi hz0 hz1 hz2 hzs hown ad c x hx ix hn hbase
  have hb : Below base w w' := (Below.refl base w).grown h3 hbase fun k hk => (hown.block k hk).1
  unfold Oper.wp execOp
  simp only [ho, resolve, invoke, builtin, Sem.run_bind, Sem.run_pure, Result.andThen_ok, List.map_toArray, List.map_cons, List.map_nil, hs, hy, hrun]
  exact hK _ _ (h v' w' h2 hb h3 h4)

end Go.Proofs.Ytmjcjmljnliaoaa

/-
  The forest of a graph: root, join, grown, joined.
  A list of integers that the call made and from whose front it takes: 'work = work[1:]', 'work = append(work, x)'.
  A list of integers of the call's own, nil or not; many such lists side by side. No program is named here.
  A slice of the call's own whose elements are lists of integers of the call's own, no two in one block. No program is named here.
  The parts of a forest: how many there are.
  The half-edges at each vertex.
  The reference's Size, Half, At, Valence, Degree.
  slices.Clone of ints.
  ref01.digits at canonical integers.
  ref01.text.
  ref01.added.
  ref01.taken.
  ref01.multiplied.
  ref01: Minus, Turned, Positive, Plus, Less, Times, Order.
  ref01.divided.
  ref01: Down, Rest, Common.
  ref01.Check.
  ref01.Few; ref02.Check.
  ref02.Check.
  ref02: Lowest, Turned.
  ref02: Plus, Times, By, Less, Order, crossed. Printed by mkRefF3.py.
  ref01.Of. Printed by mkRefOf.py.
-/
import Derived.Test.YthpknfoahimopaaGreatDoorF3
import Derived.ArgAppend
import Derived.Laws.OwnMore
import Derived.Maps.AppendAt
import Derived.Maps.OwnOps
import Derived.OneCell
import Derived.Deep.RegionLaw
import Derived.Lib.SmallJoins
import Derived.Deep.AppendLies
import Derived.Outline
import Derived.Deep.RegionHeld3
import Derived.Lib.SlBytesRow

set_option linter.unusedVariables false
set_option linter.unusedSimpArgs false
namespace Go.Proofs.YthpknfoahimopaaGreatDoor
open Go.RowKit

def castV (l : List Nat) : List Value := l.map fun n : Nat => .int .i64 n
theorem castV_get {l : List Nat} {i : Nat} (hi : i < l.length) : (castV l)[i]? = some (.int .i64 (l.getD i 0 : Nat)) := by
  simp only [castV, List.getElem?_map, List.getD_eq_getElem?_getD, List.getElem?_eq_getElem hi]
  rfl
theorem castV_set (l : List Nat) (i x : Nat) : (castV l).set i (.int .i64 x) = castV (l.set i x) := by simp [castV, List.map_set]
theorem castV_len (l : List Nat) : (castV l).length = l.length := by simp [castV]

theorem twelve {α : Type} {l : List α} (h : l.length = 12) : ∃ a0 a1 a2 a3 a4 a5 a6 a7 a8 a9 a10 a11, l = [a0, a1, a2, a3, a4, a5, a6, a7, a8, a9, a10, a11] := by
  match l, h with
  | [a0, a1, a2, a3, a4, a5, a6, a7, a8, a9, a10, a11], _ => exact ⟨a0, a1, a2, a3, a4, a5, a6, a7, a8, a9, a10, a11, rfl⟩

end Go.Proofs.YthpknfoahimopaaGreatDoor

set_option linter.unusedVariables false
namespace Go.Proofs.YthpknfoahimopaaGreatDoor
open Go.RowKit

/-- v is a part, from some place on to the end, of a row of the call's own, and holds xs. -/
def OwnQ (base : Nat) (e : TypeId) (w : World) (v : Value) (xs : List Int) : Prop :=
  ∃ g o cap cur, v = .slice (some ⟨g, o, none⟩) xs.length cap ∧ base ≤ g ∧ w.heap[g]? = some (.cells cur e (0, 0)) ∧ xs.length ≤ cap ∧ cap ≤ maxLen ∧ o + cap ≤ cur.size ∧ (cur.toList.drop o).take xs.length = xs.map (Value.int .i64) ∧ ∀ x ∈ xs, I64 x

section
variable {base : Nat} {e : TypeId} {w w' : World} {v : Value} {xs : List Int}

theorem OwnQ.block (h : OwnQ base e w v xs) : ∀ g, v.ownBlock = some g → base ≤ g ∧ g < w.heap.size := by
  obtain ⟨g, o, cap, cur, rfl, h1, h2, _⟩ := h
  intro k hk
  simp [Value.ownBlock] at hk
  subst hk
  exact ⟨h1, (Array.getElem?_eq_some_iff.1 h2).1⟩

theorem OwnQ.keep (h : OwnQ base e w v xs) (hb : ∀ g, v.ownBlock = some g → w'.heap[g]? = w.heap[g]?) : OwnQ base e w' v xs := by
  obtain ⟨g, o, cap, cur, rfl, h1, h2, h3⟩ := h
  exact ⟨g, o, cap, cur, rfl, h1, by rw [hb g rfl]; exact h2, h3⟩
theorem OwnQ.below (h : OwnQ base e w v xs) (hb : Below w.heap.size w w') : OwnQ base e w' v xs :=
  h.keep fun g hg => hb.block g (h.block g hg).2
theorem OwnQ.new (h : OwnQ base e w v xs) (o : Obj) : OwnQ base e (w.alloc o) v xs := h.below (bnew (Below.refl _ _) o)

theorem OwnQ.rebase {base' : Nat} (h : OwnQ base e w v xs) (hb : base' ≤ base) : OwnQ base' e w v xs := by
  obtain ⟨g, o, cap, cur, rfl, h1, h2⟩ := h
  exact ⟨g, o, cap, cur, rfl, by omega, h2⟩
/-- The list of ints that a literal lays. -/
theorem OwnQ.lit (w : World) (e : TypeId) (xs : List Int) (h : ∀ x ∈ xs, I64 x) (hl : xs.length ≤ 1000000000000) :
    OwnQ w.heap.size e (w.alloc (.cells (xs.map (Value.int .i64)).toArray e)) (.slice (some ⟨w.heap.size, 0, none⟩) xs.length xs.length) xs :=
  ⟨w.heap.size, 0, xs.length, _, rfl, Nat.le_refl _, heap_alloc_new w _, Nat.le_refl _, by unfold maxLen; omega, by simp, by simp [List.take_of_length_le], h⟩

theorem OwnQ.get (h : OwnQ base e w v xs) {g o cap : Nat} (hv : v = .slice (some ⟨g, o, none⟩) xs.length cap) : ∀ (i : Nat) (x : Int), xs[i]? = some x → w.cell? ⟨g, o + i, none⟩ = some (.int .i64 x) := by
  obtain ⟨g', o', cap', cur, hv', h1, h2, h3, h4, h5, h6, h7⟩ := h
  rw [hv] at hv'
  injection hv' with e1 e2 e3
  injection e1 with e1
  injection e1 with e4 e5
  subst e4 e5
  intro i x hx
  have hi : i < xs.length := (List.getElem?_eq_some_iff.1 hx).1
  have h8 := congrArg (fun l => l[i]?) h6
  simp only [List.getElem?_map, hx, Option.map_some] at h8
  rw [List.getElem?_take_of_lt hi, List.getElem?_drop] at h8
  rw [cell_of_row w g _ cur e (0, 0) h2, ← Array.getElem?_toList]
  exact h8

theorem OwnQ.slice (h : OwnQ base e w v xs) : ∃ oa c, v = .slice oa xs.length c ∧ xs.length ≤ c ∧ SliceR intR 1 (fun k => base ≤ k) w oa xs := by
  have h0 := h
  obtain ⟨g, o, cap, cur, rfl, h1, h2, h3, h4, h5, h6, h7⟩ := h
  refine ⟨_, cap, rfl, h3, fun i x hx => ⟨g, o, [.int .i64 x], rfl, h1, ⟨rfl, h7 x (List.mem_of_getElem? hx)⟩, fun j u hu => ?_⟩⟩
  have hj : j = 0 := by
    have := (List.getElem?_eq_some_iff.1 hu).1
    simp at this
    exact this
  subst hj
  simp at hu
  subst hu
  have := h0.get rfl i x hx
  simpa using this

/-- The first element, and what is left. -/
theorem OwnQ.head {x : Int} {r : List Int} (h : OwnQ base e w v (x :: r)) : ∃ g o cap, v = .slice (some ⟨g, o, none⟩) (r.length + 1) (cap + 1) ∧ base ≤ g ∧ g < w.heap.size ∧ r.length ≤ cap ∧ cap + 1 ≤ maxLen ∧ w.cell? ⟨g, o, none⟩ = some (.int .i64 x) ∧ I64 x ∧
    OwnQ base e w (.slice (some (if cap = 0 then ⟨g, o, none⟩ else ⟨g, o + 1, none⟩)) r.length cap) r := by
  have h0 := h
  obtain ⟨g, o, cap, cur, rfl, h1, h2, h3, h4, h5, h6, h7⟩ := h
  simp only [List.length_cons] at h3
  obtain ⟨cap, rfl⟩ : ∃ k, cap = k + 1 := ⟨cap - 1, by omega⟩
  have hx := h0.get rfl 0 x rfl
  refine ⟨g, o, cap, rfl, h1, (Array.getElem?_eq_some_iff.1 h2).1, by omega, h4, by simpa using hx, h7 x (by simp), ?_⟩
  by_cases hc : cap = 0
  · subst hc
    have hr : r = [] := List.eq_nil_of_length_eq_zero (by omega)
    subst hr
    exact ⟨g, o, 0, cur, by simp, h1, h2, by simp, by simp, by omega, by simp, by simp⟩
  · refine ⟨g, o + 1, cap, cur, by simp [hc], h1, h2, by omega, by omega, by omega, ?_, fun y hy => h7 y (by simp [hy])⟩
    have h8 := congrArg (List.drop 1) h6
    rw [List.drop_take, List.drop_drop] at h8
    simpa using h8

theorem run_append_q {P : Program} (t ty : TypeId) (i : TypeInfo) (z : Value) (ht : P.underlying t = some (.slice e)) (hi : P.info? e = some i) (hz : i.zero = some z)
    (hsize : i.size = 1) (hby : i.bytes = 8) (hzs : z.cells.size = 1) (h : OwnQ base e w v xs)
    (ad : Addr) (c : Nat) (x : Int) (hx : w.cell? (ad.add 0) = some (.int .i64 x)) (ix : I64 x) (hn : xs.length + 1 ≤ 1000000000) (hbase : base ≤ w.heap.size) :
    ∃ v' w', (Builtin.append_ #[t, t] ty #[v, .slice (some ad) 1 c]).run P w = .ok v' w' ∧ OwnQ base e w' v' (xs ++ [x]) ∧ w.grownBy w' v.ownBlock ∧ (∀ k, v'.ownBlock = some k → v.ownBlock = some k ∨ w.heap.size ≤ k) := by
  have h0 := h
  obtain ⟨g, o, cap, cur, rfl, h1, h2, h3, h4, h5, h6, h7⟩ := h
  have hg : g < w.heap.size := (Array.getElem?_eq_some_iff.1 h2).1
  have h7' : ∀ y ∈ xs ++ [x], I64 y := by
    intro y hy
    rcases List.mem_append.1 hy with hy | hy
    · exact h7 y hy
    · simp at hy; subst hy; exact ix
  by_cases hroom : xs.length + 1 ≤ cap
  · have hr := run_append_room_cells (P := P) (w := w) t ty e i ht hi g o xs.length cap ad 1 c [.int .i64 x] (by simp [hsize]) (fun j u hu => by
        have hj : j = 0 := by
          have := (List.getElem?_eq_some_iff.1 hu).1
          simp at this
          exact this
        subst hj
        simp at hu
        subst hu
        exact hx) (by simp [Value.oneCell']) hroom (fun j hj => by
        simp at hj
        subst hj
        rw [cell_of_row w g _ cur e (0, 0) h2, hsize]
        have : o + xs.length * 1 + 0 < cur.size := by omega
        simp; omega) (fun j _ => frozen_of_row w g _ cur e h2)
    rw [hsize] at hr
    refine ⟨_, _, hr, ?_, ?_, fun k hk => .inl hk⟩
    · have hlt : o + xs.length < cur.size := by omega
      have hh : (w.setCells g (o + xs.length * 1) [.int .i64 x]).heap[g]? = some (.cells (cur.set! (o + xs.length) (.int .i64 x)) e (0, 0)) := by
        simp [World.setCells, World.setCell, Array.getElem?_modify, h2]
      refine ⟨g, o, cap, _, by simp, h1, hh, by simpa using hroom, h4, by simpa using h5, ?_, h7'⟩
      have hl6 := congrArg List.length h6
      simp at hl6
      apply List.ext_getElem?
      intro j
      have h6j := congrArg (fun l => l[j]?) h6
      simp only [List.map_append, List.map_cons, List.map_nil, List.length_append, List.length_cons, List.length_nil]
      rcases Nat.lt_trichotomy j xs.length with hj | hj | hj
      · rw [List.getElem?_take_of_lt (by omega), List.getElem?_drop, List.getElem?_append_left (by simpa using hj), ← h6j]
        rw [List.getElem?_take_of_lt hj, List.getElem?_drop]
        simp [show ¬ (xs.length = j) from by omega]
      · subst hj
        rw [List.getElem?_take_of_lt (by omega), List.getElem?_drop, List.getElem?_append_right (by simp)]
        simp [hlt]
      · rw [List.getElem?_eq_none (by simp; omega), List.getElem?_eq_none (by simp; omega)]
    · refine ⟨rfl, rfl, rfl, by simp [World.setCells], fun k _ hne => ?_⟩
      have : ¬ (g = k) := fun he => hne (by simp [Value.ownBlock, he])
      simp [World.setCells, World.setCell, Array.getElem?_modify, this]
  · have hr := run_append_grow (P := P) w t ty e i z ht hi hz ⟨g, o, none⟩ xs.length cap (xs.map (Value.int .i64)) (by simp [hsize]) (fun j u hu => by
        rw [List.getElem?_map, Option.map_eq_some_iff] at hu
        obtain ⟨y, hy, rfl⟩ := hu
        rw [Addr.add_lit]
        exact h0.get rfl j y hy) ad 1 c [.int .i64 x] (by simp [hsize]) (fun j u hu => by
        have hj : j = 0 := by
          have := (List.getElem?_eq_some_iff.1 hu).1
          simp at this
          exact this
        subst hj
        simp at hu
        subst hu
        exact hx) (by omega) (by omega) (growslice_fits (by omega) (by rw [hby]; omega))
    have hge := grownCap_ge w (xs.length + 1) cap e
    have hcm : grownCap w (xs.length + 1) cap e ≤ maxLen := grownCap_le_maxLen w (xs.length + 1) cap e (by unfold maxLen; omega)
    refine ⟨_, _, hr, ⟨w.heap.size, 0, _, _, by simp, hbase, heap_alloc_new w.drew _, by simpa using hge, hcm, ?_, ?_, h7'⟩, ⟨rfl, rfl, rfl, by simp, fun k hk _ => heap_alloc_old w.drew _ hk⟩, fun k hk => .inr (by simp [Value.ownBlock] at hk; omega)⟩
    · simp only [Array.size_append, List.size_toArray, size_zeroCells, hzs]
      simp
      omega
    · simp only [Array.toList_append, List.drop_zero, List.length_append, List.length_cons, List.length_nil, List.map_append, List.map_cons, List.map_nil]
      rw [show xs.length + (0 + 1) = (xs.map (Value.int .i64) ++ [Value.int .i64 x]).length from by simp]
      exact List.take_left
end

/-- The arm for 'work = append(work, x)'. -/
theorem wpList_append_q {P : Program} {w : World} {ops : Array Oper} {rest : List Oper} {o : Oper} {a : Act} {Q : Exit → Act → World → Prop} (hgd : o.guard = none) (s y : Operand) (t : TypeId)
    (ho : o.op = .call { callee := .builtin .append, args := #[s, y], argTypes := #[t, t] })
    (base : Nat) (e : TypeId) (z : Value) (ht : P.underlying t = some (.slice e)) (hinfo : (P.info? e).map (fun i => (i.zero, i.size, i.bytes)) = some (some z, 1, 8))
    (hzs : z.cells.size = 1) (v : Value) (xs : List Int) (hs : a.eval s = v) (hown : OwnQ base e w v xs)
    (ad : Addr) (c : Nat) (x : Int) (hy : a.eval y = .slice (some ad) 1 c) (hx : w.cell? (ad.add 0) = some (.int .i64 x)) (ix : I64 x) (hn : xs.length + 1 ≤ 1000000000) (hbase : base ≤ w.heap.size)
    (h : ∀ v' w', OwnQ base e w' v' (xs ++ [x]) → Below base w w' → w.grownBy w' v.ownBlock → (∀ k, v'.ownBlock = some k → v.ownBlock = some k ∨ w.heap.size ≤ k) → wpList P ops Q rest (a.put o.dst v') w') : wpList P ops Q (o :: rest) a w := by
  obtain ⟨i0, hi, hz0, hz1, hz2⟩ := info_parts hinfo
  refine wpList_plain hgd fun _ hK => ?_
  obtain ⟨v', w', hrun, h2, h3, h4⟩ := run_append_q (P := P) t o.type i0 z ht hi hz0 hz1 hz2 hzs hown ad c x hx ix hn hbase
  have hb : Below base w w' := (Below.refl base w).grown h3 hbase fun k hk => (hown.block k hk).1
  unfold Oper.wp execOp
  simp only [ho, resolve, invoke, builtin, Sem.run_bind, Sem.run_pure, Result.andThen_ok, List.map_toArray, List.map_cons, List.map_nil, hs, hy, hrun]
  exact hK _ _ (h v' w' h2 hb h3 h4)

end Go.Proofs.YthpknfoahimopaaGreatDoor

set_option linter.unusedVariables false
set_option linter.unusedSimpArgs false
namespace Go.Proofs.YthpknfoahimopaaGreatDoor
open Go.RowKit

def OwnN (base : Nat) (e : TypeId) (w : World) (v : Value) (xs : List Int) : Prop := (v = .slice none 0 0 ∧ xs = []) ∨ OwnQ base e w v xs

section
variable {base : Nat} {e : TypeId} {w w' : World} {v : Value} {xs : List Int}
theorem OwnN.nil : OwnN base e w (.slice none 0 0) [] := .inl ⟨rfl, rfl⟩
theorem OwnN.block (h : OwnN base e w v xs) : ∀ g, v.ownBlock = some g → base ≤ g ∧ g < w.heap.size := by
  intro g hg
  rcases h with ⟨rfl, _⟩ | h
  · simp [Value.ownBlock] at hg
  · exact h.block g hg
theorem OwnN.keep (h : OwnN base e w v xs) (hb : ∀ g, v.ownBlock = some g → w'.heap[g]? = w.heap[g]?) : OwnN base e w' v xs := h.imp id fun h => h.keep hb
theorem OwnN.below (h : OwnN base e w v xs) (hb : Below w.heap.size w w') : OwnN base e w' v xs := h.keep fun g hg => hb.block g (h.block g hg).2
theorem OwnN.new (h : OwnN base e w v xs) (o : Obj) : OwnN base e (w.alloc o) v xs := h.below (bnew (Below.refl _ _) o)
theorem OwnN.draw (h : OwnN base e w v xs) : OwnN base e w.drew v xs := h.keep fun _ _ => rfl
theorem OwnN.slice (h : OwnN base e w v xs) : ∃ oa c, v = .slice oa xs.length c ∧ xs.length ≤ c ∧ SliceR intR 1 (fun k => base ≤ k) w oa xs := by
  rcases h with ⟨rfl, rfl⟩ | h
  · exact ⟨none, 0, rfl, by simp, SliceR.nil _ _ _ _ _⟩
  · exact h.slice
theorem OwnN.rebase {base' : Nat} (h : OwnN base e w v xs) (hb : base' ≤ base) : OwnN base' e w v xs := h.imp id fun h => h.rebase hb

theorem run_append_n {P : Program} (t ty : TypeId) (i : TypeInfo) (z : Value) (ht : P.underlying t = some (.slice e)) (hi : P.info? e = some i) (hz : i.zero = some z)
    (hsize : i.size = 1) (hby : i.bytes = 8) (hzs : z.cells.size = 1) (h : OwnN base e w v xs)
    (ad : Addr) (c : Nat) (x : Int) (hx : w.cell? (ad.add 0) = some (.int .i64 x)) (ix : I64 x) (hn : xs.length + 1 ≤ 1000000000) (hbase : base ≤ w.heap.size) :
    ∃ v' w', (Builtin.append_ #[t, t] ty #[v, .slice (some ad) 1 c]).run P w = .ok v' w' ∧ OwnN base e w' v' (xs ++ [x]) ∧ w.grownBy w' v.ownBlock ∧ (∀ k, v'.ownBlock = some k → v.ownBlock = some k ∨ w.heap.size ≤ k) := by
  rcases h with ⟨rfl, rfl⟩ | h
  · have hr := run_append_nil (P := P) w t ty e i z ht hi hz ad 1 c [.int .i64 x] (by simp [hsize]) (fun j u hu => by
      have hj : j = 0 := by
        have := (List.getElem?_eq_some_iff.1 hu).1
        simp at this
        exact this
      subst hj
      simp at hu
      subst hu
      exact hx) (by omega) (by omega) (by rw [hby]; omega)
    have hge := grownCap_ge w 1 0 e
    have hcm : grownCap w 1 0 e ≤ maxLen := grownCap_le_maxLen w 1 0 e (by unfold maxLen; omega)
    refine ⟨_, _, hr, .inr ⟨w.heap.size, 0, _, _, by simp, hbase, heap_alloc_new w.drew _, by simpa using hge, hcm, ?_, ?_, ?_⟩, ⟨rfl, rfl, rfl, by simp, fun k hk _ => heap_alloc_old w.drew _ hk⟩, fun k hk => .inr (by simp [Value.ownBlock] at hk; omega)⟩
    · simp only [Array.size_append, List.size_toArray, size_zeroCells, hzs]
      simp
      omega
    · simp
    · intro y hy
      simp at hy
      subst hy
      exact ix
  · obtain ⟨v', w', h1, h2, h3, h4⟩ := run_append_q (P := P) t ty i z ht hi hz hsize hby hzs h ad c x hx ix hn hbase
    exact ⟨v', w', h1, .inr h2, h3, h4⟩
end

/-- The arm for 'v = append(v, x)', v nil or the call's own. -/
theorem wpList_append_n {P : Program} {w : World} {ops : Array Oper} {rest : List Oper} {o : Oper} {a : Act} {Q : Exit → Act → World → Prop} (hgd : o.guard = none) (s y : Operand) (t : TypeId)
    (ho : o.op = .call { callee := .builtin .append, args := #[s, y], argTypes := #[t, t] })
    (base : Nat) (e : TypeId) (z : Value) (ht : P.underlying t = some (.slice e)) (hinfo : (P.info? e).map (fun i => (i.zero, i.size, i.bytes)) = some (some z, 1, 8))
    (hzs : z.cells.size = 1) (v : Value) (xs : List Int) (hs : a.eval s = v) (hown : OwnN base e w v xs)
    (ad : Addr) (c : Nat) (x : Int) (hy : a.eval y = .slice (some ad) 1 c) (hx : w.cell? (ad.add 0) = some (.int .i64 x)) (ix : I64 x) (hn : xs.length + 1 ≤ 1000000000) (hbase : base ≤ w.heap.size)
    (h : ∀ v' w', OwnN base e w' v' (xs ++ [x]) → Below base w w' → w.grownBy w' v.ownBlock → (∀ k, v'.ownBlock = some k → v.ownBlock = some k ∨ w.heap.size ≤ k) → wpList P ops Q rest (a.put o.dst v') w') : wpList P ops Q (o :: rest) a w := by
  obtain ⟨i0, hi, hz0, hz1, hz2⟩ := info_parts hinfo
  refine wpList_plain hgd fun _ hK => ?_
  obtain ⟨v', w', hrun, h2, h3, h4⟩ := run_append_n (P := P) t o.type i0 z ht hi hz0 hz1 hz2 hzs hown ad c x hx ix hn hbase
  have hb : Below base w w' := (Below.refl base w).grown h3 hbase fun k hk => (hown.block k hk).1
  unfold Oper.wp execOp
  simp only [ho, resolve, invoke, builtin, Sem.run_bind, Sem.run_pure, Result.andThen_ok, List.map_toArray, List.map_cons, List.map_nil, hs, hy, hrun]
  exact hK _ _ (h v' w' h2 hb h3 h4)

/-- Many lists side by side, no two in one block. -/
structure OwnM (base : Nat) (e : TypeId) (w : World) (vs : List Value) (xss : List (List Int)) : Prop where
  len : vs.length = xss.length
  own : ∀ (i : Nat) (v : Value) (xs : List Int), vs[i]? = some v → xss[i]? = some xs → OwnN base e w v xs
  apart : ∀ (i j : Nat) (v u : Value) (k : Nat), vs[i]? = some v → vs[j]? = some u → v.ownBlock = some k → u.ownBlock = some k → i = j

section
variable {base : Nat} {e : TypeId} {w w' : World} {vs : List Value} {xss : List (List Int)}
theorem OwnM.nils (n : Nat) : OwnM base e w (List.replicate n (.slice none 0 0)) (List.replicate n []) :=
  by
  refine ⟨by simp, fun i v xs h1 h2 => ?_, fun i j v u k h1 h2 h3 _ => ?_⟩
  · rw [List.getElem?_replicate] at h1 h2
    split at h1
    · rename_i hi
      simp [hi] at h1 h2
      subst h1 h2
      exact OwnN.nil
    · cases h1
  · rw [List.getElem?_replicate] at h1
    split at h1
    · injection h1 with h1
      subst h1
      simp [Value.ownBlock] at h3
    · cases h1
theorem OwnM.keep (h : OwnM base e w vs xss) (hb : ∀ (i : Nat) (v : Value) (g : Nat), vs[i]? = some v → v.ownBlock = some g → w'.heap[g]? = w.heap[g]?) : OwnM base e w' vs xss :=
  ⟨h.len, fun i v xs h1 h2 => (h.own i v xs h1 h2).keep fun g hg => hb i v g h1 hg, h.apart⟩
theorem OwnM.block (h : OwnM base e w vs xss) {i : Nat} {v : Value} (hi : vs[i]? = some v) : ∀ g, v.ownBlock = some g → base ≤ g ∧ g < w.heap.size := by
  have hl : i < vs.length := (List.getElem?_eq_some_iff.1 hi).1
  have hl2 : i < xss.length := by rw [← h.len]; exact hl
  exact (h.own i v xss[i] hi (List.getElem?_eq_getElem hl2)).block
theorem OwnM.below (h : OwnM base e w vs xss) (hb : Below w.heap.size w w') : OwnM base e w' vs xss := h.keep fun i v g h1 hg => hb.block g (h.block h1 g hg).2
theorem OwnM.new (h : OwnM base e w vs xss) (o : Obj) : OwnM base e (w.alloc o) vs xss := h.below (bnew (Below.refl _ _) o)
theorem OwnM.draw (h : OwnM base e w vs xss) : OwnM base e w.drew vs xss := h.keep fun _ _ _ _ _ => rfl
/-- A store into a block that is none of theirs. -/
theorem OwnM.other (h : OwnM base e w vs xss) {p : Addr} (hp : p.block < base) (u : Value) : OwnM base e (w.setCell p u) vs xss :=
  h.keep fun i v g h1 hg => Below.heap_setCell w p u g (by have := (h.block h1 g hg).1; omega)
/-- List i has grown. -/
theorem OwnM.grow (h : OwnM base e w vs xss) {i : Nat} {v v' : Value} {xs : List Int} {x : Int} {o : Obj} (hi : vs[i]? = some v) (hx : xss[i]? = some xs)
    (ho : OwnN base e w' v' (xs ++ [x])) (hg : (w.alloc o).grownBy w' v.ownBlock) (hv : ∀ k, v'.ownBlock = some k → v.ownBlock = some k ∨ (w.alloc o).heap.size ≤ k) : OwnM base e w' (vs.set i v') (xss.set i (xs ++ [x])) := by
  have hil : i < vs.length := (List.getElem?_eq_some_iff.1 hi).1
  refine ⟨by simp [h.len], fun j u ys hu hy => ?_, fun j l u t k hu ht hku hkt => ?_⟩
  · by_cases e1 : i = j
    · subst e1
      rw [List.getElem?_set_self hil] at hu
      rw [List.getElem?_set_self (by rw [← h.len]; exact hil)] at hy
      injection hu with hu
      injection hy with hy
      subst hu hy
      exact ho
    · rw [List.getElem?_set_ne e1] at hu hy
      refine ((h.own j u ys hu hy).new o).keep fun g hgu => hg.block g (by have := (h.block hu g hgu).2; simp; omega) fun he => e1 (h.apart i j v u g hi hu he.symm hgu)
  · have key : ∀ (m : Nat) (y : Value), (vs.set i v')[m]? = some y → y.ownBlock = some k → (m = i ∧ y = v') ∨ (m ≠ i ∧ vs[m]? = some y) := fun m y hy _ => by
      by_cases e1 : i = m
      · subst e1
        rw [List.getElem?_set_self hil] at hy
        injection hy with hy
        exact .inl ⟨rfl, hy.symm⟩
      · rw [List.getElem?_set_ne e1] at hy
        exact .inr ⟨fun e => e1 e.symm, hy⟩
    have cross : ∀ (m : Nat) (y : Value), vs[m]? = some y → m ≠ i → y.ownBlock = some k → v'.ownBlock = some k → False := fun m y hy hm hky hkv => by
      rcases hv k hkv with h1 | h1
      · exact hm (h.apart m i y v k hy hi hky h1)
      · have := (h.block hy k hky).2; simp at h1; omega
    rcases key j u hu hku with ⟨a1, a2⟩ | ⟨a1, a2⟩ <;> rcases key l t ht hkt with ⟨b1, b2⟩ | ⟨b1, b2⟩
    · rw [a1, b1]
    · subst a2; exact (cross l t b2 b1 hkt hku).elim
    · subst b2; exact (cross j u a2 a1 hku hkt).elim
    · exact h.apart j l u t k a2 b2 hku hkt
/-- One more, empty. -/
theorem OwnM.snoc (h : OwnM base e w vs xss) : OwnM base e w (vs ++ [.slice none 0 0]) (xss ++ [[]]) := by
  refine ⟨by simp [h.len], fun j u ys hu hy => ?_, fun j l u t k hu ht hku hkt => ?_⟩
  · rcases Nat.lt_or_ge j vs.length with hj | hj
    · rw [List.getElem?_append_left hj] at hu
      rw [List.getElem?_append_left (by rw [← h.len]; exact hj)] at hy
      exact h.own j u ys hu hy
    · rw [List.getElem?_append_right hj] at hu
      rw [List.getElem?_append_right (by rw [← h.len]; exact hj)] at hy
      have : j - vs.length = 0 := by
        have := (List.getElem?_eq_some_iff.1 hu).1
        simp at this
        omega
      rw [this] at hu
      rw [← h.len, this] at hy
      simp at hu hy
      subst hu hy
      exact OwnN.nil
  · have key : ∀ (m : Nat) (y : Value), (vs ++ [.slice none 0 0])[m]? = some y → y.ownBlock = some k → vs[m]? = some y := fun m y hy hk => by
      rcases Nat.lt_or_ge m vs.length with hj | hj
      · rw [List.getElem?_append_left hj] at hy; exact hy
      · rw [List.getElem?_append_right hj] at hy
        have hm := List.mem_of_getElem? hy
        simp at hm
        subst hm
        simp [Value.ownBlock] at hk
    exact h.apart j l u t k (key j u hu hku) (key l t ht hkt) hku hkt
end

end Go.Proofs.YthpknfoahimopaaGreatDoor

set_option linter.unusedVariables false
set_option linter.unusedSimpArgs false
namespace Go.Proofs.YthpknfoahimopaaGreatDoor
open Go.RowKit

/-- ov holds the headers vs (elements of type lt) of the lists xss (of elements of type e). -/
structure Lists (base : Nat) (e lt : TypeId) (w : World) (ov : Value) (vs : List Value) (xss : List (List Int)) : Prop where
  row : w.ownsRow base lt 1 ov vs.length vs
  ms : OwnM base e w vs xss
  off : ∀ (i : Nat) (v : Value) (k : Nat), vs[i]? = some v → v.ownBlock = some k → ov.ownBlock ≠ some k

section
variable {base : Nat} {e lt : TypeId} {w w' : World} {ov : Value} {vs : List Value} {xss : List (List Int)}
theorem Lists.nil (base : Nat) (e lt : TypeId) (w : World) : Lists base e lt w (.slice none 0 0) [] [] :=
  ⟨World.ownsRow_nil _ _ _ _, OwnM.nils 0, fun i v k h => by simp at h⟩
theorem Lists.len (h : Lists base e lt w ov vs xss) : vs.length = xss.length := h.ms.len
theorem Lists.below (h : Lists base e lt w ov vs xss) (hb : Below w.heap.size w w') : Lists base e lt w' ov vs xss := by
  refine ⟨h.row.kept (row := none) ⟨hb.os, hb.tape, hb.output, hb.size, fun k hk _ => hb.block k hk⟩ ?_, h.ms.below hb, h.off⟩
  cases ov.ownBlock <;> simp
theorem Lists.new (h : Lists base e lt w ov vs xss) (o : Obj) : Lists base e lt (w.alloc o) ov vs xss := h.below (bnew (Below.refl _ _) o)
theorem Lists.draw (h : Lists base e lt w ov vs xss) : Lists base e lt w.drew ov vs xss := ⟨h.row.drew, h.ms.draw, h.off⟩
/-- A change in blocks that are not theirs. -/
theorem Lists.under (h : Lists base e lt w ov vs xss) {k : Nat} (hg : w.grownBy w' (some k)) (hk : k < base) : Lists base e lt w' ov vs xss := by
  refine ⟨h.row.kept hg ?_, h.ms.keep fun i v g h1 hgv => hg.block g (h.ms.block h1 g hgv).2 ?_, h.off⟩
  · refine .inr fun he => ?_
    have := (h.row.lt k he).1
    omega
  · intro he
    injection he with he
    have := (h.ms.block h1 g hgv).1
    omega
/-- One more list, empty: 'out = append(out, nil)'. -/
theorem Lists.snoc (h : Lists base e lt w ov vs xss) {o : Obj} {ov' : Value} (hr : w'.ownsRow base lt 1 ov' (vs.length + 1) (vs ++ [.slice none 0 0])) (hg : (w.alloc o).grownBy w' ov.ownBlock)
    (hat : ov'.ownBlock = ov.ownBlock ∨ ov'.ownBlock = some (w.alloc o).heap.size) : Lists base e lt w' ov' (vs ++ [.slice none 0 0]) (xss ++ [[]]) := by
  have hnew : ∀ (i : Nat) (v : Value) (k : Nat), (vs ++ [.slice none 0 0])[i]? = some v → v.ownBlock = some k → vs[i]? = some v := fun i v k hi hk => by
    rcases Nat.lt_or_ge i vs.length with hj | hj
    · rw [List.getElem?_append_left hj] at hi; exact hi
    · rw [List.getElem?_append_right hj] at hi
      have hm := List.mem_of_getElem? hi
      simp at hm
      subst hm
      simp [Value.ownBlock] at hk
  refine ⟨by rw [List.length_append]; exact hr, ((h.ms.new o).keep fun i v g h1 hgv => hg.block g ?_ fun he => h.off i v g h1 hgv he.symm).snoc, fun i v k hi hk he => ?_⟩
  · have := (h.ms.block h1 g hgv).2; simp; omega
  · have h1 := hnew i v k hi hk
    rcases hat with ha | ha
    · exact h.off i v k h1 hk (ha ▸ he)
    · rw [ha] at he
      injection he with he
      have := (h.ms.block h1 k hk).2
      simp at he
      omega
/-- List i has grown, and its header was stored: 'out[i] = append(out[i], x)'. -/
theorem Lists.grow {g cap : Nat} (h : Lists base e lt w (.slice (some ⟨g, 0, none⟩) vs.length cap) vs xss) {i : Nat} {v v' : Value} {xs : List Int} {x : Int} {o : Obj} (hi : vs[i]? = some v) (hx : xss[i]? = some xs)
    (ho : OwnN base e w' v' (xs ++ [x])) (hg : (w.alloc o).grownBy w' v.ownBlock) (hv : ∀ k, v'.ownBlock = some k → v.ownBlock = some k ∨ (w.alloc o).heap.size ≤ k) :
    Lists base e lt (w'.setCell ⟨g, i, none⟩ v') (.slice (some ⟨g, 0, none⟩) (vs.set i v').length cap) (vs.set i v') (xss.set i (xs ++ [x])) := by
  have hgl := (h.row.lt g rfl).2
  have hng : v.ownBlock ≠ some g := fun he => h.off i v g hi he rfl
  have hng' : v'.ownBlock ≠ some g := fun he => by
    rcases hv g he with h1 | h1
    · exact hng h1
    · simp at h1; omega
  have hrow : w'.ownsRow base lt 1 (.slice (some ⟨g, 0, none⟩) vs.length cap) vs.length vs := (h.row.alloc o).kept hg (.inr fun he => hng he.symm)
  have hms := h.ms.grow hi hx ho hg hv
  have hoff : ∀ (j : Nat) (u : Value) (k : Nat), (vs.set i v')[j]? = some u → u.ownBlock = some k → k ≠ g := fun j u k hu hk he => by
    subst he
    by_cases e1 : i = j
    · subst e1
      rw [List.getElem?_set_self (List.getElem?_eq_some_iff.1 hi).1] at hu
      injection hu with hu
      subst hu
      exact hng' hk
    · rw [List.getElem?_set_ne e1] at hu
      exact h.off j u k hu hk rfl
  refine ⟨by rw [List.length_set]; exact (hrow.stored i v').1, hms.keep fun j u k hu hk => Below.heap_setCell _ _ _ _ ?_, fun j u k hu hk he => hoff j u k hu hk ?_⟩
  · exact hoff j u k hu hk
  · simp [Value.ownBlock] at he; exact he.symm
end

/-- 'append(v, x)' as one step of a region that draws its order. -/
theorem step_append_n {P : Program} {ops : Array Oper} {o : Oper} {a : Act} {w : World} {K : Act → World → Prop} {Q : Exit → Act → World → Prop} {E : Prop} (hgd : o.guard = none) (s y : Operand) (t : TypeId)
    (ho : o.op = .call { callee := .builtin .append, args := #[s, y], argTypes := #[t, t] })
    (base : Nat) (e : TypeId) (z : Value) (ht : P.underlying t = some (.slice e)) (hinfo : (P.info? e).map (fun i => (i.zero, i.size, i.bytes)) = some (some z, 1, 8))
    (hzs : z.cells.size = 1) (v : Value) (xs : List Int) (hs : a.eval s = v) (hown : OwnN base e w v xs)
    (ad : Addr) (c : Nat) (x : Int) (hy : a.eval y = .slice (some ad) 1 c) (hx : w.cell? (ad.add 0) = some (.int .i64 x)) (ix : I64 x) (hn : xs.length + 1 ≤ 1000000000) (hbase : base ≤ w.heap.size)
    (hK : ∀ v' w', OwnN base e w' v' (xs ++ [x]) → Below base w w' → w.grownBy w' v.ownBlock → (∀ k, v'.ownBlock = some k → v.ownBlock = some k ∨ w.heap.size ≤ k) → K (a.put o.dst v') w') :
    if Region.wanted o (yielded ops a.tmps) = true then Oper.wp P o a w K Q else E := by
  have hw : Region.wanted o (yielded ops a.tmps) = true := by simp [Region.wanted, hgd]
  rw [if_pos hw]
  obtain ⟨i0, hi, hz0, hz1, hz2⟩ := info_parts hinfo
  obtain ⟨v', w', hrun, h2, h3, h4⟩ := run_append_n (P := P) t o.type i0 z ht hi hz0 hz1 hz2 hzs hown ad c x hx ix hn hbase
  have hb : Below base w w' := (Below.refl base w).grown h3 hbase fun k hk => (hown.block k hk).1
  unfold Oper.wp execOp
  simp only [ho, resolve, invoke, builtin, Sem.run_bind, Sem.run_pure, Result.andThen_ok, List.map_toArray, List.map_cons, List.map_nil, hs, hy, hrun]
  exact hK v' w' h2 hb h3 h4

end Go.Proofs.YthpknfoahimopaaGreatDoor

set_option linter.unusedVariables false
set_option linter.unusedSimpArgs false
namespace Go.Proofs.YthpknfoahimopaaGreatDoor
open Go.RowKit Go.Maps

theorem intInfo8 : (Tryz.prog.info? 3).map (fun i => (i.zero, i.size, i.bytes)) = some (some (.int .i64 0), 1, 8) := by kernel_rfl
theorem listInfo : (Tryz.prog.info? 82).map (fun i => (i.zero, i.size, i.bytes)) = some (some (.slice none 0 0), 1, 24) := by kernel_rfl
theorem keyLaw : Keyed Tryz.prog 3 := int_keyed Tryz.underlying3
theorem zeroInt (w : World) : (zeroValue 3).run Tryz.prog w = .ok (.int .i64 0) w := by kernel_rfl
abbrev DU := DataW Unit
def kl (r : Nat) : Lit := .int .i64 r
def vl (r : Nat) : DU := .lit (.int .i64 r)
theorem nat_wf {r : Nat} (h : r < 9223372036854775808) : (Lit.int .i64 (r : Nat)).wf = true := WalkArith.wf_i64 ⟨by omega, by omega⟩

theorem grown_setR (w : World) (p : Addr) (v : Value) : w.grownBy (w.setCell p v) (some p.block) := ⟨rfl, rfl, rfl, by simp, fun k _ hk => heap_setCell_other w p k v (fun e => hk (by simp [e]))⟩
theorem one_cell {w : World} {t : TypeId} {v : Value} {j : Nat} {u : Value} (h : [v][j]? = some u) : (w.alloc (.cells #[v] t)).cell? ((⟨w.heap.size, 0, none⟩ : Addr).add j) = some u := by
  have hj : j = 0 := by
    have := (List.getElem?_eq_some_iff.1 h).1
    simp at this
    exact this
  subst hj
  simp at h
  subst h
  exact (Box.new w [v] t).cell 0

/-- How many of the first n vertices stand for themselves. -/
def cnt (f : List Nat) (n : Nat) : Nat := ((List.range n).filter fun v => rootF f v == v).length
theorem cnt_yes {f : List Nat} {k : Nat} (h : rootF f k = k) : cnt f (k + 1) = cnt f k + 1 := by
  simp [cnt, List.range_succ, List.filter_append, h]
theorem cnt_no {f : List Nat} {k : Nat} (h : ¬ rootF f k = k) : cnt f (k + 1) = cnt f k := by
  simp [cnt, List.range_succ, List.filter_append, h]

def PartsPost (w : World) (f : List Nat) (n : Nat) (e : Ending) (w' : World) : Prop := ∃ oa c, e = .returned (.slice oa (cnt f n) c) ∧ Below w.heap.size w w'

end Go.Proofs.YthpknfoahimopaaGreatDoor

set_option linter.unusedVariables false
set_option linter.unusedSimpArgs false
set_option linter.unnecessarySimpa false
namespace Go.Proofs.YthpknfoahimopaaGreatDoor
open Go.RowKit

/-- The vertex of a half-edge. -/
def hv (l : List (Int × Int)) (h : Nat) : Int := if h % 2 = 0 then (l.getD (h / 2) (0, 0)).1 else (l.getD (h / 2) (0, 0)).2

/-- The half-edges below H at a vertex. -/
def halfU (l : List (Int × Int)) (H : Nat) (v : Nat) : List Int := ((List.range H).filter fun h : Nat => hv l h == (v : Int)).map fun h : Nat => (h : Int)
theorem halfU_yes {l : List (Int × Int)} {H v : Nat} (h : hv l H = (v : Int)) : halfU l (H + 1) v = halfU l H v ++ [(H : Int)] := by
  simp [halfU, List.range_succ, List.filter_append, h]
theorem halfU_no {l : List (Int × Int)} {H v : Nat} (h : ¬ hv l H = (v : Int)) : halfU l (H + 1) v = halfU l H v := by
  simp [halfU, List.range_succ, List.filter_append, h]
theorem halfU_len (l : List (Int × Int)) (H v : Nat) : (halfU l H v).length ≤ H := by
  have := List.length_filter_le (fun h : Nat => hv l h == (v : Int)) (List.range H)
  simp [halfU]
  simpa using this
def halvesU (n : Nat) (l : List (Int × Int)) (H : Nat) : List (List Int) := (List.range n).map (halfU l H)
theorem halvesU_get {n : Nat} {l : List (Int × Int)} {H v : Nat} (hv : v < n) : (halvesU n l H)[v]? = some (halfU l H v) := by
  simp [halvesU, hv]
theorem halvesU_step {n : Nat} {l : List (Int × Int)} {H V : Nat} (h : hv l H = (V : Int)) (hV : V < n) : halvesU n l (H + 1) = (halvesU n l H).set V (halfU l H V ++ [(H : Int)]) := by
  apply List.ext_getElem?
  intro i
  rcases Nat.lt_or_ge i n with hi | hi
  · rw [halvesU_get hi]
    by_cases e : V = i
    · subst e
      rw [List.getElem?_set_self (by simp [halvesU, hi]), halfU_yes h]
    · rw [List.getElem?_set_ne e, halvesU_get hi, halfU_no (by rw [h]; omega)]
  · rw [List.getElem?_eq_none (by simp [halvesU, hi]), List.getElem?_eq_none (by simp [halvesU, hi])]
theorem halvesU_zero (n : Nat) (l : List (Int × Int)) : halvesU n l 0 = List.replicate n [] := by
  apply List.ext_getElem?
  intro i
  rcases Nat.lt_or_ge i n with hi | hi
  · rw [halvesU_get hi]; simp [hi, halfU]
  · rw [List.getElem?_eq_none (by simp [halvesU, hi]), List.getElem?_eq_none (by simp [hi])]

theorem Lists.made {e lt : TypeId} {w : World} {g n : Nat} (h : w.ownsRow g lt 1 (.slice (some ⟨g, 0, none⟩) n n) n (List.replicate n (.slice none 0 0))) :
    Lists g e lt w (.slice (some ⟨g, 0, none⟩) n n) (List.replicate n (.slice none 0 0)) (List.replicate n []) := by
  refine ⟨by simpa using h, OwnM.nils n, fun i v k hi hk => ?_⟩
  rw [List.getElem?_replicate] at hi
  split at hi
  · injection hi with hi
    subst hi
    simp [Value.ownBlock] at hk
  · cases hi

def HalvesPost (w : World) (n : Nat) (l : List (Int × Int)) (e : Ending) (w' : World) : Prop :=
  ∃ g vs, e = .returned (.slice (some ⟨g, 0, none⟩) n n) ∧ vs.length = n ∧ Lists w.heap.size 3 82 w' (.slice (some ⟨g, 0, none⟩) n n) vs (halvesU n l (2 * l.length)) ∧ Below w.heap.size w w'

end Go.Proofs.YthpknfoahimopaaGreatDoor

set_option linter.unusedVariables false
set_option linter.unusedSimpArgs false
set_option linter.unnecessarySimpa false
namespace Go.Proofs.YthpknfoahimopaaGreatDoor
open Go.RowKit

/-- The edges from the vertices below u to v. -/
def valU (es : List Edg) (v : Int) : Nat → Int
  | 0 => 0
  | u + 1 => valU es v u + (if (u : Int) = v then 0 else betw es u v)
theorem betw_range {es : List Edg} (h : ∀ x ∈ es, 0 ≤ x.m ∧ x.m ≤ 50) (a b : Int) : 0 ≤ betw es a b ∧ betw es a b ≤ 50 := by
  induction es with
  | nil => simp [betw]
  | cons x r ih =>
    unfold betw
    split
    · exact h x (by simp)
    · exact ih fun y hy => h y (by simp [hy])
theorem valU_range {es : List Edg} (h : ∀ x ∈ es, 0 ≤ x.m ∧ x.m ≤ 50) (v : Int) : ∀ u, 0 ≤ valU es v u ∧ valU es v u ≤ 50 * u
  | 0 => by simp [valU]
  | u + 1 => by
    have h1 := valU_range h v u
    have h2 := betw_range h u v
    unfold valU
    split <;> omega

def degU (n : Nat) (es : List Edg) (v : Int) : Int := valU es v n + 2 * betw es v v
end Go.Proofs.YthpknfoahimopaaGreatDoor

set_option linter.unusedVariables false
set_option linter.unusedSimpArgs false
namespace Go.Proofs.YthpknfoahimopaaGreatDoor
open Go.RowKit

theorem iInfo : (Tryz.prog.info? 3).map (fun i => (i.zero, i.size, i.bytes)) = some (some (.int .i64 0), 1, 8) := by kernel_rfl


end Go.Proofs.YthpknfoahimopaaGreatDoor

set_option linter.unusedVariables false
set_option linter.unusedSimpArgs false
set_option linter.unnecessarySimpa false
namespace Go.Proofs.YthpknfoahimopaaGreatDoor
open Go.RowKit

/-- The digits of a text, leaving out the sign. -/
def dgF (l : List UInt8) : List Nat := digT (l.filter (· != 45))
theorem dgF_cons {c : UInt8} {r : List UInt8} (h : c ≠ 45) : dgF (c :: r) = dgF r ++ [dgt c] := by
  unfold dgF digT
  rw [List.filter_cons_of_pos (by simpa using h), List.reverse_cons, List.map_append]
  rfl
theorem dgF_sign {r : List UInt8} : dgF (45 :: r) = dgF r := by
  unfold dgF
  rw [List.filter_cons_of_neg (by simp)]
theorem dgF_dgts {l : List UInt8} (h : ∀ c ∈ l, isDgt c) : dgF l = digT l := by
  unfold dgF
  rw [List.filter_eq_self.2]
  intro c hc
  have h1 := (h c hc).1
  simp only [bne_iff_ne, ne_eq]
  rintro rfl
  exact absurd h1 (by decide)
theorem dgF_txtI (z : Int) : dgF (txtI z) = digT (txtN z.natAbs) := by
  unfold txtI
  split
  · rw [dgF_sign]
    exact dgF_dgts (txtN_dgt _)
  · exact dgF_dgts (txtN_dgt _)
theorem dig_nat (n : Nat) : Dgt (digT (txtN n)) ∧ valB BD (digT (txtN n)) = n := ⟨digT_lt (txtN_dgt n), valT_txtN n⟩
/-- Digits of the call's own as a slice. -/
theorem own_digits {base : Nat} {e : TypeId} {w : World} {v : Value} {xs : List Nat} (h : OwnS dgtR 1 base e Non w v xs) : ∃ oa c, v = .slice oa xs.length c ∧ xs.length ≤ c ∧ c ≤ 9223372036854775807 ∧ SliceR dgtR 1 All w oa xs := by
  obtain ⟨oa, c, hv, hc, hs⟩ := h.slice dgtR_ok
  refine ⟨oa, c, hv, hc, ?_, hs.all dgtR_ok (by decide)⟩
  obtain ⟨cells, ho, _⟩ := h
  rcases ho.2 with ⟨hn, _⟩ | ⟨g, cap, cur, hn, _, _, _, hm, _⟩
  · rw [hv] at hn; injection hn; omega
  · rw [hv] at hn; injection hn; unfold maxLen at hm; omega
set_option maxRecDepth 100000 in
set_option maxHeartbeats 4000000 in
theorem rdigits_any {z : Int} (hz : lenI z ≤ 100000) (w : World) : Calls Tryz.prog 56 #[.string (strN (txtI z))] w (DigPost w z.natAbs) := by
  obtain ⟨l, hl⟩ : ∃ l, l = txtI z := ⟨_, rfl⟩
  have HFIN : Hid (dgF l = digT (txtN z.natAbs)) := by show _ = _; rw [hl]; exact dgF_txtI z
  have hlen : l.length ≤ 100001 := by rw [hl]; exact Nat.le_trans (txtI_len z) (by omega)
  have HCH : Hid (∀ c ∈ l, c = 45 ∨ isDgt c) := fun c hc => by
    rw [hl] at hc
    unfold txtI at hc
    split at hc
    · rcases List.mem_cons.1 hc with h | h
      · exact .inl h
      · exact .inr (txtN_dgt _ c h)
    · exact .inr (txtN_dgt _ c hc)
  rw [← hl]
  have HZ := hide (dig_nat z.natAbs)
  obtain ⟨v, hv⟩ : ∃ v, v = z.natAbs := ⟨_, rfl⟩
  rw [← hv] at HFIN HZ ⊢
  have hsz : (strN l).size = l.length := rfl
  clear hl hz hv
  go_enter Tryz.func56, Tryz.ntmps56
  go_wp2_with fail
  go_loopg [3, 4] l.length (fun gm ov iv wx => ∃ (k : Nat) (o : List Nat), k ≤ l.length ∧ gm = k ∧ iv = .int .i64 ((k : Int) - 1) ∧ Hid (o = dgF (l.drop k)) ∧ Hid (o.length ≤ l.length - k) ∧ Hid (OwnS dgtR 1 w.heap.size 3 Non wx ov o) ∧ Hid (Below w.heap.size w wx))
  case atStart => exact ⟨l.length, [], by omega, by omega, by rfl, (show _ = _ by rw [List.drop_length]; rfl), (by show _ ≤ _; simp), OwnS.nil _ _ _ _ _ _, Below.refl _ _⟩
  case round =>
    obtain ⟨k, o, hk, hgm, rfl, HO, HL, HW, HB⟩ := hrel
    have HGM := hide hgm
    clear hgm
    rcases Nat.eq_zero_or_pos k with hk0 | hk0
    · subst hk0
      have q1 : decide ((0 : Int) ≤ ((0 : Nat) : Int) - 1) = false := by simp
      obtain ⟨oo, co, rfl, hco, hcm, hso⟩ := own_digits HW.out
      have HSO := hide hso
      have HOD : Hid (o = digT (txtN v)) := by
        have := HO.out
        rw [List.drop_zero, HFIN.out] at this
        exact this
      clear hso
      go_wp2_with (go_at_call 98; refine (rcut_any o oo co All _ HSO.out hco hcm).mono ?_; rintro e w5 ⟨rfl, rfl⟩)
      go_ret
      exact ⟨_, rfl, DigV.cut HSO.out (by rw [HOD.out]; exact HZ.out.1) hco hcm (by rw [HOD.out]; exact HZ.out.2), HB.out⟩
    · obtain ⟨j, rfl⟩ : ∃ j, k = j + 1 := ⟨k - 1, by omega⟩
      have hj : j < l.length := by omega
      obtain ⟨c, hc⟩ : ∃ c, l[j]? = some c := ⟨_, List.getElem?_eq_getElem hj⟩
      have e1 : (((j + 1 : Nat) : Int) - 1) = (j : Int) := by omega
      rw [e1]
      have HDR : Hid (l.drop j = c :: l.drop (j + 1)) := by
        have h1 := List.getElem?_eq_some_iff.1 hc
        show _ = _
        rw [List.drop_eq_getElem_cons h1.1, h1.2]
      have q2 : decide ((0 : Int) ≤ (j : Int)) = true := by simp
      have hj0 : (0 : Int) ≤ j := by omega
      have ts : j < (strN l).size := by rw [hsz]; exact hj
      have tc : (strN l)[j]'ts = c := (List.getElem?_eq_some_iff.1 hc).2
      have HMEM := hide (HCH.out c (List.mem_of_getElem? hc))
      have HC := hide hc
      clear hc e1
      by_cases h45 : c = 45
      · subst h45
        have t45 : (((45 : UInt8).toNat : Int) != 45) = false := rfl
        have HO2 : Hid (o = dgF (l.drop j)) := by show _ = _; rw [HDR.out, dgF_sign]; exact HO.out
        have HL2 : Hid (o.length ≤ l.length - j) := by have := HL.out; show _ ≤ _; omega
        go_wp2_with fail
        go_roundg j
        case rel => exact ⟨j, o, by omega, rfl, by go_num, HO2, HL2, HW, HB⟩
        case measure => rw [HGM.out]; omega
      · have hd : isDgt c := by
          rcases HMEM.out with h | h
          · exact absurd h h45
          · exact h
        obtain ⟨x, hx⟩ : ∃ x, x = c.toNat := ⟨_, rfl⟩
        have tx : ((strN l)[j]'ts).toNat = x := by rw [tc, hx]
        obtain ⟨h1, h2⟩ := hd
        rw [← hx] at h1 h2
        have t45 : ((x : Int) != 45) = true := by
          simp only [bne_iff_ne, ne_eq]
          intro e
          exact h45 (UInt8.toNat_inj.1 (by rw [← hx]; show x = 45; omega))
        have hw1 : IntKind.u8.wrap ((x : Int) - 48) = ((x - 48 : Nat) : Int) := by unfold IntKind.wrap; simp [IntKind.signed, IntKind.bits]; omega
        have HO2 : Hid (o ++ [x - 48] = dgF (l.drop j)) := by
          show _ = _
          rw [HDR.out, dgF_cons h45, ← HO.out, show dgt c = x - 48 from by unfold dgt; rw [hx]]
        have HL2 : Hid ((o ++ [x - 48]).length ≤ l.length - j) := by have := HL.out; show _ ≤ _; rw [List.length_append]; simp; omega
        clear tc hx h45
        go_wp2_with (at_builtin; refine wpList_append_rep rfl (.tmp 16) (.tmp 22) 82 rfl w.heap.size 3 _ 1 8 Tryz.underlying82 iInfo rfl (by decide) dgtR_ok Non All u3 o (by simp [Act.eval, Act.put]) (HW.out.new dgtR_ok _) (some ⟨wr.heap.size, 0, none⟩) 1 [x - 48] (by simp [Act.eval, Act.put]) (dgtl wr 3 _ (x - 48) rfl (by omega)) (fun _ _ h => h) (fun _ h => h.elim) (by have := HL.out; simp; omega) (by have := HL.out; simp; omega) (by have := HB.out.size; simp; omega) ?_; intro v' w2 ho2 hb2 hg2; have HW2 := hide ho2; have HB2 := hide hb2; clear ho2 hb2 hg2)
        go_roundg j
        case rel => exact ⟨j, o ++ [x - 48], by omega, rfl, by go_num, HO2, HL2, HW2, (HB.out.alloc HB.out.size _).trans HB2.out⟩
        case measure => rw [HGM.out]; omega
end Go.Proofs.YthpknfoahimopaaGreatDoor

set_option linter.unusedVariables false
set_option linter.unusedSimpArgs false
set_option linter.unnecessarySimpa false
namespace Go.Proofs.YthpknfoahimopaaGreatDoor
open Go.RowKit

theorem conv1 (W : World) {x : Nat} (hx : x < 10) : (convert 112 9 (.slice (some ⟨W.heap.size, 0, none⟩) 1 1)).run Tryz.prog (W.alloc (.cells #[.int .u8 (48 + (x : Int))] 5)) = .ok (.string ⟨#[byteD x]⟩) (W.alloc (.cells #[.int .u8 (48 + (x : Int))] 5)) := by
  refine Lib.run_convert_whole (P := Tryz.prog) _ 112 5 9 Tryz.underlying112 Tryz.underlying5 Tryz.underlying9 W.heap.size 0 ⟨#[byteD x]⟩ ?_ 1
  intro i hi
  have hi0 : i = 0 := by
    have h1 : i < 1 := hi
    omega
  subst hi0
  have h1 := (Box.new W [.int .u8 (48 + (x : Int))] 5).cell 0
  refine h1.trans ?_
  show some _ = some (Value.int .u8 (((byteD x).toNat : Nat) : Int))
  rw [byteD_nat hx]
  rfl
set_option maxRecDepth 100000 in
set_option maxHeartbeats 4000000 in
theorem rtext_any {n : Nat} {v : Value} {w : World} (h : DigV w v n) (hn : (dgs n).length ≤ 200000) (b : Bool) : Calls Tryz.prog 102 #[v, .bool b] w fun e w' => e = .returned (.string (strN (txtI (sgZ b n)))) ∧ Below w.heap.size w w' := by
  obtain ⟨oa, c, rfl, hc, hm, hs⟩ := h
  have HS := hide hs
  obtain ⟨l, hl⟩ : ∃ l, l = dgs n := ⟨_, rfl⟩
  have HD : Hid (Dgt l) := by show Dgt l; rw [hl]; exact dgs_dgt n
  have HL := hide hl
  rw [← hl] at HS hn hc ⊢
  clear hs hl
  obtain ⟨res, hres⟩ : ∃ r, r = strN (txtI (sgZ b n)) := ⟨_, rfl⟩
  rw [← hres]
  have HRES := hide hres
  clear hres
  by_cases h0 : l.length = 0
  · have q0 : ((l.length : Int) == 0) = true := by simp [h0]
    go_enter Tryz.func102, Tryz.ntmps102
    have hn0 : n = 0 := by
      have h5 : l = [] := List.eq_nil_of_length_eq_zero h0
      exact dgs_nil (HL.out.symm.trans h5)
    have HR : Hid (res = ⟨#[48]⟩) := by
      refine HRES.out.trans ?_
      subst hn0
      cases b <;> rfl
    clear hn0
    go_wp2_with fail
    go_ret
    exact ⟨by rw [HR.out]; rfl, Below.refl _ _⟩
  · have q0 : ((l.length : Int) == 0) = false := by simp; intro e; exact h0 (by rw [e]; rfl)
    go_enter Tryz.func102, Tryz.ntmps102
    go_wp2_with fail
    go_loopg [5, 6] l.length (fun gm sv iv wx => ∃ (k : Nat) (s : ByteArray), k ≤ l.length ∧ gm = l.length - k ∧ iv = .int .i64 k ∧ sv = .string s ∧ s.size = k ∧ Hid (s = strN ((l.take k).map byteD).reverse) ∧ Hid (Below w.heap.size w wx))
    case atStart => exact ⟨0, _, by omega, by omega, rfl, rfl, rfl, rfl, Below.refl _ _⟩
    case round =>
      obtain ⟨k, s, hk, hgm, rfl, rfl, hsk, HV, HB⟩ := hrel
      have HGM := hide hgm
      clear hgm
      by_cases hlt : k < l.length
      · obtain ⟨x, _, hx, hxb, bb, off, hoa, _, cx⟩ := (HS.out.below dgtR_ok HB.out).dgt_at hlt
        subst hoa
        have hx10 := dgt_get HD.out hx
        have HX := hide hx
        have hw1 : IntKind.u8.wrap (48 + (x : Int)) = ((48 + x : Nat) : Int) := by unfold IntKind.wrap; simp [IntKind.signed, IntKind.bits]; omega
        have hcv := conv1 wr hx10
        have tq : ¬ 9223372036854775807 < 1 + s.size := by omega
        have HV2 : Hid (⟨#[byteD x]⟩ ++ s = strN ((l.take (k + 1)).map byteD).reverse) := by
          show _ = _
          rw [HV.out, List.take_add_one, HX.out, List.map_append, List.reverse_append]
          apply ByteArray.ext
          apply Array.ext'
          simp [strN, ByteArray.data_append]
        have hs2 : ((⟨#[byteD x]⟩ : ByteArray) ++ s).size = k + 1 := by rw [ByteArray.size_append, hsk]; show 1 + k = _; omega
        clear hx
        go_wp2_with fail
        go_roundg (l.length - (k + 1))
        case rel => exact ⟨k + 1, _, by omega, rfl, by go_num, rfl, hs2, HV2, bnew HB.out _⟩
        case measure => rw [HGM.out]; omega
      · have hn0 : n ≠ 0 := by
          intro e
          apply h0
          rw [HL.out, e, dgs_zero]
          rfl
        have HVV : Hid (s = strN (txtN n)) := by
          have := HV.out
          rw [List.take_of_length_le (by omega), HL.out] at this
          show _ = _
          rw [this]
          unfold txtN
          rw [if_neg hn0]
          rfl
        have tq : ¬ 9223372036854775807 < 1 + s.size := by omega
        cases b
        · have HR : Hid (res = s) := by
            refine HRES.out.trans ?_
            rw [HVV.out]
            unfold txtI sgZ
            simp only [Bool.false_eq_true, if_false, Int.natAbs_natCast]
            rw [if_neg (by omega)]
          go_wp2_with fail
          go_ret
          exact ⟨by rw [HR.out]; rfl, HB.out⟩
        · have HR : Hid (res = ⟨#[45]⟩ ++ s) := by
            refine HRES.out.trans ?_
            rw [HVV.out]
            unfold txtI sgZ
            rw [if_pos (by simp; omega)]
            apply ByteArray.ext
            apply Array.ext'
            simp [strN, ByteArray.data_append]
          go_wp2_with fail
          go_ret
          exact ⟨by rw [HR.out]; rfl, HB.out⟩
end Go.Proofs.YthpknfoahimopaaGreatDoor

set_option linter.unusedVariables false
set_option linter.unusedSimpArgs false
set_option linter.unnecessarySimpa false
namespace Go.Proofs.YthpknfoahimopaaGreatDoor
open Go.RowKit

theorem DigV.mk' {w : World} {oa : Option Addr} {l : List Nat} {c n : Nat} {F : Foot} (h : SliceR dgtR 1 F w oa l) (hl : Dgt l) (hk : Cut l) (hc : l.length ≤ c) (hm : c ≤ 9223372036854775807) (hn : valB BD l = n) : DigV w (.slice oa l.length c) n := by
  subst hn
  have e := dgs_of hl hk
  exact ⟨oa, c, by rw [e], by rw [e]; exact hc, hm, by rw [e]; exact h.all dgtR_ok (by decide)⟩
theorem cut_top {l : List Nat} (h : Cut l) {k : Nat} (hk : k + 1 = l.length) : l.getD k 0 ≠ 0 := by
  have h1 : l = l.take k ++ [l.getD k 0] := by
    have h2 : l.take (k + 1) = l := List.take_of_length_le (by omega)
    conv => lhs; rw [← h2]
    rw [List.take_add_one, List.getD_eq_getElem?_getD, List.getElem?_eq_getElem (by omega)]
    rfl
  rw [h1] at h
  exact cut_last_ne h
theorem cut_snoc {l : List Nat} {x : Nat} (h : x ≠ 0) : Cut (l ++ [x]) := cutB_take_ne.cut_last' h
set_option maxRecDepth 100000 in
set_option maxHeartbeats 4000000 in
theorem radded_any {x y : Nat} {v1 v2 : Value} {w : World} (h1 : DigV w v1 x) (h2 : DigV w v2 y) (hx : (dgs x).length ≤ 100000) (hy : (dgs y).length ≤ 100000) : Calls Tryz.prog 105 #[v1, v2] w (DigPost w (x + y)) := by
  obtain ⟨oa, ca, rfl, hca, hcm, hs⟩ := h1
  obtain ⟨ob, cb, rfl, hcb, hcm2, ht⟩ := h2
  have HVX : Hid (valB BD (dgs x) = x) := dgs_val x
  have HVY : Hid (valB BD (dgs y) = y) := dgs_val y
  have HWX := hide (dgs_dgt x)
  have HWY := hide (dgs_dgt y)
  have HCX := hide (dgs_cut x)
  have HCY := hide (dgs_cut y)
  generalize dgs x = p at *
  generalize dgs y = q at *
  have HS := hide hs
  have HT := hide ht
  obtain ⟨M, hM⟩ : ∃ M, M = max p.length q.length := ⟨_, rfl⟩
  have hM1 : p.length ≤ M := by omega
  have hM2 : q.length ≤ M := by omega
  have hM3 : M ≤ 100000 := by omega
  have HTOP : Hid (∀ k, k + 1 = M → p.getD k 0 ≠ 0 ∨ q.getD k 0 ≠ 0) := fun k hk => by
    by_cases h : p.length = M
    · exact .inl (cut_top HCX.out (by omega))
    · exact .inr (cut_top HCY.out (by omega))
  have HM0 : Hid (M = p.length ∨ M = q.length) := by show _ ∨ _; omega
  clear hs ht hM
  go_enter Tryz.func105, Tryz.ntmps105
  go_wp2_with fail
  go_loopg [5, 6, 7] (M + 1) (fun gm ov cv iv wx => ∃ (k c : Nat) (o : List Nat), k ≤ M + 1 ∧ gm = M + 1 - k ∧ iv = .int .i64 k ∧ cv = .int .i64 c ∧ c ≤ 1 ∧ Hid (k = M + 1 → c = 0) ∧ Hid (o.length = k) ∧ Hid (Dgt o) ∧ Hid (M ≤ k → c = 0 → Cut o) ∧ Hid (valB BD o + BD ^ k * c = valB BD (p.take k) + valB BD (q.take k)) ∧ Hid (OwnS dgtR 1 w.heap.size 3 Non wx ov o) ∧ Hid (Below w.heap.size w wx))
  case atStart => exact ⟨0, 0, [], by omega, by omega, rfl, rfl, by omega, (fun h => rfl), rfl, (show Dgt [] from fun d hd => by cases hd), (fun _ _ => rfl), (show _ = _ from by simp [valB]), OwnS.nil _ _ _ _ _ _, Below.refl _ _⟩
  case round =>
    obtain ⟨k, c, o, hk, hgm, rfl, rfl, hc1, HCL, HL, HD, HCU, HE, HO, HB⟩ := hrel
    have HGM := hide hgm
    clear hgm
    by_cases hgo : k < p.length ∨ k < q.length ∨ 0 < c
    · have hkM : k < M + 1 := by
        rcases Nat.lt_or_ge k (M + 1) with h | h
        · exact h
        · have := HCL.out (by omega)
          omega
      obtain ⟨a, ha⟩ : ∃ a, a = p.getD k 0 := ⟨_, rfl⟩
      obtain ⟨b, hb⟩ : ∃ b, b = q.getD k 0 := ⟨_, rfl⟩
      have ha9 : a < 10 := by rw [ha]; exact dgt_getD HWX.out k
      have hb9 : b < 10 := by rw [hb]; exact dgt_getD HWY.out k
      have HA : Hid (∀ w', Below w.heap.size w w' → Calls Tryz.prog 123 #[.slice oa p.length ca, .int .i64 k] w' fun e w2 => e = .returned (.int .i64 a) ∧ w' = w2) := fun w' hb => by rw [ha]; exact rdigit_any p oa ca All k w' (HS.out.below dgtR_ok hb)
      have HBB : Hid (∀ w', Below w.heap.size w w' → Calls Tryz.prog 123 #[.slice ob q.length cb, .int .i64 k] w' fun e w2 => e = .returned (.int .i64 b) ∧ w' = w2) := fun w' hb' => by rw [hb]; exact rdigit_any q ob cb All k w' (HT.out.below dgtR_ok hb')
      obtain ⟨t, ht⟩ : ∃ t : Nat, t = a + c + b := ⟨_, rfl⟩
      have E1 : Hid ((c : Int) + ((a : Int) + (b : Int)) = (t : Int)) := by show _ = _; omega
      have ht2 : t < 20 := by omega
      have HE2 : Hid (valB BD (o ++ [t % BD]) + BD ^ (k + 1) * (t / BD) = valB BD (p.take (k + 1)) + valB BD (q.take (k + 1))) := add_step HL.out HE.out (by rw [← ha, ← hb]; exact ht)
      have HCU2 : Hid (M ≤ k + 1 → t / 10 = 0 → Cut (o ++ [t % 10])) := fun h1 h2 => cut_snoc (by
        by_cases h : 0 < c
        · omega
        · have hh : k + 1 = M := by omega
          have := HTOP.out k hh
          rw [← ha, ← hb] at this
          omega)
      have HCL2 : Hid (k + 1 = M + 1 → t / 10 = 0) := fun h => by
        have h1 : k = M := by omega
        have h2 : a = 0 := by rw [ha, List.getD_eq_getElem?_getD, List.getElem?_eq_none (by omega)]; rfl
        have h3 : b = 0 := by rw [hb, List.getD_eq_getElem?_getD, List.getElem?_eq_none (by omega)]; rfl
        omega
      clear ha hb ht
      by_cases g1 : k < p.length
      · go_upto_region 7 with (first
          | (go_at_call 123; (with_reducible refine (HA.out _ HB.out).mono ?_); rintro ec w5 ⟨rfl, rfl⟩)
          | (go_at_call 123; (with_reducible refine (HBB.out _ HB.out).mono ?_); rintro ec w5 ⟨rfl, rfl⟩))
        rw [E1.out]
        have HT2 : Hid ((t : Int) % 10 = ((t % 10 : Nat) : Int)) := by show _ = _; omega
        have HT3 : Hid (t % 10 < 4294967296) := by show _ < _; omega
        go_wp2_with (at_builtin; refine wpList_append_rep rfl (.tmp 33) (.tmp 36) 82 rfl w.heap.size 3 _ 1 8 Tryz.underlying82 iInfo rfl (by decide) dgtR_ok Non All u5 o (by simp [Act.eval, Act.put]) (HO.out.new dgtR_ok _) (some ⟨wr.heap.size, 0, none⟩) 1 [t % 10] (by simp [Act.eval, Act.put]) (dgtl wr 3 _ (t % 10) HT2.out HT3.out) (fun _ _ h => h) (fun _ h => h.elim) (by have := HL.out; simp; omega) (by have := HL.out; simp; omega) (by have := HB.out.size; simp; omega) ?_; intro v' w2 ho2 hb2 hg2; have HO2 := hide ho2; have HB2 := hide hb2; clear ho2 hb2 hg2)
        go_roundg (M + 1 - (k + 1))
        case rel => exact ⟨k + 1, t / 10, o ++ [t % 10], by omega, rfl, by go_num, by rfl, by omega, HCL2, (show _ = _ from by rw [List.length_append, HL.out]; rfl), (show Dgt _ from dgt_snoc HD.out (by omega)), HCU2, HE2, HO2, (HB.out.alloc HB.out.size _).trans HB2.out⟩
        case measure => rw [HGM.out]; omega
      · by_cases g2 : k < q.length
        · go_upto_region 7 with (first
            | (go_at_call 123; (with_reducible refine (HA.out _ HB.out).mono ?_); rintro ec w5 ⟨rfl, rfl⟩)
            | (go_at_call 123; (with_reducible refine (HBB.out _ HB.out).mono ?_); rintro ec w5 ⟨rfl, rfl⟩))
          rw [E1.out]
          have HT2 : Hid ((t : Int) % 10 = ((t % 10 : Nat) : Int)) := by show _ = _; omega
          have HT3 : Hid (t % 10 < 4294967296) := by show _ < _; omega
          go_wp2_with (at_builtin; refine wpList_append_rep rfl (.tmp 33) (.tmp 36) 82 rfl w.heap.size 3 _ 1 8 Tryz.underlying82 iInfo rfl (by decide) dgtR_ok Non All u5 o (by simp [Act.eval, Act.put]) (HO.out.new dgtR_ok _) (some ⟨wr.heap.size, 0, none⟩) 1 [t % 10] (by simp [Act.eval, Act.put]) (dgtl wr 3 _ (t % 10) HT2.out HT3.out) (fun _ _ h => h) (fun _ h => h.elim) (by have := HL.out; simp; omega) (by have := HL.out; simp; omega) (by have := HB.out.size; simp; omega) ?_; intro v' w2 ho2 hb2 hg2; have HO2 := hide ho2; have HB2 := hide hb2; clear ho2 hb2 hg2)
          go_roundg (M + 1 - (k + 1))
          case rel => exact ⟨k + 1, t / 10, o ++ [t % 10], by omega, rfl, by go_num, by rfl, by omega, HCL2, (show _ = _ from by rw [List.length_append, HL.out]; rfl), (show Dgt _ from dgt_snoc HD.out (by omega)), HCU2, HE2, HO2, (HB.out.alloc HB.out.size _).trans HB2.out⟩
          case measure => rw [HGM.out]; omega
        · have g3 : 0 < c := by omega
          go_upto_region 7 with (first
            | (go_at_call 123; (with_reducible refine (HA.out _ HB.out).mono ?_); rintro ec w5 ⟨rfl, rfl⟩)
            | (go_at_call 123; (with_reducible refine (HBB.out _ HB.out).mono ?_); rintro ec w5 ⟨rfl, rfl⟩))
          rw [E1.out]
          have HT2 : Hid ((t : Int) % 10 = ((t % 10 : Nat) : Int)) := by show _ = _; omega
          have HT3 : Hid (t % 10 < 4294967296) := by show _ < _; omega
          go_wp2_with (at_builtin; refine wpList_append_rep rfl (.tmp 33) (.tmp 36) 82 rfl w.heap.size 3 _ 1 8 Tryz.underlying82 iInfo rfl (by decide) dgtR_ok Non All u5 o (by simp [Act.eval, Act.put]) (HO.out.new dgtR_ok _) (some ⟨wr.heap.size, 0, none⟩) 1 [t % 10] (by simp [Act.eval, Act.put]) (dgtl wr 3 _ (t % 10) HT2.out HT3.out) (fun _ _ h => h) (fun _ h => h.elim) (by have := HL.out; simp; omega) (by have := HL.out; simp; omega) (by have := HB.out.size; simp; omega) ?_; intro v' w2 ho2 hb2 hg2; have HO2 := hide ho2; have HB2 := hide hb2; clear ho2 hb2 hg2)
          go_roundg (M + 1 - (k + 1))
          case rel => exact ⟨k + 1, t / 10, o ++ [t % 10], by omega, rfl, by go_num, by rfl, by omega, HCL2, (show _ = _ from by rw [List.length_append, HL.out]; rfl), (show Dgt _ from dgt_snoc HD.out (by omega)), HCU2, HE2, HO2, (HB.out.alloc HB.out.size _).trans HB2.out⟩
          case measure => rw [HGM.out]; omega
    · have g1 : ¬ k < p.length := fun h => hgo (.inl h)
      have g2 : ¬ k < q.length := fun h => hgo (.inr (.inl h))
      have g3 : c = 0 := by have h : ¬ 0 < c := fun h => hgo (.inr (.inr h)); omega
      subst g3
      have HCO : Hid (Cut o) := HCU.out (by have := HM0.out; omega) rfl
      have HVO : Hid (valB BD o = x + y) := by
        have := HE.out
        rw [List.take_of_length_le (by omega), List.take_of_length_le (by omega), HVX.out, HVY.out] at this
        show _ = _
        omega
      obtain ⟨oo, co, rfl, hco, hcmo, hso⟩ := own_digits HO.out
      have HSO := hide hso
      clear hso hgo
      go_wp2_with fail
      go_ret
      exact ⟨_, rfl, DigV.mk' HSO.out HD.out HCO.out hco hcmo HVO.out, HB.out⟩
end Go.Proofs.YthpknfoahimopaaGreatDoor

set_option linter.unusedVariables false
set_option linter.unusedSimpArgs false
set_option linter.unnecessarySimpa false
namespace Go.Proofs.YthpknfoahimopaaGreatDoor
open Go.RowKit

/-- Digits in blocks from base on. -/
def DigO (base : Nat) (w : World) (v : Value) (n : Nat) : Prop := ∃ oa c, v = .slice oa (dgs n).length c ∧ (dgs n).length ≤ c ∧ c ≤ 9223372036854775807 ∧ SliceR dgtR 1 (fun k => base ≤ k) w oa (dgs n)
theorem DigO.dig {base : Nat} {w : World} {v : Value} {n : Nat} (h : DigO base w v n) : DigV w v n := by
  obtain ⟨oa, c, h1, h2, h3, h4⟩ := h
  exact ⟨oa, c, h1, h2, h3, h4.all dgtR_ok (by decide)⟩
theorem DigO.below {base : Nat} {w w' : World} {v : Value} {n : Nat} (h : DigO base w v n) (hb : Below w.heap.size w w') : DigO base w' v n := by
  obtain ⟨oa, c, h1, h2, h3, h4⟩ := h
  exact ⟨oa, c, h1, h2, h3, h4.below dgtR_ok hb⟩
theorem DigO.cut {base : Nat} {w : World} {oa : Option Addr} {l : List Nat} {c : Nat} (h : SliceR dgtR 1 (fun k => base ≤ k) w oa l) (hl : Dgt l) (hc : l.length ≤ c) (hm : c ≤ 9223372036854775807) {n : Nat} (hn : valB BD l = n) : DigO base w (.slice oa (cutB l).length c) n := by
  subst hn
  refine ⟨oa, c, by rw [cut_dgs hl], by rw [← cut_dgs hl]; exact Nat.le_trans (cutB_len l) hc, hm, ?_⟩
  rw [← cut_dgs hl]
  have := h.dgt_take (cutB l).length
  rwa [← cutB_pre] at this
theorem own_digitsO {base : Nat} {e : TypeId} {w : World} {v : Value} {xs : List Nat} (h : OwnS dgtR 1 base e Non w v xs) : ∃ oa c, v = .slice oa xs.length c ∧ xs.length ≤ c ∧ c ≤ 9223372036854775807 ∧ SliceR dgtR 1 (fun k => base ≤ k) w oa xs := by
  obtain ⟨oa, c, hv, hc, hs⟩ := h.slice dgtR_ok
  refine ⟨oa, c, hv, hc, ?_, hs.wide dgtR_ok (by decide) fun k hk _ => hk.resolve_left fun h => h.elim⟩
  obtain ⟨cells, ho, _⟩ := h
  rcases ho.2 with ⟨hn, _⟩ | ⟨g, cap, cur, hn, _, _, _, hm, _⟩
  · rw [hv] at hn; injection hn; omega
  · rw [hv] at hn; injection hn; unfold maxLen at hm; omega
theorem quiet_drew {P : Program} {f : FuncId} {args : Array Value} {w : World} {n : Nat} {v : Value} (h : Calls P f args (w.drewN n) fun e w' => e = .returned v ∧ w.drewN n = w') : Calls P f args (w.drewN n) fun e w' => e = .returned v ∧ ∃ m, w' = w.drewN m := h.mono fun _ _ h => ⟨h.1, n, h.2.symm⟩
set_option maxRecDepth 100000 in
set_option maxHeartbeats 4000000 in
theorem rtaken_own {x y : Nat} {v1 v2 : Value} {w : World} (h1 : DigV w v1 x) (h2 : DigV w v2 y) (hx : (dgs x).length ≤ 200000) (hyx : y ≤ x) : Calls Tryz.prog 107 #[v1, v2] w fun e w' => ∃ v, e = .returned v ∧ DigO w.heap.size w' v (x - y) ∧ Below w.heap.size w w' := by
  obtain ⟨oa, ca, rfl, hca, hcm, hs⟩ := h1
  obtain ⟨ob, cb, rfl, hcb, hcm2, ht⟩ := h2
  have hlen : (dgs y).length ≤ (dgs x).length := by
    by_cases h : (dgs x).length < (dgs y).length
    · exfalso
      have := valB_len (b := BD) (by unfold BD; omega) (dgs_dgt x) (dgs_dgt y) (dgs_cut y) h
      rw [dgs_val, dgs_val] at this
      omega
    · omega
  have HVX : Hid (valB BD (dgs x) = x) := dgs_val x
  have HVY : Hid (valB BD (dgs y) = y) := dgs_val y
  have HWX := hide (dgs_dgt x)
  have HWY := hide (dgs_dgt y)
  generalize dgs x = p at *
  generalize dgs y = q at *
  have HS := hide hs
  have HT := hide ht
  clear hs ht
  go_enter Tryz.func107, Tryz.ntmps107
  go_wp2_with fail
  go_loopg [5, 6, 7, 8] p.length (fun gm ov cv iv s8 wx => ∃ (k c : Nat) (o : List Nat), k ≤ p.length ∧ gm = p.length - k ∧ iv = .int .i64 k ∧ cv = .int .i64 c ∧ c ≤ 1 ∧ Hid (o.length = k) ∧ Hid (Dgt o) ∧ Hid (valB BD o + valB BD (q.take k) = valB BD (p.take k) + BD ^ k * c) ∧ Hid (OwnS dgtR 1 w.heap.size 3 Non wx ov o) ∧ Hid (Below w.heap.size w wx))
  case atStart => exact ⟨0, 0, [], by omega, by omega, rfl, rfl, by omega, rfl, (show Dgt [] from fun d hd => by cases hd), (show _ = _ from by simp [valB]), OwnS.nil _ _ _ _ _ _, Below.refl _ _⟩
  case round =>
    obtain ⟨k, c, o, hk, hgm, rfl, rfl, hc1, HL, HD, HE, HO, HB⟩ := hrel
    have HGM := hide hgm
    clear hgm
    by_cases hlt : k < p.length
    · obtain ⟨a, _, ha, hab, ba, offa, hoa, _, c0⟩ := (HS.out.below dgtR_ok HB.out).dgt_at hlt
      subst hoa
      have ha9 := dgt_get HWX.out ha
      have hag : p.getD k 0 = a := by rw [List.getD_eq_getElem?_getD, ha]; rfl
      obtain ⟨b, hb⟩ : ∃ b, b = q.getD k 0 := ⟨_, rfl⟩
      have hb9 : b < 10 := by rw [hb]; exact dgt_getD HWY.out k
      have HBB : Hid (∀ w', Below w.heap.size w w' → Calls Tryz.prog 123 #[.slice ob q.length cb, .int .i64 k] w' fun e w2 => e = .returned (.int .i64 b) ∧ w' = w2) := fun w' hb' => by rw [hb]; exact rdigit_any q ob cb All k w' (HT.out.below dgtR_ok hb')
      have HBD := hide (below_drewN HB.out 1)
      have hw1 : IntKind.i64.wrap ((a : Int) - (b : Int)) = (a : Int) - (b : Int) := i64_in (by omega)
      have hw2 : IntKind.i64.wrap ((a : Int) - (b : Int) - (c : Int)) = (a : Int) - (b : Int) - (c : Int) := i64_in (by omega)
      by_cases hn : (a : Int) - (b : Int) - (c : Int) < 0
      · obtain ⟨d, hd⟩ : ∃ d : Nat, d = a + 10 - c - b := ⟨_, rfl⟩
        have E1 : Hid ((a : Int) - (b : Int) - (c : Int) + 10 = (d : Int)) := by show _ = _; omega
        have hd9 : d < 10 := by omega
        have HE2 : Hid (valB BD (o ++ [d]) + valB BD (q.take (k + 1)) = valB BD (p.take (k + 1)) + BD ^ (k + 1) * 1) := sub_step HL.out HE.out (by rw [hag, ← hb]; show d + b + c = a + 10 * 1; omega)
        clear hd ha hb hag
        go_wp2_with fail
        go_quiet ((go_at_call 123; exact quiet_drew (HBB.out _ (below_drewN HB.out _))))
        generalize hWD : wr.drewN _ = WD
        have HWD := hide hWD
        clear hWD
        go_upto_region 11 with fail
        rw [E1.out]
        have HOW : Hid (OwnS dgtR 1 w.heap.size 3 Non WD u5 o) := by show OwnS _ _ _ _ _ _ _ _; rw [← HWD.out]; exact HO.out.draws dgtR_ok _
        have HBW : Hid (Below w.heap.size w WD) := by show Below _ _ _; rw [← HWD.out]; exact below_drewN HB.out _
        go_wp2_with (at_builtin; refine wpList_append_rep rfl (.tmp 29) (.tmp 31) 82 rfl w.heap.size 3 _ 1 8 Tryz.underlying82 iInfo rfl (by decide) dgtR_ok Non All u5 o (by simp [Act.eval, Act.put]) (HOW.out.new dgtR_ok _) (some ⟨WD.heap.size, 0, none⟩) 1 [d] (by simp [Act.eval, Act.put]) (dgtl WD 3 _ d rfl (by omega)) (fun _ _ h => h) (fun _ h => h.elim) (by have := HL.out; simp; omega) (by have := HL.out; simp; omega) (by have := HBW.out.size; simp; omega) ?_; intro v' w2 ho2 hb2 hg2; have HO2 := hide ho2; have HB2 := hide hb2; clear ho2 hb2 hg2)
        go_roundg (p.length - (k + 1))
        case rel => exact ⟨k + 1, 1, o ++ [d], by omega, rfl, by go_num, by rfl, by omega, (show _ = _ from by rw [List.length_append, HL.out]; rfl), (show Dgt _ from dgt_snoc HD.out (by omega)), HE2, HO2, (HBW.out.alloc HBW.out.size _).trans HB2.out⟩
        case measure => rw [HGM.out]; omega
      · obtain ⟨d, hd⟩ : ∃ d : Nat, d = a - c - b := ⟨_, rfl⟩
        have E1 : Hid ((a : Int) - (b : Int) - (c : Int) = (d : Int)) := by show _ = _; omega
        have hd9 : d < 10 := by omega
        have HE2 : Hid (valB BD (o ++ [d]) + valB BD (q.take (k + 1)) = valB BD (p.take (k + 1)) + BD ^ (k + 1) * 0) := sub_step HL.out HE.out (by rw [hag, ← hb]; show d + b + c = a + 10 * 0; omega)
        clear hd ha hb hag
        go_wp2_with fail
        go_quiet ((go_at_call 123; exact quiet_drew (HBB.out _ (below_drewN HB.out _))))
        generalize hWD : wr.drewN _ = WD
        have HWD := hide hWD
        clear hWD
        go_upto_region 11 with fail
        rw [E1.out]
        have HOW : Hid (OwnS dgtR 1 w.heap.size 3 Non WD u5 o) := by show OwnS _ _ _ _ _ _ _ _; rw [← HWD.out]; exact HO.out.draws dgtR_ok _
        have HBW : Hid (Below w.heap.size w WD) := by show Below _ _ _; rw [← HWD.out]; exact below_drewN HB.out _
        go_wp2_with (at_builtin; refine wpList_append_rep rfl (.tmp 29) (.tmp 31) 82 rfl w.heap.size 3 _ 1 8 Tryz.underlying82 iInfo rfl (by decide) dgtR_ok Non All u5 o (by simp [Act.eval, Act.put]) (HOW.out.new dgtR_ok _) (some ⟨WD.heap.size, 0, none⟩) 1 [d] (by simp [Act.eval, Act.put]) (dgtl WD 3 _ d rfl (by omega)) (fun _ _ h => h) (fun _ h => h.elim) (by have := HL.out; simp; omega) (by have := HL.out; simp; omega) (by have := HBW.out.size; simp; omega) ?_; intro v' w2 ho2 hb2 hg2; have HO2 := hide ho2; have HB2 := hide hb2; clear ho2 hb2 hg2)
        go_roundg (p.length - (k + 1))
        case rel => exact ⟨k + 1, 0, o ++ [d], by omega, rfl, by go_num, by rfl, by omega, (show _ = _ from by rw [List.length_append, HL.out]; rfl), (show Dgt _ from dgt_snoc HD.out (by omega)), HE2, HO2, (HBW.out.alloc HBW.out.size _).trans HB2.out⟩
        case measure => rw [HGM.out]; omega
    · have HEND : Hid (c = 0 ∧ valB BD o = x - y) := by
        have h6 := HE.out
        rw [List.take_of_length_le (by omega), List.take_of_length_le (by omega)] at h6
        have hkp : k = p.length := by omega
        have h7 := sub_end (b := BD) (n := k) (x := p) (y := q) HL.out HD.out (by rw [hkp] at h6 ⊢; exact h6) (by rw [HVX.out, HVY.out]; exact hyx)
        rw [HVX.out, HVY.out] at h7
        exact h7
      obtain ⟨oo, co, rfl, hco, hcmo, hso⟩ := own_digitsO HO.out
      have HSO := hide hso
      clear hso
      go_wp2_with (go_at_call 98; refine (rcut_any o oo co _ _ HSO.out hco hcmo).mono ?_; rintro e w5 ⟨rfl, rfl⟩)
      go_ret
      exact ⟨_, rfl, DigO.cut HSO.out HD.out hco hcmo HEND.out.2, HB.out⟩
theorem rtaken_any {x y : Nat} {v1 v2 : Value} {w : World} (h1 : DigV w v1 x) (h2 : DigV w v2 y) (hx : (dgs x).length ≤ 200000) (hyx : y ≤ x) : Calls Tryz.prog 107 #[v1, v2] w (DigPost w (x - y)) :=
  (rtaken_own h1 h2 hx hyx).mono fun _ _ ⟨v, h1, h2, h3⟩ => ⟨v, h1, h2.dig, h3⟩
end Go.Proofs.YthpknfoahimopaaGreatDoor

set_option linter.unusedVariables false
set_option linter.unusedSimpArgs false
set_option linter.unnecessarySimpa false
namespace Go.Proofs.YthpknfoahimopaaGreatDoor
open Go.RowKit

set_option maxRecDepth 100000 in
set_option maxHeartbeats 4000000 in
theorem rmul_any {x y : Nat} {v1 v2 : Value} {w : World} (h1 : DigV w v1 x) (h2 : DigV w v2 y) (hx : (dgs x).length ≤ 100000) (hy : (dgs y).length ≤ 100000) : Calls Tryz.prog 109 #[v1, v2] w (DigPost w (x * y)) := by
  obtain ⟨oa, ca, rfl, hca, hcm, hs⟩ := h1
  obtain ⟨ob, cb, rfl, hcb, hcm2, ht⟩ := h2
  have HVX : Hid (valB BD (dgs x) = x) := dgs_val x
  have HVY : Hid (valB BD (dgs y) = y) := dgs_val y
  have HWP := hide (dgs_dgt x)
  have HWQ := hide (dgs_dgt y)
  generalize dgs x = p at *
  generalize dgs y = q at *
  have HSP := hide hs
  have HSQ := hide ht
  clear hs ht
  go_enter Tryz.func109, Tryz.ntmps109
  go_wp2_with (at_make; refine wpList_make_row _ rfl _ _ 82 rfl 3 0 8 Tryz.underlying82 (f := i64N) iInfo rfl .i64 .i64 _ _ (p.length + q.length) rfl rfl (by push_cast; rfl) (by push_cast; rfl) (by omega) (by unfold maxLen; omega) (fun w1 hrow hb1 hg1 => ?_); have HR1 := hide hrow; have HB1 := hide hb1; clear hrow hb1 hg1)
  go_loopg [6, 7, 8] p.length (fun gm iv s7 s8 wx => ∃ (i : Nat) (L : List Nat), i ≤ p.length ∧ gm = p.length - i ∧ iv = .int .i64 i ∧ Hid (L.length = p.length + q.length) ∧ Hid (Dgt L) ∧ Hid (valB BD L = valB BD (p.take i) * valB BD q) ∧ Hid (∀ j, i + q.length ≤ j → j < p.length + q.length → L[j]? = some 0) ∧ Hid (Row1 i64N wx w.heap.size 3 L []) ∧ Hid (Below w.heap.size w wx))
  case atStart => exact ⟨0, List.replicate (p.length + q.length) 0, by omega, by omega, rfl, (show _ = _ from List.length_replicate), (show Dgt _ from dgt_zeros _), (show _ = _ from by rw [valB_replicate]; simp [valB]), fun j _ hj => by rw [List.getElem?_replicate, if_pos hj], HR1, HB1⟩
  case round =>
    obtain ⟨i, L, hi, hgm, rfl, HL, HW, HE, HZ, HR, HB⟩ := hrel
    have HGM := hide hgm
    clear hgm
    by_cases hlt : i < p.length
    · obtain ⟨a, ha⟩ : ∃ a, p[i]? = some a := ⟨_, List.getElem?_eq_getElem hlt⟩
      have HA := hide ha
      have ha9 := dgt_get HWP.out ha
      clear ha
      go_wp2_with fail
      go_loopg [7, 8] (q.length + 1) (fun gm cv kv wx => ∃ (k c : Nat) (L2 : List Nat), k ≤ q.length + 1 ∧ gm = q.length + 1 - k ∧ kv = .int .i64 k ∧ cv = .int .i64 c ∧ c < 10 ∧ Hid (k = q.length + 1 → c = 0) ∧ Hid (L2.length = p.length + q.length) ∧ Hid (Dgt L2) ∧ Hid (valB BD L2 + BD ^ (i + k) * c = valB BD L + a * (BD ^ i * valB BD (q.take k))) ∧ Hid (∀ j, i + q.length ≤ j → i + k ≤ j → j < p.length + q.length → L2[j]? = some 0) ∧ Hid (Row1 i64N wx w.heap.size 3 L2 []) ∧ Hid (Below w.heap.size w wx))
      case atStart => exact ⟨0, 0, L, by omega, by omega, rfl, rfl, by omega, (fun _ => rfl), HL, HW, (show _ = _ from by simp [valB]), (fun j h1 _ h3 => HZ.out j h1 h3), HR, HB⟩
      case round =>
        obtain ⟨k, c, L2, hk, hgm, rfl, rfl, hc9, HCL, HL2, HW2, HE2, HZ2, HR2, HB2⟩ := hrel
        have HGM2 := hide hgm
        clear hgm
        by_cases hgo : k < q.length ∨ 0 < c
        · have hkq : k < q.length + 1 := by
            rcases Nat.lt_or_ge k (q.length + 1) with h | h
            · exact h
            · have := HCL.out (by omega)
              omega
          obtain ⟨b, hb⟩ : ∃ b, b = q.getD k 0 := ⟨_, rfl⟩
          have hb9 : b < 10 := by rw [hb]; exact dgt_getD HWQ.out k
          have HBB : Hid (∀ w', Below w.heap.size w w' → Calls Tryz.prog 123 #[.slice ob q.length cb, .int .i64 k] w' fun e w2 => e = .returned (.int .i64 b) ∧ w' = w2) := fun w' hb' => by rw [hb]; exact rdigit_any q ob cb All k w' (HSQ.out.below dgtR_ok hb')
          obtain ⟨a', _, ha', _, ba, offa, hoa, _, ca0⟩ := (HSP.out.below dgtR_ok HB2.out).dgt_at hlt
          subst hoa
          obtain rfl : a' = a := Option.some.inj (ha'.symm.trans HA.out)
          have hjl : i + k < L2.length := by have := HL2.out; omega
          obtain ⟨t, ht⟩ : ∃ t, L2[i + k]? = some t := ⟨_, List.getElem?_eq_getElem hjl⟩
          have ht9 := dgt_get HW2.out ht
          have l1 : wr.cell? ⟨w.heap.size, i + k, none⟩ = some (.int .i64 (t : Int)) := HR2.out.cell ht
          have fz := HR2.out.free (i + k)
          obtain ⟨m, hm⟩ : ∃ m : Nat, m = a' * b := ⟨_, rfl⟩
          have hm9 : m ≤ 81 := by rw [hm]; exact Nat.le_trans (Nat.mul_le_mul (show a' ≤ 9 by omega) (show b ≤ 9 by omega)) (by omega)
          have E0 : (a' : Int) * (b : Int) = (m : Int) := by rw [hm]; push_cast; rfl
          obtain ⟨W, hW⟩ : ∃ W : Nat, W = t + m + c := ⟨_, rfl⟩
          have E1 : Hid ((c : Int) + ((t : Int) + (m : Int)) = (W : Int)) := by show _ = _; rw [hW]; push_cast; omega
          have hWc : W / BD < BD := mul_carry BD0 ht9 ha9 hb9 hc9 (by rw [hW, hm])
          have HE3 : Hid (valB BD (L2.set (i + k) (W % BD)) + BD ^ (i + k + 1) * (W / BD) = valB BD L + a' * (BD ^ i * valB BD (q.take (k + 1)))) := mul_step rfl ht HE2.out (by rw [← hb, ← hm]; exact hW)
          have hWb : W < 200 := by omega
          have HCL2 : Hid (k + 1 = q.length + 1 → W / 10 = 0) := fun h => by
            have hk1 : k = q.length := by omega
            have h1 := HZ2.out (i + k) (by omega) (by omega) (by omega)
            rw [ht] at h1
            have h2 : t = 0 := Option.some.inj h1
            have h3 : b = 0 := by rw [hb, List.getD_eq_getElem?_getD, List.getElem?_eq_none (by omega)]; rfl
            rw [h3, Nat.mul_zero] at hm
            omega
          have HJL := hide hjl
          have w1 : IntKind.i64.wrap ((i : Int) + (k : Int)) = (i : Int) + (k : Int) := i64_in (by omega)
          have w2 : IntKind.i64.wrap ((a' : Int) * (b : Int)) = (m : Int) := by rw [E0]; exact i64_in (by omega)
          have w3 : IntKind.i64.wrap ((t : Int) + (m : Int)) = (t : Int) + (m : Int) := i64_in (by omega)
          have w4 : IntKind.i64.wrap ((c : Int) + ((t : Int) + (m : Int))) = (W : Int) := by rw [E1.out]; exact i64_in (by omega)
          have n1 : (0 : Int) ≤ (i : Int) + (k : Int) := by omega
          have n2 : ((i : Int) + (k : Int)).toNat = i + k := by omega
          have n3 : (i : Int) + (k : Int) < ((p.length + q.length : Nat) : Int) := by omega
          have n4 : (i : Int) + (k : Int) < (p.length : Int) + (q.length : Int) := by omega
          have HT0 := hide ht
          clear hb ht ha' hm hW hjl
          by_cases g1 : k < q.length
          · go_wp2_with fail
            go_quiet ((go_at_call 123; exact quiet_drew (HBB.out _ (below_drewN HB2.out _))))
            clear l1 fz
            generalize hWD : wr.drewN _ = WD
            have HWD := hide hWD
            clear hWD
            have HRW : Hid (Row1 i64N WD w.heap.size 3 L2 []) := by show Row1 _ _ _ _ _ _; rw [← HWD.out]; exact HR2.out
            have HBW : Hid (Below w.heap.size w WD) := by show Below _ _ _; rw [← HWD.out]; exact below_drewN HB2.out _
            have l1 := HRW.out.cell HT0.out
            have fz := HRW.out.free (i + k)
            have HT2 : Hid ((W : Int) % 10 = ((W % 10 : Nat) : Int)) := by show _ = _; omega
            clear w2 w3 w4 n1 n2 n3 n4 w1
            go_wp2_with fail
            rw [HT2.out]
            go_roundg (q.length + 1 - (k + 1))
            case rel =>
              refine ⟨k + 1, W / 10, L2.set (i + k) (W % 10), by omega, rfl, by go_num, by rfl, hWc, HCL2, (show _ = _ from by rw [List.length_set, HL2.out]), (show Dgt _ from dgt_set HW2.out _ (Nat.mod_lt _ (by omega))), HE3, ?_, HRW.out.put HJL.out (W % 10), HBW.out.setCell (Nat.le_refl _) _⟩
              intro j h1 h2 h3
              rw [List.getElem?_set_ne (by omega)]
              exact HZ2.out j h1 (by omega) h3
            case measure => rw [HGM2.out]; omega
          · have g3 : 0 < c := by omega
            go_wp2_with fail
            go_quiet ((go_at_call 123; exact quiet_drew (HBB.out _ (below_drewN HB2.out _))))
            clear l1 fz
            generalize hWD : wr.drewN _ = WD
            have HWD := hide hWD
            clear hWD
            have HRW : Hid (Row1 i64N WD w.heap.size 3 L2 []) := by show Row1 _ _ _ _ _ _; rw [← HWD.out]; exact HR2.out
            have HBW : Hid (Below w.heap.size w WD) := by show Below _ _ _; rw [← HWD.out]; exact below_drewN HB2.out _
            have l1 := HRW.out.cell HT0.out
            have fz := HRW.out.free (i + k)
            have HT2 : Hid ((W : Int) % 10 = ((W % 10 : Nat) : Int)) := by show _ = _; omega
            clear w2 w3 w4 n1 n2 n3 n4 w1
            go_wp2_with fail
            rw [HT2.out]
            go_roundg (q.length + 1 - (k + 1))
            case rel =>
              refine ⟨k + 1, W / 10, L2.set (i + k) (W % 10), by omega, rfl, by go_num, by rfl, hWc, HCL2, (show _ = _ from by rw [List.length_set, HL2.out]), (show Dgt _ from dgt_set HW2.out _ (Nat.mod_lt _ (by omega))), HE3, ?_, HRW.out.put HJL.out (W % 10), HBW.out.setCell (Nat.le_refl _) _⟩
              intro j h1 h2 h3
              rw [List.getElem?_set_ne (by omega)]
              exact HZ2.out j h1 (by omega) h3
            case measure => rw [HGM2.out]; omega
        · have g1 : ¬ k < q.length := fun h => hgo (.inl h)
          have g3 : c = 0 := by have h : ¬ 0 < c := fun h => hgo (.inr h); omega
          subst g3
          have HE3 : Hid (valB BD L2 = valB BD (p.take (i + 1)) * valB BD q) := by
            have h6 := HE2.out
            rw [List.take_of_length_le (by omega : q.length ≤ k), Nat.mul_zero, Nat.add_zero] at h6
            show _ = _
            rw [h6, HE.out, valB_take_succ BD HA.out, Nat.add_mul, Nat.mul_comm (BD ^ i) a, Nat.mul_assoc]
          clear hgo
          go_wp2_with fail
          go_roundg (p.length - (i + 1))
          case rel => exact ⟨i + 1, L2, by omega, rfl, by go_num, HL2, HW2, HE3, (fun j h1 h2 => HZ2.out j (by omega) (by omega) h2), HR2, HB2⟩
          case measure => rw [HGM.out]; omega
    · have HP1 : Hid (valB BD (p.take i) = valB BD p) := by show _ = _; rw [List.take_of_length_le (by omega)]
      have HS2 := hide (HR.out.dgts (F := All) (fun d hd => by have := HW.out d hd; omega) trivial)
      have HTR : Hid (Calls Tryz.prog 98 #[.slice (some ⟨w.heap.size, 0, none⟩) (p.length + q.length) (p.length + q.length)] wr fun e w' => e = .returned (.slice (some ⟨w.heap.size, 0, none⟩) (cutB L).length (p.length + q.length)) ∧ wr = w') := by
        have h5 := rcut_any L (some ⟨w.heap.size, 0, none⟩) (p.length + q.length) All wr HS2.out (by rw [HL.out]; exact Nat.le_refl _) (by omega)
        rw [HL.out] at h5
        exact h5
      go_wp2_with (go_at_call 98; refine HTR.out.mono ?_; rintro e w5 ⟨rfl, rfl⟩)
      go_ret
      refine ⟨_, rfl, DigV.cut HS2.out HW.out (by rw [HL.out]; exact Nat.le_refl _) (by omega) ?_, HB.out⟩
      rw [HE.out, HP1.out, HVX.out, HVY.out]
end Go.Proofs.YthpknfoahimopaaGreatDoor

set_option linter.unusedVariables false
set_option linter.unusedSimpArgs false
set_option linter.unnecessarySimpa false
namespace Go.Proofs.YthpknfoahimopaaGreatDoor
open Go.RowKit

/-- Not too long for the reference. -/
def Sm (z : Int) : Prop := (dgs z.natAbs).length ≤ 10000
theorem lt_dgs (n : Nat) : n < 10 ^ (dgs n).length := by
  have h := valB_lt (b := BD) (dgs_dgt n)
  rw [dgs_val] at h
  exact h
theorem dgs_lt {n k : Nat} (h : n < 10 ^ k) : (dgs n).length ≤ k := digB_len_le BD2 h
theorem dgs_mul (x y : Nat) : (dgs (x * y)).length ≤ (dgs x).length + (dgs y).length := by
  refine dgs_lt ?_
  rw [Nat.pow_add]
  exact Nat.mul_lt_mul'' (lt_dgs x) (lt_dgs y)
theorem dgs_mono {x y : Nat} (h : x ≤ y) : (dgs x).length ≤ (dgs y).length := dgs_lt (Nat.lt_of_le_of_lt h (lt_dgs y))
theorem dgs_add {x y k : Nat} (hx : (dgs x).length ≤ k) (hy : (dgs y).length ≤ k) : (dgs (x + y)).length ≤ k + 1 := by
  refine dgs_lt ?_
  have h1 := Nat.lt_of_lt_of_le (lt_dgs x) (Nat.pow_le_pow_right (by omega) hx)
  have h2 := Nat.lt_of_lt_of_le (lt_dgs y) (Nat.pow_le_pow_right (by omega) hy)
  rw [Nat.pow_succ]
  omega
theorem len_dgs (n : Nat) : (txtN n).length ≤ (dgs n).length + 1 := by
  by_cases h : n = 0
  · subst h
    exact Nat.le_add_left 1 _
  · rw [txtN_len h]
    exact Nat.le_succ _
theorem Sm.len {z : Int} (h : Sm z) : lenI z ≤ 100000 := by
  have h1 := len_dgs z.natAbs
  have h2 : (dgs z.natAbs).length ≤ 10000 := h
  show (txtN z.natAbs).length ≤ _
  omega
theorem Sm.neg {z : Int} (h : Sm z) : Sm (-z) := by unfold Sm; rw [Int.natAbs_neg]; exact h
theorem rminus_any (z : Int) (w : World) : Calls Tryz.prog 57 #[.string (strN (txtI z))] w fun e w' => e = .returned (.bool (decide (z < 0))) ∧ w = w' := by
  have hfb := txtI_first z
  obtain ⟨b, hb⟩ : ∃ b, b = decide (z < 0) := ⟨_, rfl⟩
  rw [← hb] at hfb ⊢
  generalize strN (txtI z) = t at *
  obtain ⟨tsz, tm⟩ := hfb
  clear hb
  go_enter Tryz.func57, Tryz.ntmps57
  go_wp2_with fail
  go_ret
  exact ⟨by first | rw [← tm]; rfl | rfl, rfl⟩
theorem sgZ_neg (z : Int) : sgZ (!decide (z < 0)) z.natAbs = -z := by
  unfold sgZ
  by_cases h : z < 0
  · simp [h]; omega
  · simp [h]; omega
theorem sgZ_abs (z : Int) : sgZ false z.natAbs = z.natAbs := rfl
theorem rturned_any {z : Int} (hz : Sm z) (w : World) : Calls Tryz.prog 96 #[.string (strN (txtI z))] w fun e w' => e = .returned (.string (strN (txtI (-z)))) ∧ Below w.heap.size w w' := by
  have HD := hide (rdigits_any hz.len w)
  have HM : Hid (∀ w', Calls Tryz.prog 57 #[.string (strN (txtI z))] w' fun e w2 => e = .returned (.bool (decide (z < 0))) ∧ w' = w2) := fun w' => rminus_any z w'
  have HL : Hid ((dgs z.natAbs).length ≤ 200000) := by have : (dgs z.natAbs).length ≤ 10000 := hz; show _ ≤ _; omega
  rw [← sgZ_neg z]
  generalize decide (z < 0) = b at *
  clear hz
  go_enter Tryz.func96, Tryz.ntmps96
  go_wp2_with (first
    | (go_at_call 56; (with_reducible refine HD.out.mono ?_); rintro ec w5 ⟨v, rfl, hv, hb5⟩; have HV := hide hv; have HB5 := hide hb5; clear hv hb5)
    | (go_at_call 57; (with_reducible refine (HM.out _).mono ?_); rintro ec w6 ⟨rfl, rfl⟩)
    | (go_at_call 102; (with_reducible refine (rtext_any HV.out HL.out _).mono ?_); rintro ec w7 ⟨rfl, hb7⟩; have HB7 := hide (below_then HB5.out hb7); clear hb7))
  go_ret
  exact ⟨rfl, HB7.out⟩
theorem rpositive_any {z : Int} (hz : Sm z) (w : World) : Calls Tryz.prog 103 #[.string (strN (txtI z))] w fun e w' => e = .returned (.string (strN (txtI (z.natAbs : Int)))) ∧ Below w.heap.size w w' := by
  have HD := hide (rdigits_any hz.len w)
  have HL : Hid ((dgs z.natAbs).length ≤ 200000) := by have : (dgs z.natAbs).length ≤ 10000 := hz; show _ ≤ _; omega
  rw [← sgZ_abs z]
  clear hz
  go_enter Tryz.func103, Tryz.ntmps103
  go_wp2_with (first
    | (go_at_call 56; (with_reducible refine HD.out.mono ?_); rintro ec w5 ⟨v, rfl, hv, hb5⟩; have HV := hide hv; have HB5 := hide hb5; clear hv hb5)
    | (go_at_call 102; (with_reducible refine (rtext_any HV.out HL.out _).mono ?_); rintro ec w7 ⟨rfl, hb7⟩; have HB7 := hide (below_then HB5.out hb7); clear hb7))
  go_ret
  exact ⟨rfl, HB7.out⟩
theorem sgZ_mul (x y : Int) : sgZ (decide (x < 0) != decide (y < 0)) (x.natAbs * y.natAbs) = x * y := by
  unfold sgZ
  rw [Int.natCast_mul]
  by_cases h1 : x < 0
  · by_cases h2 : y < 0
    · rw [Int.ofNat_natAbs_of_nonpos (by omega), Int.ofNat_natAbs_of_nonpos (by omega)]
      simp only [h1, h2, decide_true, bne_self_eq_false, Bool.false_eq_true, if_false]
      rw [Int.neg_mul_neg]
    · rw [Int.ofNat_natAbs_of_nonpos (by omega), Int.natAbs_of_nonneg (by omega)]
      simp [h1, h2]
      rw [Int.neg_mul, Int.neg_neg]
  · by_cases h2 : y < 0
    · rw [Int.natAbs_of_nonneg (by omega), Int.ofNat_natAbs_of_nonpos (by omega)]
      simp [h1, h2]
      rw [Int.mul_neg, Int.neg_neg]
    · rw [Int.natAbs_of_nonneg (by omega), Int.natAbs_of_nonneg (by omega)]
      simp [h1, h2]
set_option maxRecDepth 100000 in
theorem rtimes_any {x y : Int} (hx : Sm x) (hy : Sm y) (w : World) : Calls Tryz.prog 75 #[.string (strN (txtI x)), .string (strN (txtI y))] w fun e w' => e = .returned (.string (strN (txtI (x * y)))) ∧ Below w.heap.size w w' := by
  have HD1 : Hid (∀ w', Calls Tryz.prog 56 #[.string (strN (txtI x))] w' (DigPost w' x.natAbs)) := fun w' => rdigits_any hx.len w'
  have HD2 : Hid (∀ w', Calls Tryz.prog 56 #[.string (strN (txtI y))] w' (DigPost w' y.natAbs)) := fun w' => rdigits_any hy.len w'
  have HM1 : Hid (∀ w', Calls Tryz.prog 57 #[.string (strN (txtI x))] w' fun e w2 => e = .returned (.bool (decide (x < 0))) ∧ w' = w2) := fun w' => rminus_any x w'
  have HM2 : Hid (∀ w', Calls Tryz.prog 57 #[.string (strN (txtI y))] w' fun e w2 => e = .returned (.bool (decide (y < 0))) ∧ w' = w2) := fun w' => rminus_any y w'
  have HMU : Hid (∀ v u w', DigV w' v x.natAbs → DigV w' u y.natAbs → Calls Tryz.prog 109 #[v, u] w' (DigPost w' (x.natAbs * y.natAbs))) := fun v u w' h1 h2 => rmul_any h1 h2 (by have : (dgs x.natAbs).length ≤ 10000 := hx; omega) (by have : (dgs y.natAbs).length ≤ 10000 := hy; omega)
  have HL : Hid ((dgs (x.natAbs * y.natAbs)).length ≤ 200000) := by
    have h1 := dgs_mul x.natAbs y.natAbs
    have : (dgs x.natAbs).length ≤ 10000 := hx
    have : (dgs y.natAbs).length ≤ 10000 := hy
    show _ ≤ _
    omega
  rw [← sgZ_mul x y]
  generalize decide (x < 0) = a at *
  generalize decide (y < 0) = b at *
  obtain ⟨s, hs⟩ : ∃ s, s = strN (txtI x) := ⟨_, rfl⟩
  obtain ⟨t, ht⟩ : ∃ t, t = strN (txtI y) := ⟨_, rfl⟩
  rw [← hs] at HD1 HM1
  rw [← ht] at HD2 HM2
  rw [← hs, ← ht]
  clear hx hy hs ht
  go_enter Tryz.func75, Tryz.ntmps75
  go_wp2_with (first
    | (go_at_call 56; (with_reducible refine (HD1.out _).mono ?_); rintro ec w5 ⟨v, rfl, hv, hb5⟩; have HV := hide hv; have HB5 := hide hb5; clear hv hb5)
    | (go_at_call 56; (with_reducible refine (HD2.out _).mono ?_); rintro ec w6 ⟨u, rfl, hu, hb6⟩; have HU := hide hu; have HV := hide (HV.out.below hb6); have HB6 := hide (below_then HB5.out hb6); clear hu hb6)
    | (go_at_call 109; (with_reducible refine (HMU.out _ _ _ HV.out HU.out).mono ?_); rintro ec w7 ⟨p, rfl, hp, hb7⟩; have HPR := hide hp; have HB7 := hide (below_then HB6.out hb7); clear hp hb7)
    | (go_at_call 57; (with_reducible refine (HM1.out _).mono ?_); rintro ec w8 ⟨rfl, rfl⟩)
    | (go_at_call 57; (with_reducible refine (HM2.out _).mono ?_); rintro ec w8 ⟨rfl, rfl⟩)
    | (go_at_call 102; (with_reducible refine (rtext_any HPR.out HL.out _).mono ?_); rintro ec w9 ⟨rfl, hb9⟩; have HB9 := hide (below_then HB7.out hb9); clear hb9))
  go_ret
  exact ⟨rfl, HB9.out⟩
set_option maxRecDepth 100000 in
set_option maxHeartbeats 4000000 in
theorem rplus_any {x y : Int} (hx : Sm x) (hy : Sm y) (w : World) : Calls Tryz.prog 70 #[.string (strN (txtI x)), .string (strN (txtI y))] w fun e w' => e = .returned (.string (strN (txtI (x + y)))) ∧ Below w.heap.size w w' := by
  have hx1 : (dgs x.natAbs).length ≤ 10000 := hx
  have hy1 : (dgs y.natAbs).length ≤ 10000 := hy
  have HD1 : Hid (∀ w', Calls Tryz.prog 56 #[.string (strN (txtI x))] w' (DigPost w' x.natAbs)) := fun w' => rdigits_any hx.len w'
  have HD2 : Hid (∀ w', Calls Tryz.prog 56 #[.string (strN (txtI y))] w' (DigPost w' y.natAbs)) := fun w' => rdigits_any hy.len w'
  obtain ⟨X, hX⟩ : ∃ X, X = x.natAbs := ⟨_, rfl⟩
  obtain ⟨Y, hY⟩ : ∃ Y, Y = y.natAbs := ⟨_, rfl⟩
  rw [← hX] at HD1 hx1
  rw [← hY] at HD2 hy1
  have HM1 : Hid (∀ w', Calls Tryz.prog 57 #[.string (strN (txtI x))] w' fun e w2 => e = .returned (.bool (decide (x < 0))) ∧ w' = w2) := fun w' => rminus_any x w'
  have HM2 : Hid (∀ w', Calls Tryz.prog 57 #[.string (strN (txtI y))] w' fun e w2 => e = .returned (.bool (decide (y < 0))) ∧ w' = w2) := fun w' => rminus_any y w'
  have HAD : Hid (∀ v u w', DigV w' v X → DigV w' u Y → Calls Tryz.prog 105 #[v, u] w' (DigPost w' (X + Y))) := fun v u w' h1 h2 => radded_any h1 h2 (by omega) (by omega)
  have HT1 : Hid (∀ v u w', DigV w' v X → DigV w' u Y → Y ≤ X → Calls Tryz.prog 107 #[v, u] w' (DigPost w' (X - Y))) := fun v u w' h1 h2 h => rtaken_any h1 h2 (by omega) h
  have HT2 : Hid (∀ v u w', DigV w' v X → DigV w' u Y → X ≤ Y → Calls Tryz.prog 107 #[u, v] w' (DigPost w' (Y - X))) := fun v u w' h1 h2 h => rtaken_any h2 h1 (by omega) h
  have HOR : Hid (∀ v u w', DigV w' v X → DigV w' u Y → Calls Tryz.prog 106 #[v, u] w' fun e w2 => e = .returned (.int .i64 (ordN X Y)) ∧ Below w'.heap.size w' w2) := fun v u w' h1 h2 => by
    obtain ⟨oa, ca, rfl, _, _, s1⟩ := h1
    obtain ⟨ob, cb, rfl, _, _, s2⟩ := h2
    have h5 := rorder_any (dgs X) (dgs Y) oa ob ca cb All All w' s1 s2 (dgs_dgt X) (dgs_dgt Y) (dgs_cut X) (dgs_cut Y) (by omega) (by omega)
    rw [dgs_val, dgs_val] at h5
    exact h5
  have HLA : Hid ((dgs (X + Y)).length ≤ 200000) := by have := dgs_add hx1 hy1; show _ ≤ _; omega
  have HL1 : Hid ((dgs (X - Y)).length ≤ 200000) := by have := dgs_mono (Nat.sub_le X Y); show _ ≤ _; omega
  have HL2 : Hid ((dgs (Y - X)).length ≤ 200000) := by have := dgs_mono (Nat.sub_le Y X); show _ ≤ _; omega
  obtain ⟨a, ha⟩ : ∃ a, a = decide (x < 0) := ⟨_, rfl⟩
  obtain ⟨b, hb⟩ : ∃ b, b = decide (y < 0) := ⟨_, rfl⟩
  rw [← ha] at HM1
  rw [← hb] at HM2
  have HS1 : Hid (a = b → x + y = sgZ a (X + Y)) := fun h => by
    unfold sgZ
    rw [h] at ha
    subst h
    cases a
    · have := of_decide_eq_false ha.symm
      have := of_decide_eq_false hb.symm
      simp; omega
    · have := of_decide_eq_true ha.symm
      have := of_decide_eq_true hb.symm
      simp; omega
  have HS2 : Hid (a ≠ b → X < Y → x + y = sgZ b (Y - X)) := fun h hl => by
    unfold sgZ
    cases a <;> cases b
    · exact absurd rfl h
    · have := of_decide_eq_false ha.symm
      have := of_decide_eq_true hb.symm
      simp; omega
    · have := of_decide_eq_true ha.symm
      have := of_decide_eq_false hb.symm
      simp; omega
    · exact absurd rfl h
  have HS3 : Hid (a ≠ b → ¬ X < Y → x + y = sgZ a (X - Y)) := fun h hl => by
    unfold sgZ
    cases a <;> cases b
    · exact absurd rfl h
    · have := of_decide_eq_false ha.symm
      have := of_decide_eq_true hb.symm
      simp; omega
    · have := of_decide_eq_true ha.symm
      have := of_decide_eq_false hb.symm
      simp; omega
    · exact absurd rfl h
  obtain ⟨res, hres⟩ : ∃ r, r = strN (txtI (x + y)) := ⟨_, rfl⟩
  rw [← hres]
  have HRES := hide hres
  obtain ⟨s, hs⟩ : ∃ s, s = strN (txtI x) := ⟨_, rfl⟩
  obtain ⟨t, ht⟩ : ∃ t, t = strN (txtI y) := ⟨_, rfl⟩
  rw [← hs] at HD1 HM1
  rw [← ht] at HD2 HM2
  rw [← hs, ← ht]
  clear hx hy hs ht hX hY ha hb hres hx1 hy1
  by_cases hab : a = b
  · have HR : Hid (res = strN (txtI (sgZ a (X + Y)))) := by show res = _; rw [HRES.out, HS1.out hab]
    subst hab
    go_enter Tryz.func70, Tryz.ntmps70
    go_wp2_with (first
      | (go_at_call 56; (with_reducible refine (HD1.out _).mono ?_); rintro ec w5 ⟨v, rfl, hv, hb5⟩; have HV := hide hv; have HB5 := hide hb5; clear hv hb5)
      | (go_at_call 56; (with_reducible refine (HD2.out _).mono ?_); rintro ec w6 ⟨u, rfl, hu, hb6⟩; have HU := hide hu; have HV := hide (HV.out.below hb6); have HB6 := hide (below_then HB5.out hb6); clear hu hb6)
      | (go_at_call 105; (with_reducible refine (HAD.out _ _ _ HV.out HU.out).mono ?_); rintro ec w7 ⟨p, rfl, hp, hb7⟩; have HPR := hide hp; have HB7 := hide (below_then HB6.out hb7); clear hp hb7)
      | (go_at_call 57; (with_reducible refine (HM1.out _).mono ?_); rintro ec w8 ⟨rfl, rfl⟩)
      | (go_at_call 57; (with_reducible refine (HM2.out _).mono ?_); rintro ec w8 ⟨rfl, rfl⟩)
      | (go_at_call 102; (with_reducible refine (rtext_any HPR.out HLA.out _).mono ?_); rintro ec w9 ⟨rfl, hb9⟩; have HB9 := hide (below_then HB7.out hb9); clear hb9))
    go_ret
    exact ⟨by rw [HR.out]; rfl, HB9.out⟩
  · have qab : (a == b) = false := by simpa using hab
    by_cases hl : X < Y
    · have HR : Hid (res = strN (txtI (sgZ b (Y - X)))) := by show res = _; rw [HRES.out, HS2.out hab hl]
      have HLT : Hid (X ≤ Y) := by show _ ≤ _; omega
      have HO1 : Hid (ordN X Y = -1) := ordN_lt hl
      rw [HO1.out] at HOR
      clear hl hab
      go_enter Tryz.func70, Tryz.ntmps70
      go_wp2_with (first
        | (go_at_call 56; (with_reducible refine (HD1.out _).mono ?_); rintro ec w5 ⟨v, rfl, hv, hb5⟩; have HV := hide hv; have HB5 := hide hb5; clear hv hb5)
        | (go_at_call 56; (with_reducible refine (HD2.out _).mono ?_); rintro ec w6 ⟨u, rfl, hu, hb6⟩; have HU := hide hu; have HV := hide (HV.out.below hb6); have HB6 := hide (below_then HB5.out hb6); clear hu hb6)
        | (go_at_call 106; (with_reducible refine (HOR.out _ _ _ HV.out HU.out).mono ?_); rintro ec w7 ⟨rfl, hb7⟩; have HV := hide (HV.out.below hb7); have HU := hide (HU.out.below hb7); have HB7 := hide (below_then HB6.out hb7); clear hb7)
        | (go_at_call 107; (with_reducible refine (HT2.out _ _ _ HV.out HU.out HLT.out).mono ?_); rintro ec w8 ⟨p, rfl, hp, hb8⟩; have HPR := hide hp; have HB8 := hide (below_then HB7.out hb8); clear hp hb8)
        | (go_at_call 57; (with_reducible refine (HM1.out _).mono ?_); rintro ec w9 ⟨rfl, rfl⟩)
        | (go_at_call 57; (with_reducible refine (HM2.out _).mono ?_); rintro ec w9 ⟨rfl, rfl⟩)
        | (go_at_call 102; (with_reducible refine (rtext_any HPR.out HL2.out _).mono ?_); rintro ec w9 ⟨rfl, hb9⟩; have HB9 := hide (below_then HB8.out hb9); clear hb9))
      go_ret
      exact ⟨by rw [HR.out]; rfl, HB9.out⟩
    · have HR : Hid (res = strN (txtI (sgZ a (X - Y)))) := by show res = _; rw [HRES.out, HS3.out hab hl]
      have HLT : Hid (Y ≤ X) := by show _ ≤ _; omega
      have HO1 : Hid (0 ≤ ordN X Y) := by show 0 ≤ ordN X Y; unfold ordN; rw [if_neg hl]; split <;> omega
      generalize ordN X Y = o at *
      have tq : decide (o < 0) = false := by have := HO1.out; simp; omega
      clear hl hab
      go_enter Tryz.func70, Tryz.ntmps70
      go_wp2_with (first
        | (go_at_call 56; (with_reducible refine (HD1.out _).mono ?_); rintro ec w5 ⟨v, rfl, hv, hb5⟩; have HV := hide hv; have HB5 := hide hb5; clear hv hb5)
        | (go_at_call 56; (with_reducible refine (HD2.out _).mono ?_); rintro ec w6 ⟨u, rfl, hu, hb6⟩; have HU := hide hu; have HV := hide (HV.out.below hb6); have HB6 := hide (below_then HB5.out hb6); clear hu hb6)
        | (go_at_call 106; (with_reducible refine (HOR.out _ _ _ HV.out HU.out).mono ?_); rintro ec w7 ⟨rfl, hb7⟩; have HV := hide (HV.out.below hb7); have HU := hide (HU.out.below hb7); have HB7 := hide (below_then HB6.out hb7); clear hb7)
        | (go_at_call 107; (with_reducible refine (HT1.out _ _ _ HV.out HU.out HLT.out).mono ?_); rintro ec w8 ⟨p, rfl, hp, hb8⟩; have HPR := hide hp; have HB8 := hide (below_then HB7.out hb8); clear hp hb8)
        | (go_at_call 57; (with_reducible refine (HM1.out _).mono ?_); rintro ec w9 ⟨rfl, rfl⟩)
        | (go_at_call 57; (with_reducible refine (HM2.out _).mono ?_); rintro ec w9 ⟨rfl, rfl⟩)
        | (go_at_call 102; (with_reducible refine (rtext_any HPR.out HL1.out _).mono ?_); rintro ec w9 ⟨rfl, hb9⟩; have HB9 := hide (below_then HB8.out hb9); clear hb9))
      go_ret
      exact ⟨by rw [HR.out]; rfl, HB9.out⟩
theorem rless_any {x y : Int} (hx : Sm x) (hy : Sm y) (w : World) : Calls Tryz.prog 73 #[.string (strN (txtI x)), .string (strN (txtI y))] w fun e w' => e = .returned (.string (strN (txtI (x - y)))) ∧ Below w.heap.size w w' := by
  have H1 := hide (rturned_any hy w)
  have H2 : Hid (∀ w', Calls Tryz.prog 70 #[.string (strN (txtI x)), .string (strN (txtI (-y)))] w' fun e w2 => e = .returned (.string (strN (txtI (x - y)))) ∧ Below w'.heap.size w' w2) := fun w' => by
    rw [Int.sub_eq_add_neg]
    exact rplus_any hx hy.neg w'
  clear hx hy
  go_enter Tryz.func73, Tryz.ntmps73
  go_wp2_with (first
    | (go_at_call 96; (with_reducible refine H1.out.mono ?_); rintro ec w5 ⟨rfl, hb5⟩; have HB5 := hide hb5; clear hb5)
    | (go_at_call 70; (with_reducible refine (H2.out _).mono ?_); rintro ec w6 ⟨rfl, hb6⟩; have HB6 := hide (below_then HB5.out hb6); clear hb6))
  go_ret
  exact ⟨rfl, HB6.out⟩
theorem ror_any {x y : Int} (hx : Sm x) (hy : Sm y) (w : World) : Calls Tryz.prog 55 #[.string (strN (txtI x)), .string (strN (txtI y))] w fun e w' => e = .returned (.int .i64 (sgI (x - y))) ∧ Below w.heap.size w w' := by
  have H1 := hide (rless_any hx hy w)
  have H2 : Hid (∀ w', Calls Tryz.prog 57 #[.string (strN (txtI (x - y)))] w' fun e w2 => e = .returned (.bool (decide (x - y < 0))) ∧ w' = w2) := fun w' => rminus_any _ w'
  obtain ⟨d, hd⟩ : ∃ d, d = x - y := ⟨_, rfl⟩
  rw [← hd] at H1 H2 ⊢
  clear hx hy hd
  by_cases h0 : d = 0
  · have tz : ((strN (txtI d)).toList == [48]) = true := by rw [strN_toList, h0]; rfl
    have HR : Hid (sgI d = 0) := by show sgI d = 0; rw [h0]; rfl
    clear h0
    go_enter Tryz.func55, Tryz.ntmps55
    go_wp2_with (go_at_call 73; (with_reducible refine H1.out.mono ?_); rintro ec w5 ⟨rfl, hb5⟩; have HB5 := hide hb5; clear hb5)
    go_ret
    exact ⟨by rw [HR.out]; rfl, HB5.out⟩
  · have tz := txtI_ne0 h0
    by_cases hn : d < 0
    · have HR : Hid (sgI d = -1) := if_pos hn
      have tn : decide (d < 0) = true := decide_eq_true hn
      rw [tn] at H2
      clear h0 hn
      go_enter Tryz.func55, Tryz.ntmps55
      go_wp2_with (first
        | (go_at_call 73; (with_reducible refine H1.out.mono ?_); rintro ec w5 ⟨rfl, hb5⟩; have HB5 := hide hb5; clear hb5)
        | (go_at_call 57; (with_reducible refine (H2.out _).mono ?_); rintro ec w6 ⟨rfl, rfl⟩))
      go_ret
      exact ⟨by rw [HR.out]; rfl, HB5.out⟩
    · have HR : Hid (sgI d = 1) := by show sgI d = 1; unfold sgI; rw [if_neg hn, if_neg h0]
      have tn : decide (d < 0) = false := decide_eq_false hn
      rw [tn] at H2
      clear h0 hn
      go_enter Tryz.func55, Tryz.ntmps55
      go_wp2_with (first
        | (go_at_call 73; (with_reducible refine H1.out.mono ?_); rintro ec w5 ⟨rfl, hb5⟩; have HB5 := hide hb5; clear hb5)
        | (go_at_call 57; (with_reducible refine (H2.out _).mono ?_); rintro ec w6 ⟨rfl, rfl⟩))
      go_ret
      exact ⟨by rw [HR.out]; rfl, HB5.out⟩
end Go.Proofs.YthpknfoahimopaaGreatDoor

set_option linter.unusedVariables false
set_option linter.unusedSimpArgs false
set_option linter.unnecessarySimpa false
namespace Go.Proofs.YthpknfoahimopaaGreatDoor
open Go.RowKit

/-- One digit of a literal, as the call's own. -/
theorem own_dgt (w : World) (e : TypeId) {d : Nat} (h : d < 4294967296) : OwnS dgtR 1 w.heap.size e Non (w.alloc (.cells #[.int .i64 (d : Int)] e)) (.slice (some ⟨w.heap.size, 0, none⟩) 1 1) [d] := by
  have h1 := World.ownsRow_lit (base := w.heap.size) (e := e) (size := 1) w #[Value.int .i64 (d : Int)] 1 (Nat.le_refl _) (by unfold maxLen; omega) (by simp)
  refine ⟨[.int .i64 (d : Int)], by simpa using h1, ?_, ?_⟩
  · intro u hu
    simp at hu
    subst hu
    rfl
  · intro i x hx
    cases i with
    | zero =>
      simp at hx
      subst hx
      exact ⟨rfl, h⟩
    | succ i => simp at hx
theorem OwnS.rebaseUp {base : Nat} {e : TypeId} {w : World} {v : Value} {xs : List Nat} (h : OwnS dgtR 1 base e Non w v xs) {b : Nat} (hb : b ≤ base) : OwnS dgtR 1 b e Non w v xs := h.rebase hb
theorem div_digit {H y d r0 q r : Nat} (hy : 0 < y) (h0 : r0 = d + 10 * (H % y)) (h1 : r + q * y = r0) (h2 : r < y) : q + 10 * (H / y) = (d + 10 * H) / y ∧ r = (d + 10 * H) % y := by
  have h3 : d + 10 * H = r + y * (q + 10 * (H / y)) := by
    have h4 := Nat.mod_add_div H y
    rw [Nat.mul_add, Nat.mul_comm y q, Nat.mul_left_comm]
    omega
  constructor
  · rw [h3, Nat.add_mul_div_left _ _ hy, Nat.div_eq_of_lt h2, Nat.zero_add]
  · rw [h3, Nat.add_mul_mod_self_left, Nat.mod_eq_of_lt h2]
theorem div_small {H y d q r : Nat} (hy : 0 < y) (hd : d < 10) (h1 : r + q * y = d + 10 * (H % y)) (h2 : y ≤ r) : q < 9 := by
  have h3 : H % y < y := Nat.mod_lt _ hy
  rcases Nat.lt_or_ge q 9 with h | h
  · exact h
  · exfalso
    have h4 : 9 * y ≤ q * y := Nat.mul_le_mul_right y h
    omega
theorem rep_cons (j : Nat) (M : List Nat) : List.replicate (j + 1) 0 ++ M = List.replicate j 0 ++ 0 :: M := by
  rw [List.replicate_succ']
  simp
theorem dgt_cons {d : Nat} {l : List Nat} (h : d < 10) (hl : Dgt l) : Dgt (d :: l) := by
  intro x hx
  rcases List.mem_cons.1 hx with h1 | h1
  · omega
  · exact hl x h1
theorem DigO.mono {a b : Nat} {w : World} {v : Value} {n : Nat} (h : DigO b w v n) (hab : a ≤ b) : DigO a w v n := by
  obtain ⟨oa, c, h1, h2, h3, h4⟩ := h
  exact ⟨oa, c, h1, h2, h3, h4.wide dgtR_ok (by decide) fun k hk _ => Nat.le_trans hab hk⟩
theorem DigO.other {base : Nat} {w : World} {v : Value} {n : Nat} (h : DigO base w v n) {p : Addr} (hp : p.block < base) (u : Value) : DigO base (w.setCell p u) v n := by
  obtain ⟨oa, c, h1, h2, h3, h4⟩ := h
  exact ⟨oa, c, h1, h2, h3, h4.keep dgtR_ok fun k hk _ => Below.heap_setCell w p u k (by omega)⟩
theorem rep_set (j q x : Nat) (M : List Nat) : (List.replicate j 0 ++ q :: M).set j x = List.replicate j 0 ++ x :: M := by
  rw [List.set_append_right _ _ (by simp)]
  simp
theorem at_rep (j q : Nat) (M : List Nat) : (List.replicate j 0 ++ q :: M)[j]? = some q := by
  rw [List.getElem?_append_right (by simp)]
  simp
theorem hs3w {a b : Nat} {w : World} {oa : Option Addr} {l : List Nat} (h : SliceR dgtR 1 (fun k => b ≤ k) w oa l) (hab : a ≤ b) : SliceR dgtR 1 (fun k => a ≤ k) w oa l := h.wide dgtR_ok (by decide) fun k hk _ => Nat.le_trans hab hk
set_option maxRecDepth 100000 in
set_option maxHeartbeats 4000000 in
theorem rdivided_any {x y : Nat} {v1 v2 : Value} {w : World} (h1 : DigV w v1 x) (h2 : DigV w v2 y) (hx : (dgs x).length ≤ 100000) (hy : (dgs y).length ≤ 100000) (hy0 : y ≠ 0) : Calls Tryz.prog 101 #[v1, v2] w (DigPost2 w (x / y) (x % y)) := by
  obtain ⟨oa, ca, rfl, hca, hcm, hs⟩ := h1
  obtain ⟨ob, cb, rfl, hcb1, hcb2, hsy⟩ := h2
  have HY : Hid (DigV w (.slice ob (dgs y).length cb) y) := ⟨ob, cb, rfl, hcb1, hcb2, hsy⟩
  clear hcb1 hcb2 hsy
  have HVX : Hid (valB BD (dgs x) = x) := dgs_val x
  have HWP := hide (dgs_dgt x)
  generalize dgs x = p at *
  have HSP := hide hs
  have HY0 := hide hy0
  have HYL := hide hy
  clear hs hy0 hy
  go_enter Tryz.func101, Tryz.ntmps101
  go_wp2_with (at_make; refine wpList_make_row _ rfl _ _ 82 rfl 3 0 8 Tryz.underlying82 (f := i64N) iInfo rfl .i64 .i64 _ _ p.length rfl rfl (by push_cast; rfl) (by push_cast; rfl) (by omega) (by unfold maxLen; omega) (fun w1 hrow hb1 hg1 => ?_); have HR1 := hide hrow; have HB1 := hide hb1; have HG1 := hide hrow.lt; clear hrow hb1 hg1)
  go_loopg [7, 8] p.length (fun gm rv iv wx => ∃ (k : Nat) (M : List Nat), k ≤ p.length ∧ gm = k ∧ iv = .int .i64 ((k : Int) - 1) ∧ Hid (M.length = p.length - k) ∧ Hid (Dgt M) ∧ Hid (valB BD M = valB BD (p.drop k) / y) ∧ Hid (DigO (w.heap.size + 1) wx rv (valB BD (p.drop k) % y)) ∧ Hid (Row1 i64N wx w.heap.size 3 (List.replicate k 0 ++ M) []) ∧ Hid (Below w.heap.size w wx))
  case atStart => exact ⟨p.length, [], by omega, rfl, rfl, (show _ = _ by simp), (show Dgt [] from fun d hd => by cases hd), (show _ = _ by rw [List.drop_length]; simp [valB]), (by rw [List.drop_length]; show DigO _ _ _ _; simp [valB]; exact ⟨none, 0, by rw [dgs_zero]; rfl, by rw [dgs_zero]; simp, by omega, by rw [dgs_zero]; exact SliceR.nil _ _ _ _ _⟩), (by show Row1 _ _ _ _ _ _; rw [List.append_nil]; exact HR1.out), HB1⟩
  case round =>
    obtain ⟨k, M, hk, hgm, rfl, HML, HMD, HMV, HRO, HR, HB⟩ := hrel
    have HGM := hide hgm
    clear hgm
    rcases Nat.eq_zero_or_pos k with hk0 | hk0
    · subst hk0
      have q1 : decide ((0 : Int) ≤ ((0 : Nat) : Int) - 1) = false := by simp
      rw [List.drop_zero, HVX.out] at HMV HRO
      have HRZ : Hid (Row1 i64N wr w.heap.size 3 M []) := HR.out
      have HS2 := hide (HRZ.out.dgts (F := All) (fun d hd => by have := HMD.out d hd; omega) trivial)
      have HTR : Hid (Calls Tryz.prog 98 #[.slice (some ⟨w.heap.size, 0, none⟩) p.length p.length] wr fun e w' => e = .returned (.slice (some ⟨w.heap.size, 0, none⟩) (cutB M).length p.length) ∧ wr = w') := by
        have h5 := rcut_any M (some ⟨w.heap.size, 0, none⟩) p.length All wr HS2.out (by rw [HML.out]; omega) (by omega)
        rw [HML.out] at h5
        exact h5
      go_wp2_with (go_at_call 98; refine HTR.out.mono ?_; rintro e w5 ⟨rfl, rfl⟩)
      go_ret2
      exact ⟨_, _, rfl, DigV.cut HS2.out HMD.out (by rw [HML.out]; omega) (by omega) HMV.out, HRO.out.dig, HB.out⟩
    · obtain ⟨j, rfl⟩ : ∃ j, k = j + 1 := ⟨k - 1, by omega⟩
      have hj : j < p.length := by omega
      obtain ⟨d, _, hd, hdb, ba, offa, hoa, _, c0⟩ := (HSP.out.below dgtR_ok HB.out).dgt_at hj
      subst hoa
      have hd9 := dgt_get HWP.out hd
      have e1 : (((j + 1 : Nat) : Int) - 1) = (j : Int) := by omega
      rw [e1]
      have hj0 : (0 : Int) ≤ j := by omega
      have q2 : decide ((0 : Int) ≤ (j : Int)) = true := by simp
      obtain ⟨orr, cr, rfl, hcr, hcm2, hsr⟩ := HRO.out
      have HSR := hide hsr
      have HDRP : Hid (p.drop j = d :: p.drop (j + 1)) := by
        have h1 := List.getElem?_eq_some_iff.1 hd
        show _ = _
        rw [List.drop_eq_getElem_cons h1.1, h1.2]
      obtain ⟨H, hH⟩ : ∃ H, H = valB BD (p.drop (j + 1)) := ⟨_, rfl⟩
      rw [← hH] at HMV HRO HSR hcr ⊢
      have HHH := hide hH
      obtain ⟨r, hr⟩ : ∃ r, r = H % y := ⟨_, rfl⟩
      rw [← hr] at HSR hcr ⊢
      have HRR := hide hr
      have hlr : (dgs r).length ≤ 100000 := Nat.le_trans (dgs_mono (Nat.le_of_lt (by rw [hr]; exact Nat.mod_lt _ (by have := HY0.out; omega)))) HYL.out
      have hlt1 : w.heap.size + 1 ≤ wr.heap.size := HR.out.lt
      have hlt1 := hide hlt1
      clear hd e1 hsr hH hr HRO
      go_wp2_with (first
        | (at_builtin; refine wpList_append_rep rfl (.tmp 23) (.tmp 24) 82 rfl wr.heap.size 3 _ 1 8 Tryz.underlying82 iInfo rfl (by decide) dgtR_ok Non All (.slice (some ⟨wr.heap.size, 0, none⟩) 1 1) [d] (by simp [Act.eval, Act.put]) (own_dgt wr 3 hdb) orr cr (dgs r) (by simp [Act.eval, Act.put]) ((HSR.out.all dgtR_ok (by decide)).below dgtR_ok (bnew (Below.refl _ _) _)) (fun _ _ h => h) (fun _ h => h.elim) (by simp; omega) (by simp; omega) (by simp) ?_; intro v' w2 ho2 hb2 hg2; obtain ⟨o3, c3, hv3, hc3, hm3, hs3⟩ := own_digitsO ho2; subst hv3; have HS3 := hide hs3; have HB2 : Hid (Below w.heap.size w w2) := (HB.out.alloc HB.out.size _).trans (hb2.mono HB.out.size); have HR2 : Hid (Row1 i64N w2 w.heap.size 3 (List.replicate (j + 1) 0 ++ M) []) := (HR.out.keep ((hb2.mono (Nat.le_refl _)).block _ hlt1.out |>.trans ((bnew (Below.refl _ _) _ : Below wr.heap.size wr _).block _ hlt1.out))); clear ho2 hb2 hg2 hs3)
        | (go_at_call 98; refine (rcut_any ([d] ++ dgs r) o3 c3 _ _ HS3.out hc3 hm3).mono ?_; rintro e w5 ⟨rfl, rfl⟩))
      obtain ⟨r0, hr0⟩ : ∃ r0, r0 = d + 10 * r := ⟨_, rfl⟩
      have hv3 : valB BD ([d] ++ dgs r) = r0 := by
        show d + BD * valB BD (dgs r) = r0
        rw [dgs_val, hr0]
        rfl
      have HD3 : Hid (DigO (w.heap.size + 1) w2 (.slice o3 (cutB (d :: dgs r)).length c3) r0) := DigO.cut (hs3w HS3.out hlt1.out) (dgt_cons hd9 (dgs_dgt r)) hc3 hm3 hv3
      have hry : r < y := by rw [HRR.out]; exact Nat.mod_lt _ (by have := HY0.out; omega)
      have hl0 : (dgs r0).length ≤ 150000 := by
        have h5 : r0 ≤ 10 * y := by omega
        have h6 := dgs_mono h5
        have h7 := dgs_mul 10 y
        have h8 : (dgs 10).length ≤ 2 := dgs_lt (by omega)
        have := HYL.out
        omega
      have HR0 := hide hr0
      have HRY := hide hry
      generalize Value.slice o3 (cutB (d :: dgs r)).length c3 = rv at *
      clear hr0 hv3 hry hc3 hm3
      go_loopg [7] r0 (fun gm rv wx => ∃ (q r1 : Nat), gm = r1 ∧ q ≤ 9 ∧ Hid (r1 + q * y = r0) ∧ Hid (DigO (w.heap.size + 1) wx rv r1) ∧ Hid (Row1 i64N wx w.heap.size 3 (List.replicate j 0 ++ q :: M) []) ∧ Hid (Below w.heap.size w wx))
      case atStart => exact ⟨0, r0, rfl, by omega, (show _ = _ by omega), HD3, (by show Row1 _ _ _ _ _ _; rw [← rep_cons]; exact HR2.out), HB2⟩
      case round =>
        clear c0
        obtain ⟨q, r1, hgm, hq9, HQ, HRV, HRW, HBI⟩ := hrel
        have HGM2 := hide hgm
        clear hgm
        have hr1 : (dgs r1).length ≤ 150000 := Nat.le_trans (dgs_mono (by have := HQ.out; omega)) hl0
        have HORD : Hid (Calls Tryz.prog 106 #[u7, .slice ob (dgs y).length cb] wr fun e w2 => e = .returned (.int .i64 (ordN r1 y)) ∧ Below wr.heap.size wr w2) := by
          obtain ⟨oa, ca, e, _, _, s1⟩ := HRV.out.dig
          obtain ⟨ob', cb', e2, _, _, s2⟩ := HY.out.below HBI.out
          have h5 := rorder_any (dgs r1) (dgs y) oa ob' ca cb' All All wr s1 s2 (dgs_dgt r1) (dgs_dgt y) (dgs_cut r1) (dgs_cut y) (by omega) (by have := HYL.out; omega)
          rw [dgs_val, dgs_val, ← e, ← e2] at h5
          exact h5
        have HRL := hide hr1
        by_cases hle : y ≤ r1
        · have hq8 : q < 9 := div_small (H := H) (by have := HY0.out; omega) hd9 (by have := HQ.out; rw [this, HR0.out, HRR.out]) hle
          have HO0 : Hid (0 ≤ ordN r1 y) := by show 0 ≤ ordN r1 y; unfold ordN; rw [if_neg (by omega)]; split <;> omega
          generalize ordN r1 y = o at *
          have tq : decide (0 ≤ o) = true := decide_eq_true HO0.out
          have HLE := hide hle
          have HQ2 : Hid ((r1 - y) + (q + 1) * y = r0) := by have := HQ.out; show _ = _; rw [Nat.add_mul]; omega
          have HTK : Hid (∀ w', Below w.heap.size w w' → DigO (w.heap.size + 1) w' u7 r1 → Calls Tryz.prog 107 #[u7, .slice ob (dgs y).length cb] w' fun e w2 => ∃ v, e = .returned v ∧ DigO w'.heap.size w2 v (r1 - y) ∧ Below w'.heap.size w' w2) := fun w' hb hv => rtaken_own hv.dig (HY.out.below hb) (by have := HRL.out; omega) HLE.out
          clear hle hr1
          go_wp2_with (first
            | (go_at_call 106; (with_reducible refine HORD.out.mono ?_); rintro ec w5 ⟨rfl, hb5⟩; have HB5 := hide (below_then HBI.out hb5); have HR5 := hide (HRW.out.below hb5); have HV5 := hide (HRV.out.below hb5); clear hb5)
            | (go_at_call 107; (with_reducible refine (HTK.out _ HB5.out HV5.out).mono ?_); rintro ec w6 ⟨v, rfl, hv6, hb6⟩; have HB6 := hide (below_then HB5.out hb6); have HR6 := hide (HR5.out.below hb6); have HV6 := hide (hv6.mono (Nat.succ_le_of_lt HR5.out.lt)); have l6 : w6.cell? ⟨w.heap.size, j, none⟩ = some (.int .i64 (q : Int)) := HR6.out.cell (at_rep j q M); have f6 := HR6.out.free j; clear hv6 hb6))
          have HR7 := HR6.out.put (i := j) (by simp) (q + 1)
          rw [rep_set] at HR7
          have HR7 := hide HR7
          have HV7 := hide (HV6.out.other (p := ⟨w.heap.size, j, none⟩) (Nat.lt_succ_self _) (i64N (q + 1)))
          go_roundg (r1 - y)
          case rel => exact ⟨q + 1, r1 - y, rfl, by omega, HQ2, HV7, HR7, HB6.out.setCell (Nat.le_refl _) _⟩
          case measure => have := HGM2.out; have := HLE.out; have := HY0.out; omega
        · have HO0 : Hid (ordN r1 y = -1) := ordN_lt (by omega)
          have HF := hide (div_digit (H := H) (q := q) (r := r1) (by have := HY0.out; omega) (show r0 = d + 10 * (H % y) by rw [HR0.out, HRR.out]) HQ.out (by omega))
          rw [HO0.out] at HORD
          clear hle hr1
          go_wp2_with (go_at_call 106; (with_reducible refine HORD.out.mono ?_); rintro ec w5 ⟨rfl, hb5⟩; have HB5 := hide (below_then HBI.out hb5); have HR5 := hide (HRW.out.below hb5); have HV5 := hide (HRV.out.below hb5); clear hb5)
          have HDV : Hid (valB BD (p.drop j) = d + 10 * H) := by
            show _ = _
            rw [HDRP.out, HHH.out]
            rfl
          go_roundg j
          case rel =>
            refine ⟨j, q :: M, by omega, rfl, by go_num, (show _ = _ by rw [List.length_cons, HML.out]; omega), (show Dgt _ from dgt_cons (by omega) HMD.out), ?_, ?_, HR5, HB5⟩
            · show q + 10 * valB BD M = _
              rw [HMV.out, HDV.out]
              exact HF.out.1
            · show DigO _ _ _ _
              rw [HDV.out, ← HF.out.2]
              exact HV5.out
          case measure => rw [HGM.out]; omega
end Go.Proofs.YthpknfoahimopaaGreatDoor

set_option linter.unusedVariables false
set_option linter.unusedSimpArgs false
set_option linter.unnecessarySimpa false
namespace Go.Proofs.YthpknfoahimopaaGreatDoor
open Go.RowKit

theorem dgs_len0 (n : Nat) : (dgs n).length = 0 ↔ n = 0 := by
  constructor
  · intro h
    exact dgs_nil (List.eq_nil_of_length_eq_zero h)
  · rintro rfl
    rw [dgs_zero]
    rfl
theorem Sm.le {x y : Int} (h : Sm x) (hle : y.natAbs ≤ x.natAbs) : Sm y := Nat.le_trans (dgs_mono hle) h
theorem sm_one : Sm 1 := by
  show (dgs 1).length ≤ 10000
  exact Nat.le_trans (dgs_lt (k := 1) (by omega)) (by omega)
set_option maxRecDepth 100000 in
set_option maxHeartbeats 4000000 in
theorem rdown_any {x y : Int} (hx : Sm x) (hy : Sm y) (hy0 : y ≠ 0) (w : World) : Calls Tryz.prog 64 #[.string (strN (txtI x)), .string (strN (txtI y))] w fun e w' => e = .returned (.string (strN (txtI (x.fdiv y)))) ∧ Below w.heap.size w w' := by
  have hx1 : (dgs x.natAbs).length ≤ 10000 := hx
  have hy1 : (dgs y.natAbs).length ≤ 10000 := hy
  have hyn : y.natAbs ≠ 0 := by omega
  have HD1 : Hid (∀ w', Calls Tryz.prog 56 #[.string (strN (txtI x))] w' (DigPost w' x.natAbs)) := fun w' => rdigits_any hx.len w'
  have HD2 : Hid (∀ w', Calls Tryz.prog 56 #[.string (strN (txtI y))] w' (DigPost w' y.natAbs)) := fun w' => rdigits_any hy.len w'
  have HM1 : Hid (∀ w', Calls Tryz.prog 57 #[.string (strN (txtI x))] w' fun e w2 => e = .returned (.bool (decide (x < 0))) ∧ w' = w2) := fun w' => rminus_any x w'
  have HM2 : Hid (∀ w', Calls Tryz.prog 57 #[.string (strN (txtI y))] w' fun e w2 => e = .returned (.bool (decide (y < 0))) ∧ w' = w2) := fun w' => rminus_any y w'
  obtain ⟨Q, hQ⟩ : ∃ Q, Q = x.natAbs / y.natAbs := ⟨_, rfl⟩
  obtain ⟨R, hR⟩ : ∃ R, R = x.natAbs % y.natAbs := ⟨_, rfl⟩
  have HDV : Hid (∀ v u w', DigV w' v x.natAbs → DigV w' u y.natAbs → Calls Tryz.prog 101 #[v, u] w' (DigPost2 w' Q R)) := fun v u w' h1 h2 => by rw [hQ, hR]; exact rdivided_any h1 h2 (by omega) (by omega) hyn
  have hql : (dgs Q).length ≤ 10000 := by rw [hQ]; exact Nat.le_trans (dgs_mono (Nat.div_le_self _ _)) hx1
  have HL : Hid ((dgs Q).length ≤ 200000) := by show _ ≤ _; omega
  obtain ⟨a, ha⟩ : ∃ a, a = decide (x < 0) := ⟨_, rfl⟩
  obtain ⟨b, hb⟩ : ∃ b, b = decide (y < 0) := ⟨_, rfl⟩
  have HS1 : Hid (a = b ∨ R = 0 → x.fdiv y = sgZ (a != b) Q) := fun h => by
    rw [ha, hb, hQ]
    rw [ha, hb, hR] at h
    exact (down1 hy0 h).1.symm
  have HS2 : Hid (a ≠ b → R ≠ 0 → x.fdiv y = -(Q : Int) - 1) := fun h h0 => by
    rw [ha, hb] at h
    rw [hR] at h0
    have h5 := (down2 hy0 h h0).1
    rw [← hQ] at h5
    rw [← h5]
    unfold sgZ
    rw [if_pos rfl]
    omega
  have HLS : Hid (∀ w', Calls Tryz.prog 73 #[.string (strN (txtI (-(Q : Int)))), .string ⟨#[49]⟩] w' fun e w2 => e = .returned (.string (strN (txtI (-(Q : Int) - 1)))) ∧ Below w'.heap.size w' w2) := fun w' => by
    have h5 := rless_any (x := -(Q : Int)) (y := 1) (by unfold Sm; rw [Int.natAbs_neg, Int.natAbs_natCast]; exact hql) sm_one w'
    rw [show strN (txtI 1) = ⟨#[49]⟩ from by rw [txtI_one]; rfl] at h5
    exact h5
  rw [← ha] at HM1
  rw [← hb] at HM2
  obtain ⟨res, hres⟩ : ∃ r, r = strN (txtI (x.fdiv y)) := ⟨_, rfl⟩
  rw [← hres]
  have HRES := hide hres
  obtain ⟨s, hs⟩ : ∃ s, s = strN (txtI x) := ⟨_, rfl⟩
  obtain ⟨t, ht⟩ : ∃ t, t = strN (txtI y) := ⟨_, rfl⟩
  rw [← hs] at HD1 HM1
  rw [← ht] at HD2 HM2
  rw [← hs, ← ht]
  clear hx hy hy0 hs ht ha hb hres hx1 hy1 hyn hQ hR hql
  by_cases hr0 : R = 0
  · have HR : Hid (res = strN (txtI (sgZ (a != b) Q))) := by show res = _; rw [HRES.out, HS1.out (.inr hr0)]
    have HZ : Hid ((dgs R).length = 0) := (dgs_len0 R).2 hr0
    clear hr0
    go_enter Tryz.func64, Tryz.ntmps64
    go_wp2_with (first
      | (go_at_call 56; (with_reducible refine (HD1.out _).mono ?_); rintro ec w5 ⟨v, rfl, hv, hb5⟩; have HV := hide hv; have HB5 := hide hb5; clear hv hb5)
      | (go_at_call 56; (with_reducible refine (HD2.out _).mono ?_); rintro ec w6 ⟨u, rfl, hu, hb6⟩; have HU := hide hu; have HV := hide (HV.out.below hb6); have HB6 := hide (below_then HB5.out hb6); clear hu hb6)
      | (go_at_call 101; (with_reducible refine (HDV.out _ _ _ HV.out HU.out).mono ?_); rintro ec w7 ⟨p, q, rfl, hp, hq, hb7⟩; have HPR := hide hp; have HB7 := hide (below_then HB6.out hb7); obtain ⟨oq, cq, rfl, _, _, _⟩ := hq; rw [HZ.out]; clear hp hb7)
      | (go_at_call 57; (with_reducible refine (HM1.out _).mono ?_); rintro ec w8 ⟨rfl, rfl⟩)
      | (go_at_call 57; (with_reducible refine (HM2.out _).mono ?_); rintro ec w8 ⟨rfl, rfl⟩)
      | (go_at_call 102; (with_reducible refine (rtext_any HPR.out HL.out _).mono ?_); rintro ec w9 ⟨rfl, hb9⟩; have HB9 := hide (below_then HB7.out hb9); clear hb9))
    go_ret
    exact ⟨by rw [HR.out]; rfl, HB9.out⟩
  · have hz : 0 < (dgs R).length := Nat.pos_of_ne_zero fun h => hr0 ((dgs_len0 R).1 h)
    by_cases hab : a = b
    · have HR : Hid (res = strN (txtI (sgZ (a != b) Q))) := by show res = _; rw [HRES.out, HS1.out (.inl hab)]
      subst hab
      rw [show (a != a) = false from by simp] at HR
      clear hr0
      go_enter Tryz.func64, Tryz.ntmps64
      go_wp2_with (first
        | (go_at_call 56; (with_reducible refine (HD1.out _).mono ?_); rintro ec w5 ⟨v, rfl, hv, hb5⟩; have HV := hide hv; have HB5 := hide hb5; clear hv hb5)
        | (go_at_call 56; (with_reducible refine (HD2.out _).mono ?_); rintro ec w6 ⟨u, rfl, hu, hb6⟩; have HU := hide hu; have HV := hide (HV.out.below hb6); have HB6 := hide (below_then HB5.out hb6); clear hu hb6)
        | (go_at_call 101; (with_reducible refine (HDV.out _ _ _ HV.out HU.out).mono ?_); rintro ec w7 ⟨p, q, rfl, hp, hq, hb7⟩; have HPR := hide hp; have HB7 := hide (below_then HB6.out hb7); obtain ⟨oq, cq, rfl, _, _, _⟩ := hq; clear hp hb7)
        | (go_at_call 57; (with_reducible refine (HM1.out _).mono ?_); rintro ec w8 ⟨rfl, rfl⟩)
        | (go_at_call 57; (with_reducible refine (HM2.out _).mono ?_); rintro ec w8 ⟨rfl, rfl⟩)
        | (go_at_call 102; (with_reducible refine (rtext_any HPR.out HL.out _).mono ?_); rintro ec w9 ⟨rfl, hb9⟩; have HB9 := hide (below_then HB7.out hb9); clear hb9))
      go_ret
      exact ⟨by rw [HR.out]; rfl, HB9.out⟩
    · have HR : Hid (res = strN (txtI (-(Q : Int) - 1))) := by show res = _; rw [HRES.out, HS2.out hab hr0]
      have qab : (a == b) = false := by simpa using hab
      clear hr0 hab
      go_enter Tryz.func64, Tryz.ntmps64
      go_wp2_with (first
        | (go_at_call 56; (with_reducible refine (HD1.out _).mono ?_); rintro ec w5 ⟨v, rfl, hv, hb5⟩; have HV := hide hv; have HB5 := hide hb5; clear hv hb5)
        | (go_at_call 56; (with_reducible refine (HD2.out _).mono ?_); rintro ec w6 ⟨u, rfl, hu, hb6⟩; have HU := hide hu; have HV := hide (HV.out.below hb6); have HB6 := hide (below_then HB5.out hb6); clear hu hb6)
        | (go_at_call 101; (with_reducible refine (HDV.out _ _ _ HV.out HU.out).mono ?_); rintro ec w7 ⟨p, q, rfl, hp, hq, hb7⟩; have HPR := hide hp; have HB7 := hide (below_then HB6.out hb7); obtain ⟨oq, cq, rfl, _, _, _⟩ := hq; clear hp hb7)
        | (go_at_call 57; (with_reducible refine (HM1.out _).mono ?_); rintro ec w8 ⟨rfl, rfl⟩)
        | (go_at_call 57; (with_reducible refine (HM2.out _).mono ?_); rintro ec w8 ⟨rfl, rfl⟩)
        | (go_at_call 102; (with_reducible refine (rtext_any HPR.out HL.out _).mono ?_); rintro ec w9 ⟨rfl, hb9⟩; have HB9 := hide (below_then HB7.out hb9); clear hb9)
        | (go_at_call 73; refine (HLS.out _).mono ?_; rintro ec wA ⟨rfl, hbA⟩; have HBA := hide (below_then HB9.out hbA); clear hbA))
      go_ret
      exact ⟨by rw [HR.out]; rfl, HBA.out⟩
theorem rrest_nat {x y : Nat} (hx : Sm x) (hy : Sm y) (hy0 : y ≠ 0) (w : World) : Calls Tryz.prog 104 #[.string (strN (txtI x)), .string (strN (txtI y))] w fun e w' => e = .returned (.string (strN (txtI ((x % y : Nat) : Int)))) ∧ Below w.heap.size w w' := by
  have e1 : (x : Int).fdiv y = ((x / y : Nat) : Int) := by rw [Int.fdiv_eq_ediv_of_nonneg _ (by omega)]; rfl
  have e2 : (x : Int) - (y : Int) * ((x / y : Nat) : Int) = ((x % y : Nat) : Int) := by
    have h := Nat.mod_add_div x y
    have h2 : (y : Int) * ((x / y : Nat) : Int) = ((y * (x / y) : Nat) : Int) := by push_cast; rfl
    rw [h2]
    omega
  have hq : Sm ((x / y : Nat) : Int) := hx.le (by rw [Int.natAbs_natCast, Int.natAbs_natCast]; exact Nat.div_le_self _ _)
  have hm : Sm ((y : Int) * ((x / y : Nat) : Int)) := hx.le (by rw [Int.natAbs_mul, Int.natAbs_natCast, Int.natAbs_natCast, Int.natAbs_natCast]; exact Nat.mul_div_le x y)
  have H1 := hide (rdown_any hx hy (by omega) w)
  rw [e1] at H1
  have H2 : Hid (∀ w', Calls Tryz.prog 75 #[.string (strN (txtI y)), .string (strN (txtI ((x / y : Nat) : Int)))] w' fun e w2 => e = .returned (.string (strN (txtI ((y : Int) * ((x / y : Nat) : Int))))) ∧ Below w'.heap.size w' w2) := fun w' => rtimes_any hy hq w'
  have H3 : Hid (∀ w', Calls Tryz.prog 73 #[.string (strN (txtI x)), .string (strN (txtI ((y : Int) * ((x / y : Nat) : Int))))] w' fun e w2 => e = .returned (.string (strN (txtI ((x % y : Nat) : Int)))) ∧ Below w'.heap.size w' w2) := fun w' => by
    have h5 := rless_any hx hm w'
    rw [e2] at h5
    exact h5
  obtain ⟨s, hs⟩ : ∃ s, s = strN (txtI (x : Int)) := ⟨_, rfl⟩
  obtain ⟨t, ht⟩ : ∃ t, t = strN (txtI (y : Int)) := ⟨_, rfl⟩
  obtain ⟨q, hqq⟩ : ∃ q, q = strN (txtI ((x / y : Nat) : Int)) := ⟨_, rfl⟩
  obtain ⟨m, hmm⟩ : ∃ m, m = strN (txtI ((y : Int) * ((x / y : Nat) : Int))) := ⟨_, rfl⟩
  rw [← hs, ← ht, ← hqq] at H1
  rw [← ht, ← hqq, ← hmm] at H2
  rw [← hs, ← hmm] at H3
  rw [← hs, ← ht]
  clear hx hy hy0 e1 e2 hq hm hs ht hqq hmm
  go_enter Tryz.func104, Tryz.ntmps104
  go_wp2_with (first
    | (go_at_call 64; (with_reducible refine H1.out.mono ?_); rintro ec w5 ⟨rfl, hb5⟩; have HB5 := hide hb5; clear hb5)
    | (go_at_call 75; (with_reducible refine (H2.out _).mono ?_); rintro ec w6 ⟨rfl, hb6⟩; have HB6 := hide (below_then HB5.out hb6); clear hb6)
    | (go_at_call 73; (with_reducible refine (H3.out _).mono ?_); rintro ec w7 ⟨rfl, hb7⟩; have HB7 := hide (below_then HB6.out hb7); clear hb7))
  go_ret
  exact ⟨rfl, HB7.out⟩
set_option maxRecDepth 100000 in
set_option maxHeartbeats 4000000 in
theorem rcommon_any {x y : Int} (hx : Sm x) (hy : Sm y) (w : World) : Calls Tryz.prog 66 #[.string (strN (txtI x)), .string (strN (txtI y))] w fun e w' => e = .returned (.string (strN (txtI (x.gcd y : Int)))) ∧ Below w.heap.size w w' := by
  have H1 := hide (rpositive_any hx w)
  have H2 : Hid (∀ w', Calls Tryz.prog 103 #[.string (strN (txtI y))] w' fun e w2 => e = .returned (.string (strN (txtI (y.natAbs : Int)))) ∧ Below w'.heap.size w' w2) := fun w' => rpositive_any hy w'
  obtain ⟨g, hg⟩ : ∃ g, g = x.gcd y := ⟨_, rfl⟩
  rw [← hg]
  obtain ⟨X, hX⟩ : ∃ X, X = x.natAbs := ⟨_, rfl⟩
  obtain ⟨Y, hY⟩ : ∃ Y, Y = y.natAbs := ⟨_, rfl⟩
  have HG : Hid (g = X.gcd Y) := by show g = _; rw [hg, hX, hY]; rfl
  have HSX : Hid (Sm (X : Int)) := by show Sm _; rw [hX]; exact hx.le (by omega)
  have HSY : Hid (Sm (Y : Int)) := by show Sm _; rw [hY]; exact hy.le (by omega)
  rw [← hX] at H1
  rw [← hY] at H2
  clear hg hX hY hx hy
  go_enter Tryz.func66, Tryz.ntmps66
  go_wp2_with (first
    | (go_at_call 103; have _t := HSX; (with_reducible refine H1.out.mono ?_); rintro ec w5 ⟨rfl, hb5⟩; have HB5 := hide hb5; clear hb5)
    | (go_at_call 103; (with_reducible refine (H2.out _).mono ?_); rintro ec w6 ⟨rfl, hb6⟩; have HB6 := hide (below_then HB5.out hb6); clear hb6))
  go_loopg [0, 1] Y (fun gm av bv wx => ∃ a b : Nat, gm = b ∧ av = .string (strN (txtI (a : Int))) ∧ bv = .string (strN (txtI (b : Int))) ∧ Hid (a.gcd b = g) ∧ Hid (Sm (a : Int)) ∧ Hid (Sm (b : Int)) ∧ Hid (Below w.heap.size w wx))
  case atStart => exact ⟨X, Y, rfl, rfl, rfl, HG.out.symm, HSX, HSY, HB6⟩
  case round =>
    obtain ⟨a, b, hgm, rfl, rfl, HGC, HSA, HSB, HB⟩ := hrel
    have HGM := hide hgm
    clear hgm
    by_cases h0 : b = 0
    · have tz : ((strN (txtI (b : Int))).toList == [48]) = true := by rw [strN_toList, h0]; rfl
      have HR : Hid (a = g) := by have := HGC.out; rw [h0, Nat.gcd_zero_right] at this; exact this
      clear h0
      go_wp2_with fail
      go_ret
      exact ⟨by rw [← HR.out]; rfl, HB.out⟩
    · have tz : ((strN (txtI (b : Int))).toList == [48]) = false := txtI_ne0 (by omega)
      have HRS := hide (rrest_nat HSA.out HSB.out h0 wr)
      have HGC2 : Hid (b.gcd (a % b) = g) := by show _ = _; rw [← HGC.out, Nat.gcd_comm a b, Nat.gcd_rec b a, Nat.gcd_comm]
      have HSR : Hid (Sm ((a % b : Nat) : Int)) := HSB.out.le (by rw [Int.natAbs_natCast, Int.natAbs_natCast]; exact Nat.le_of_lt (Nat.mod_lt _ (by omega)))
      have HLT : Hid (a % b < b) := Nat.mod_lt _ (by omega)
      clear h0
      go_wp2_with (go_at_call 104; (with_reducible refine HRS.out.mono ?_); rintro ec w7 ⟨rfl, hb7⟩; have HB7 := hide (below_then HB.out hb7); clear hb7)
      go_roundg (a % b)
      case rel => exact ⟨b, a % b, rfl, rfl, by rfl, HGC2, HSB, HSR, HB7⟩
      case measure => rw [HGM.out]; exact HLT.out
end Go.Proofs.YthpknfoahimopaaGreatDoor

set_option linter.unusedVariables false
set_option linter.unusedSimpArgs false
set_option linter.unnecessarySimpa false
namespace Go.Proofs.YthpknfoahimopaaGreatDoor
open Go.RowKit

theorem strN_at {l : List UInt8} {j : Nat} {c : UInt8} (h : l[j]? = some c) : ∃ ts : j < (strN l).size, ((strN l)[j]'ts) = c := ⟨(List.getElem?_eq_some_iff.1 h).1, (List.getElem?_eq_some_iff.1 h).2⟩
theorem extract_one (l : List UInt8) : (strN l).extract 1 (strN l).size = strN (l.drop 1) := by
  apply ByteArray.ext
  apply Array.ext'
  rw [ByteArray.data_extract, Array.toList_extract]
  show List.extract l 1 l.toArray.size = _
  rw [List.extract_eq_take_drop]
  exact List.take_of_length_le (by simp)
set_option maxRecDepth 100000 in
set_option maxHeartbeats 4000000 in
theorem rcheck_any (l : List UInt8) (hs : l.length ≤ 140737488355328) (w : World) : Calls Tryz.prog 48 #[.string (strN l)] w fun e w' => e = .returned (.int .i64 (chkI l)) ∧ Below w.heap.size w w' := by
  obtain ⟨m, hm⟩ : ∃ m, m = magT l := ⟨_, rfl⟩
  obtain ⟨res, hres⟩ : ∃ r, r = chkI l := ⟨_, rfl⟩
  have HM := hide hm
  rw [← hres]
  have HRES := hide hres
  have hsz : (strN l).size = l.length := rfl
  have hml : m.length ≤ l.length := by rw [hm]; unfold magT; split <;> simp
  have HB0 : Hid (m.length = 0 → res = 3) := fun h => by
    rw [HRES.out]
    unfold chkI
    rw [if_neg]
    rintro ⟨_, h1, _⟩
    exact h1 (by rw [← HM.out]; exact List.eq_nil_of_length_eq_zero h)
  have HB1 : Hid (m[0]? = some 48 → 1 < m.length → res = 3) := fun h h2 => by
    rw [HRES.out]
    unfold chkI
    rw [if_neg]
    rintro ⟨_, _, h1⟩
    rw [← HM.out] at h1
    rcases h1 with h1 | h1
    · exact h1 (by rw [List.head?_eq_getElem?]; exact h)
    · omega
  have HBD : Hid (∀ c ∈ m, ¬ isDgt c → res = 3) := fun c hc hn => by
    rw [HRES.out]
    unfold chkI
    rw [if_neg]
    rintro ⟨h1, _⟩
    exact hn (h1 c (by rw [← HM.out]; exact hc))
  have HGD0 : Hid ((∀ c ∈ m, isDgt c) → m.length ≠ 0 → (m[0]? ≠ some 48 ∨ (m.length = 1 ∧ sgnT l = false)) → res = if 1024 < m.length then 11 else 0) := fun h1 h2 h3 => by
    rw [HRES.out]
    unfold chkI
    rw [← HM.out, if_pos]
    refine ⟨by rw [← HM.out]; exact h1, by rw [← HM.out]; exact fun e => h2 (by rw [e]; rfl), ?_⟩
    rw [← HM.out, List.head?_eq_getElem?]
    exact h3
  have HB0 : Hid (m.length = 0 → res = 3) := fun h => by
    rw [HRES.out]
    unfold chkI
    rw [if_neg]
    rintro ⟨_, h1, _⟩
    exact h1 (by rw [← HM.out]; exact List.eq_nil_of_length_eq_zero h)
  have HB1 : Hid (m[0]? = some 48 → 1 < m.length → res = 3) := fun h h2 => by
    rw [HRES.out]
    unfold chkI
    rw [if_neg]
    rintro ⟨_, _, h1⟩
    rw [← HM.out] at h1
    rcases h1 with h1 | h1
    · exact h1 (by rw [List.head?_eq_getElem?]; exact h)
    · omega
  have HBD : Hid (∀ c ∈ m, ¬ isDgt c → res = 3) := fun c hc hn => by
    rw [HRES.out]
    unfold chkI
    rw [if_neg]
    rintro ⟨h1, _⟩
    exact hn (h1 c (by rw [← HM.out]; exact hc))
  have HGD0 : Hid ((∀ c ∈ m, isDgt c) → m.length ≠ 0 → (m[0]? ≠ some 48 ∨ (m.length = 1 ∧ sgnT l = false)) → res = if 1024 < m.length then 11 else 0) := fun h1 h2 h3 => by
    rw [HRES.out]
    unfold chkI
    rw [← HM.out, if_pos]
    refine ⟨by rw [← HM.out]; exact h1, by rw [← HM.out]; exact fun e => h2 (by rw [e]; rfl), ?_⟩
    rw [← HM.out, List.head?_eq_getElem?]
    exact h3
  have HB0 : Hid (m.length = 0 → res = 3) := fun h => by
    rw [HRES.out]
    unfold chkI
    rw [if_neg]
    rintro ⟨_, h1, _⟩
    exact h1 (by rw [← HM.out]; exact List.eq_nil_of_length_eq_zero h)
  have HB1 : Hid (m[0]? = some 48 → 1 < m.length → res = 3) := fun h h2 => by
    rw [HRES.out]
    unfold chkI
    rw [if_neg]
    rintro ⟨_, _, h1⟩
    rw [← HM.out] at h1
    rcases h1 with h1 | h1
    · exact h1 (by rw [List.head?_eq_getElem?]; exact h)
    · omega
  have HBD : Hid (∀ c ∈ m, ¬ isDgt c → res = 3) := fun c hc hn => by
    rw [HRES.out]
    unfold chkI
    rw [if_neg]
    rintro ⟨h1, _⟩
    exact hn (h1 c (by rw [← HM.out]; exact hc))
  have HGD0 : Hid ((∀ c ∈ m, isDgt c) → m.length ≠ 0 → (m[0]? ≠ some 48 ∨ (m.length = 1 ∧ sgnT l = false)) → res = if 1024 < m.length then 11 else 0) := fun h1 h2 h3 => by
    rw [HRES.out]
    unfold chkI
    rw [← HM.out, if_pos]
    refine ⟨by rw [← HM.out]; exact h1, by rw [← HM.out]; exact fun e => h2 (by rw [e]; rfl), ?_⟩
    rw [← HM.out, List.head?_eq_getElem?]
    exact h3
  have HB0 : Hid (m.length = 0 → res = 3) := fun h => by
    rw [HRES.out]
    unfold chkI
    rw [if_neg]
    rintro ⟨_, h1, _⟩
    exact h1 (by rw [← HM.out]; exact List.eq_nil_of_length_eq_zero h)
  have HB1 : Hid (m[0]? = some 48 → 1 < m.length → res = 3) := fun h h2 => by
    rw [HRES.out]
    unfold chkI
    rw [if_neg]
    rintro ⟨_, _, h1⟩
    rw [← HM.out] at h1
    rcases h1 with h1 | h1
    · exact h1 (by rw [List.head?_eq_getElem?]; exact h)
    · omega
  have HBD : Hid (∀ c ∈ m, ¬ isDgt c → res = 3) := fun c hc hn => by
    rw [HRES.out]
    unfold chkI
    rw [if_neg]
    rintro ⟨h1, _⟩
    exact hn (h1 c (by rw [← HM.out]; exact hc))
  have HGD0 : Hid ((∀ c ∈ m, isDgt c) → m.length ≠ 0 → (m[0]? ≠ some 48 ∨ (m.length = 1 ∧ sgnT l = false)) → res = if 1024 < m.length then 11 else 0) := fun h1 h2 h3 => by
    rw [HRES.out]
    unfold chkI
    rw [← HM.out, if_pos]
    refine ⟨by rw [← HM.out]; exact h1, by rw [← HM.out]; exact fun e => h2 (by rw [e]; rfl), ?_⟩
    rw [← HM.out, List.head?_eq_getElem?]
    exact h3
  clear hm hres
  cases hb : sgnT l
  · have HMl : Hid (m = l) := by show m = l; rw [HM.out]; unfold magT; rw [hb]; rfl
    have HGOOD : Hid ((∀ c ∈ m, isDgt c) → m.length ≠ 0 → (m[0]? ≠ some 48 ∨ m.length = 1) → res = if 1024 < m.length then 11 else 0) := fun h1 h2 h3 => HGD0.out h1 h2 (h3.imp id fun h => ⟨h, hb⟩)
    by_cases h0 : l.length = 0
    · have HR : Hid (res = 3) := HB0.out (by rw [HMl.out]; exact h0)
      go_enter Tryz.func48, Tryz.ntmps48
      go_wp2_with fail
      go_ret
      exact ⟨by rw [HR.out]; rfl, Below.refl _ _⟩
    · obtain ⟨c, hc⟩ : ∃ c, l[0]? = some c := ⟨_, List.getElem?_eq_getElem (by omega)⟩
      obtain ⟨ts, tc⟩ := strN_at hc
      have h45 : c ≠ 45 := by
        rintro rfl
        unfold sgnT at hb
        rw [List.head?_eq_getElem?, hc] at hb
        simp at hb
      have t45 : ((c.toNat : Int) == 45) = false := by
        rw [Bool.eq_false_iff]
        intro e
        have h6 := eq_of_beq e
        exact h45 (UInt8.toNat_inj.1 (by show c.toNat = 45; omega))
      clear hc h45
      go_enter Tryz.func48, Tryz.ntmps48
      go_upto_region 6 with fail
      rw [← HMl.out] at hsz h0
      clear ts tc t45
      rw [← HMl.out]
      by_cases z0 : m.length = 0
      · have HR : Hid (res = 3) := HB0.out z0
        have q0 : ((m.length : Int) == 0) = true := by simp [z0]
        clear z0
        go_wp2_with fail
        go_ret
        exact ⟨by rw [HR.out]; rfl, Below.refl _ _⟩
      · obtain ⟨f, hf⟩ : ∃ f, m[0]? = some f := ⟨_, List.getElem?_eq_getElem (by omega)⟩
        obtain ⟨us, uc⟩ := strN_at hf
        have q0 : ((m.length : Int) == 0) = false := by simp; intro e; exact z0 (by rw [e]; rfl)
        by_cases z1 : f = 48 ∧ 1 < m.length
        · have HR : Hid (res = 3) := HB1.out (by rw [hf, z1.1]) z1.2
          have u48 : ((f.toNat : Int) == 48) = true := by rw [z1.1]; rfl
          have q1 : decide ((1 : Int) < (m.length : Int)) = true := by have := z1.2; simp; omega
          clear z1 hf
          go_wp2_with fail
          go_ret
          exact ⟨by rw [HR.out]; rfl, Below.refl _ _⟩
        · have hbr : (((f.toNat : Int) == 48) = false) ∨ (((f.toNat : Int) == 48) = true ∧ decide ((1 : Int) < (m.length : Int)) = false) := by
            by_cases h : f = 48
            · exact .inr ⟨by rw [h]; rfl, by have : ¬ 1 < m.length := fun h2 => z1 ⟨h, h2⟩; simp; omega⟩
            · refine .inl ?_
              rw [Bool.eq_false_iff]
              intro e
              have h6 := eq_of_beq e
              exact h (UInt8.toNat_inj.1 (by show f.toNat = 48; omega))
          have HGD : Hid ((∀ c ∈ m, isDgt c) → res = if 1024 < m.length then 11 else 0) := fun h => HGOOD.out h z0 (by
            rw [hf]
            by_cases h2 : f = 48
            · exact .inr (by have : ¬ 1 < m.length := fun h3 => z1 ⟨h2, h3⟩; omega)
            · exact .inl (fun e => h2 (Option.some.inj e)))
          clear z1 hf
          have hsm : (strN m).size = m.length := rfl
          rcases hbr with u48 | ⟨u48, q1⟩
          · go_wp2_with fail
            go_loopg [4] m.length (fun gm iv wx => ∃ k : Nat, k ≤ m.length ∧ gm = m.length - k ∧ iv = .int .i64 k ∧ Hid (∀ c ∈ m.take k, isDgt c) ∧ Hid (w = wx))
            case atStart => exact ⟨0, by omega, by omega, rfl, (fun c hc => by simp at hc), rfl⟩
            case round =>
              obtain ⟨k, hk, hgm, rfl, HD, HW⟩ := hrel
              have HGM := hide hgm
              clear hgm
              by_cases hlt : k < m.length
              · obtain ⟨c, hc⟩ : ∃ c, m[k]? = some c := ⟨_, List.getElem?_eq_getElem hlt⟩
                obtain ⟨vs, vc⟩ := strN_at hc
                have HC := hide hc
                obtain ⟨x, hx⟩ : ∃ x, x = c.toNat := ⟨_, rfl⟩
                have vx : ((strN m)[k]'vs).toNat = x := by rw [vc, hx]
                have HX := hide hx
                clear hc hx vc
                by_cases h1 : x < 48
                · have HR : Hid (res = 3) := HBD.out c (List.mem_of_getElem? HC.out) (fun h => by have := h.1; have := HX.out; omega)
                  have t1 : decide ((x : Int) < 48) = true := by simp; omega
                  go_wp2_with fail
                  go_ret
                  exact ⟨by rw [HR.out]; rfl, by rw [← HW.out]; exact Below.refl _ _⟩
                · have t1 : decide ((x : Int) < 48) = false := by simp; omega
                  by_cases h2 : 57 < x
                  · have HR : Hid (res = 3) := HBD.out c (List.mem_of_getElem? HC.out) (fun h => by have := h.2; have := HX.out; omega)
                    have t2 : decide ((57 : Int) < (x : Int)) = true := by simp; omega
                    go_wp2_with fail
                    go_ret
                    exact ⟨by rw [HR.out]; rfl, by rw [← HW.out]; exact Below.refl _ _⟩
                  · have t2 : decide ((57 : Int) < (x : Int)) = false := by simp; omega
                    have HD2 : Hid (∀ c ∈ m.take (k + 1), isDgt c) := fun y hy => by
                      rw [List.take_add_one, HC.out] at hy
                      rcases List.mem_append.1 hy with h | h
                      · exact HD.out y h
                      · simp at h
                        subst h
                        have := HX.out
                        exact ⟨by omega, by omega⟩
                    go_wp2_with fail
                    go_roundg (m.length - (k + 1))
                    case rel => exact ⟨k + 1, by omega, rfl, by go_num, HD2, HW⟩
                    case measure => rw [HGM.out]; omega
              · have HAD : Hid (∀ c ∈ m, isDgt c) := by
                  have h5 := HD.out
                  rw [List.take_of_length_le (by omega)] at h5
                  exact h5
                by_cases h11 : 1024 < m.length
                · have HR : Hid (res = 11) := by have := HGD.out HAD.out; rw [if_pos h11] at this; exact this
                  go_wp2_with fail
                  go_ret
                  exact ⟨by rw [HR.out]; rfl, by rw [← HW.out]; exact Below.refl _ _⟩
                · have HR : Hid (res = 0) := by have := HGD.out HAD.out; rw [if_neg h11] at this; exact this
                  go_wp2_with fail
                  go_ret
                  exact ⟨by rw [HR.out]; rfl, by rw [← HW.out]; exact Below.refl _ _⟩
          · go_wp2_with fail
            go_loopg [4] m.length (fun gm iv wx => ∃ k : Nat, k ≤ m.length ∧ gm = m.length - k ∧ iv = .int .i64 k ∧ Hid (∀ c ∈ m.take k, isDgt c) ∧ Hid (w = wx))
            case atStart => exact ⟨0, by omega, by omega, rfl, (fun c hc => by simp at hc), rfl⟩
            case round =>
              obtain ⟨k, hk, hgm, rfl, HD, HW⟩ := hrel
              have HGM := hide hgm
              clear hgm
              by_cases hlt : k < m.length
              · obtain ⟨c, hc⟩ : ∃ c, m[k]? = some c := ⟨_, List.getElem?_eq_getElem hlt⟩
                obtain ⟨vs, vc⟩ := strN_at hc
                have HC := hide hc
                obtain ⟨x, hx⟩ : ∃ x, x = c.toNat := ⟨_, rfl⟩
                have vx : ((strN m)[k]'vs).toNat = x := by rw [vc, hx]
                have HX := hide hx
                clear hc hx vc
                by_cases h1 : x < 48
                · have HR : Hid (res = 3) := HBD.out c (List.mem_of_getElem? HC.out) (fun h => by have := h.1; have := HX.out; omega)
                  have t1 : decide ((x : Int) < 48) = true := by simp; omega
                  go_wp2_with fail
                  go_ret
                  exact ⟨by rw [HR.out]; rfl, by rw [← HW.out]; exact Below.refl _ _⟩
                · have t1 : decide ((x : Int) < 48) = false := by simp; omega
                  by_cases h2 : 57 < x
                  · have HR : Hid (res = 3) := HBD.out c (List.mem_of_getElem? HC.out) (fun h => by have := h.2; have := HX.out; omega)
                    have t2 : decide ((57 : Int) < (x : Int)) = true := by simp; omega
                    go_wp2_with fail
                    go_ret
                    exact ⟨by rw [HR.out]; rfl, by rw [← HW.out]; exact Below.refl _ _⟩
                  · have t2 : decide ((57 : Int) < (x : Int)) = false := by simp; omega
                    have HD2 : Hid (∀ c ∈ m.take (k + 1), isDgt c) := fun y hy => by
                      rw [List.take_add_one, HC.out] at hy
                      rcases List.mem_append.1 hy with h | h
                      · exact HD.out y h
                      · simp at h
                        subst h
                        have := HX.out
                        exact ⟨by omega, by omega⟩
                    go_wp2_with fail
                    go_roundg (m.length - (k + 1))
                    case rel => exact ⟨k + 1, by omega, rfl, by go_num, HD2, HW⟩
                    case measure => rw [HGM.out]; omega
              · have HAD : Hid (∀ c ∈ m, isDgt c) := by
                  have h5 := HD.out
                  rw [List.take_of_length_le (by omega)] at h5
                  exact h5
                by_cases h11 : 1024 < m.length
                · have HR : Hid (res = 11) := by have := HGD.out HAD.out; rw [if_pos h11] at this; exact this
                  go_wp2_with fail
                  go_ret
                  exact ⟨by rw [HR.out]; rfl, by rw [← HW.out]; exact Below.refl _ _⟩
                · have HR : Hid (res = 0) := by have := HGD.out HAD.out; rw [if_neg h11] at this; exact this
                  go_wp2_with fail
                  go_ret
                  exact ⟨by rw [HR.out]; rfl, by rw [← HW.out]; exact Below.refl _ _⟩
  · have hlp : 0 < l.length := by
      rcases Nat.eq_zero_or_pos l.length with h | h
      · rw [List.eq_nil_of_length_eq_zero h] at hb
        simp [sgnT] at hb
      · exact h
    have HMl : Hid (m = l.drop 1) := by show m = _; rw [HM.out]; unfold magT; rw [hb]; rfl
    obtain ⟨c, hc⟩ : ∃ c, l[0]? = some c := ⟨_, List.getElem?_eq_getElem hlp⟩
    have h45 : c = 45 := by
      unfold sgnT at hb
      rw [List.head?_eq_getElem?, hc] at hb
      simpa using hb
    subst h45
    obtain ⟨ts, tc⟩ := strN_at hc
    have hx1 : (strN l).extract 1 (strN l).size = strN m := by rw [HMl.out]; exact extract_one l
    have hx2 : (strN l).extract 1 l.length = strN m := hx1
    have q9 : decide ((0 : Int) < (l.length : Int)) = true := by simp; omega
    by_cases h48 : m = [48]
    · have HR : Hid (res = 3) := by
        rw [HRES.out]
        unfold chkI
        show (if CanT l then _ else (3 : Int)) = 3
        rw [if_neg]
        rintro ⟨_, _, h1⟩
        rw [← HM.out, h48, hb] at h1
        simp at h1
      have t48 : ((strN m).toList == [48]) = true := by rw [strN_toList, h48]; rfl
      clear hc h48
      go_enter Tryz.func48, Tryz.ntmps48
      go_wp2_with fail
      go_ret
      exact ⟨by rw [HR.out]; rfl, Below.refl _ _⟩
    · have t48 : ((strN m).toList == [48]) = false := by rw [strN_toList, Bool.eq_false_iff]; exact fun e => h48 (eq_of_beq e)
      have HGOOD : Hid ((∀ c ∈ m, isDgt c) → m.length ≠ 0 → (m[0]? ≠ some 48 ∨ m.length = 1) → res = if 1024 < m.length then 11 else 0) := fun h1 h2 h3 => HGD0.out h1 h2 (.inl (by
        rcases h3 with h3 | h3
        · exact h3
        · intro e
          apply h48
          match m, h3 with
          | [a], _ => rw [show a = 48 from Option.some.inj e]))
      clear hc h48
      go_enter Tryz.func48, Tryz.ntmps48
      go_upto_region 6 with fail
      clear t48 q9 hx1 hx2 ts tc
      have hsm0 : (strN m).size = m.length := rfl
      by_cases z0 : m.length = 0
      · have HR : Hid (res = 3) := HB0.out z0
        have q0 : ((m.length : Int) == 0) = true := by simp [z0]
        clear z0
        go_wp2_with fail
        go_ret
        exact ⟨by rw [HR.out]; rfl, Below.refl _ _⟩
      · obtain ⟨f, hf⟩ : ∃ f, m[0]? = some f := ⟨_, List.getElem?_eq_getElem (by omega)⟩
        obtain ⟨us, uc⟩ := strN_at hf
        have q0 : ((m.length : Int) == 0) = false := by simp; intro e; exact z0 (by rw [e]; rfl)
        by_cases z1 : f = 48 ∧ 1 < m.length
        · have HR : Hid (res = 3) := HB1.out (by rw [hf, z1.1]) z1.2
          have u48 : ((f.toNat : Int) == 48) = true := by rw [z1.1]; rfl
          have q1 : decide ((1 : Int) < (m.length : Int)) = true := by have := z1.2; simp; omega
          clear z1 hf
          go_wp2_with fail
          go_ret
          exact ⟨by rw [HR.out]; rfl, Below.refl _ _⟩
        · have hbr : (((f.toNat : Int) == 48) = false) ∨ (((f.toNat : Int) == 48) = true ∧ decide ((1 : Int) < (m.length : Int)) = false) := by
            by_cases h : f = 48
            · exact .inr ⟨by rw [h]; rfl, by have : ¬ 1 < m.length := fun h2 => z1 ⟨h, h2⟩; simp; omega⟩
            · refine .inl ?_
              rw [Bool.eq_false_iff]
              intro e
              have h6 := eq_of_beq e
              exact h (UInt8.toNat_inj.1 (by show f.toNat = 48; omega))
          have HGD : Hid ((∀ c ∈ m, isDgt c) → res = if 1024 < m.length then 11 else 0) := fun h => HGOOD.out h z0 (by
            rw [hf]
            by_cases h2 : f = 48
            · exact .inr (by have : ¬ 1 < m.length := fun h3 => z1 ⟨h2, h3⟩; omega)
            · exact .inl (fun e => h2 (Option.some.inj e)))
          clear z1 hf
          have hsm : (strN m).size = m.length := rfl
          rcases hbr with u48 | ⟨u48, q1⟩
          · go_wp2_with fail
            go_loopg [4] m.length (fun gm iv wx => ∃ k : Nat, k ≤ m.length ∧ gm = m.length - k ∧ iv = .int .i64 k ∧ Hid (∀ c ∈ m.take k, isDgt c) ∧ Hid (w = wx))
            case atStart => exact ⟨0, by omega, by omega, rfl, (fun c hc => by simp at hc), rfl⟩
            case round =>
              obtain ⟨k, hk, hgm, rfl, HD, HW⟩ := hrel
              have HGM := hide hgm
              clear hgm
              by_cases hlt : k < m.length
              · obtain ⟨c, hc⟩ : ∃ c, m[k]? = some c := ⟨_, List.getElem?_eq_getElem hlt⟩
                obtain ⟨vs, vc⟩ := strN_at hc
                have HC := hide hc
                obtain ⟨x, hx⟩ : ∃ x, x = c.toNat := ⟨_, rfl⟩
                have vx : ((strN m)[k]'vs).toNat = x := by rw [vc, hx]
                have HX := hide hx
                clear hc hx vc
                by_cases h1 : x < 48
                · have HR : Hid (res = 3) := HBD.out c (List.mem_of_getElem? HC.out) (fun h => by have := h.1; have := HX.out; omega)
                  have t1 : decide ((x : Int) < 48) = true := by simp; omega
                  go_wp2_with fail
                  go_ret
                  exact ⟨by rw [HR.out]; rfl, by rw [← HW.out]; exact Below.refl _ _⟩
                · have t1 : decide ((x : Int) < 48) = false := by simp; omega
                  by_cases h2 : 57 < x
                  · have HR : Hid (res = 3) := HBD.out c (List.mem_of_getElem? HC.out) (fun h => by have := h.2; have := HX.out; omega)
                    have t2 : decide ((57 : Int) < (x : Int)) = true := by simp; omega
                    go_wp2_with fail
                    go_ret
                    exact ⟨by rw [HR.out]; rfl, by rw [← HW.out]; exact Below.refl _ _⟩
                  · have t2 : decide ((57 : Int) < (x : Int)) = false := by simp; omega
                    have HD2 : Hid (∀ c ∈ m.take (k + 1), isDgt c) := fun y hy => by
                      rw [List.take_add_one, HC.out] at hy
                      rcases List.mem_append.1 hy with h | h
                      · exact HD.out y h
                      · simp at h
                        subst h
                        have := HX.out
                        exact ⟨by omega, by omega⟩
                    go_wp2_with fail
                    go_roundg (m.length - (k + 1))
                    case rel => exact ⟨k + 1, by omega, rfl, by go_num, HD2, HW⟩
                    case measure => rw [HGM.out]; omega
              · have HAD : Hid (∀ c ∈ m, isDgt c) := by
                  have h5 := HD.out
                  rw [List.take_of_length_le (by omega)] at h5
                  exact h5
                by_cases h11 : 1024 < m.length
                · have HR : Hid (res = 11) := by have := HGD.out HAD.out; rw [if_pos h11] at this; exact this
                  go_wp2_with fail
                  go_ret
                  exact ⟨by rw [HR.out]; rfl, by rw [← HW.out]; exact Below.refl _ _⟩
                · have HR : Hid (res = 0) := by have := HGD.out HAD.out; rw [if_neg h11] at this; exact this
                  go_wp2_with fail
                  go_ret
                  exact ⟨by rw [HR.out]; rfl, by rw [← HW.out]; exact Below.refl _ _⟩
          · go_wp2_with fail
            go_loopg [4] m.length (fun gm iv wx => ∃ k : Nat, k ≤ m.length ∧ gm = m.length - k ∧ iv = .int .i64 k ∧ Hid (∀ c ∈ m.take k, isDgt c) ∧ Hid (w = wx))
            case atStart => exact ⟨0, by omega, by omega, rfl, (fun c hc => by simp at hc), rfl⟩
            case round =>
              obtain ⟨k, hk, hgm, rfl, HD, HW⟩ := hrel
              have HGM := hide hgm
              clear hgm
              by_cases hlt : k < m.length
              · obtain ⟨c, hc⟩ : ∃ c, m[k]? = some c := ⟨_, List.getElem?_eq_getElem hlt⟩
                obtain ⟨vs, vc⟩ := strN_at hc
                have HC := hide hc
                obtain ⟨x, hx⟩ : ∃ x, x = c.toNat := ⟨_, rfl⟩
                have vx : ((strN m)[k]'vs).toNat = x := by rw [vc, hx]
                have HX := hide hx
                clear hc hx vc
                by_cases h1 : x < 48
                · have HR : Hid (res = 3) := HBD.out c (List.mem_of_getElem? HC.out) (fun h => by have := h.1; have := HX.out; omega)
                  have t1 : decide ((x : Int) < 48) = true := by simp; omega
                  go_wp2_with fail
                  go_ret
                  exact ⟨by rw [HR.out]; rfl, by rw [← HW.out]; exact Below.refl _ _⟩
                · have t1 : decide ((x : Int) < 48) = false := by simp; omega
                  by_cases h2 : 57 < x
                  · have HR : Hid (res = 3) := HBD.out c (List.mem_of_getElem? HC.out) (fun h => by have := h.2; have := HX.out; omega)
                    have t2 : decide ((57 : Int) < (x : Int)) = true := by simp; omega
                    go_wp2_with fail
                    go_ret
                    exact ⟨by rw [HR.out]; rfl, by rw [← HW.out]; exact Below.refl _ _⟩
                  · have t2 : decide ((57 : Int) < (x : Int)) = false := by simp; omega
                    have HD2 : Hid (∀ c ∈ m.take (k + 1), isDgt c) := fun y hy => by
                      rw [List.take_add_one, HC.out] at hy
                      rcases List.mem_append.1 hy with h | h
                      · exact HD.out y h
                      · simp at h
                        subst h
                        have := HX.out
                        exact ⟨by omega, by omega⟩
                    go_wp2_with fail
                    go_roundg (m.length - (k + 1))
                    case rel => exact ⟨k + 1, by omega, rfl, by go_num, HD2, HW⟩
                    case measure => rw [HGM.out]; omega
              · have HAD : Hid (∀ c ∈ m, isDgt c) := by
                  have h5 := HD.out
                  rw [List.take_of_length_le (by omega)] at h5
                  exact h5
                by_cases h11 : 1024 < m.length
                · have HR : Hid (res = 11) := by have := HGD.out HAD.out; rw [if_pos h11] at this; exact this
                  go_wp2_with fail
                  go_ret
                  exact ⟨by rw [HR.out]; rfl, by rw [← HW.out]; exact Below.refl _ _⟩
                · have HR : Hid (res = 0) := by have := HGD.out HAD.out; rw [if_neg h11] at this; exact this
                  go_wp2_with fail
                  go_ret
                  exact ⟨by rw [HR.out]; rfl, by rw [← HW.out]; exact Below.refl _ _⟩
end Go.Proofs.YthpknfoahimopaaGreatDoor

set_option linter.unusedVariables false
set_option linter.unusedSimpArgs false
set_option linter.unnecessarySimpa false
namespace Go.Proofs.YthpknfoahimopaaGreatDoor
open Go.RowKit

/-- Short, or wrong and not too long. -/
def fewT (l : List UInt8) : Bool := decide (l.length ≤ 60) || (decide (l.length ≤ 2048) && (chkI l == 3))
set_option maxRecDepth 100000 in
theorem rfew_any (l : List UInt8) (hs : l.length ≤ 140737488355328) (w : World) : Calls Tryz.prog 10 #[.string (strN l)] w fun e w' => e = .returned (.bool (fewT l)) ∧ Below w.heap.size w w' := by
  have hsz : (strN l).size = l.length := rfl
  have H1 := hide (rcheck_any l hs w)
  obtain ⟨res, hres⟩ : ∃ r, r = fewT l := ⟨_, rfl⟩
  rw [← hres]
  have HRES := hide hres
  clear hres
  by_cases h6 : l.length ≤ 60
  · have HR : Hid (res = true) := by show res = true; rw [HRES.out]; unfold fewT; rw [decide_eq_true h6]; rfl
    have t6 : decide ((l.length : Int) ≤ 60) = true := by simp; omega
    clear h6
    go_enter Tryz.func10, Tryz.ntmps10
    go_wp2_with fail
    go_ret
    exact ⟨by rw [HR.out]; rfl, Below.refl _ _⟩
  · have t6 : decide ((l.length : Int) ≤ 60) = false := by simp; omega
    by_cases h20 : l.length ≤ 2048
    · have HR : Hid (res = (chkI l == 3)) := by show res = _; rw [HRES.out]; unfold fewT; rw [decide_eq_false h6, decide_eq_true h20]; rfl
      have t20 : decide ((l.length : Int) ≤ 2048) = true := by simp; omega
      clear h6 h20
      go_enter Tryz.func10, Tryz.ntmps10
      go_wp2_with (go_at_call 48; (with_reducible refine H1.out.mono ?_); rintro ec w5 ⟨rfl, hb5⟩; have HB5 := hide hb5; clear hb5)
      go_ret
      exact ⟨by rw [HR.out]; rfl, HB5.out⟩
    · have HR : Hid (res = false) := by show res = false; rw [HRES.out]; unfold fewT; rw [decide_eq_false h6, decide_eq_false h20]; rfl
      have t20 : decide ((l.length : Int) ≤ 2048) = false := by simp; omega
      clear h6 h20
      go_enter Tryz.func10, Tryz.ntmps10
      go_wp2_with fail
      go_ret
      exact ⟨by rw [HR.out]; rfl, Below.refl _ _⟩
end Go.Proofs.YthpknfoahimopaaGreatDoor

set_option linter.unusedVariables false
set_option linter.unusedSimpArgs false
set_option linter.unnecessarySimpa false
namespace Go.Proofs.YthpknfoahimopaaGreatDoor
open Go.RowKit

theorem dgs_le_len (n : Nat) : (dgs n).length ≤ (txtN n).length := by
  by_cases h : n = 0
  · subst h
    rw [dgs_zero]
    exact Nat.zero_le _
  · rw [txtN_len h]
    exact Nat.le_refl _
theorem Lim.sm {z : Int} (h : Lim z) : Sm z := by
  have h1 := dgs_le_len z.natAbs
  have h2 : (txtN z.natAbs).length ≤ 1024 := h
  show (dgs z.natAbs).length ≤ 10000
  omega
set_option maxRecDepth 100000 in
set_option maxHeartbeats 4000000 in
theorem rfcheck_bad (l m : List UInt8) {e1 e2 : Int} {w : World} (hs : l.length ≤ 140737488355328) (ht : m.length ≤ 140737488355328) (h1 : chkI l = e1) (h2 : chkI m = e2) (hb : e1 ≠ 0 ∨ e2 ≠ 0) :
    Calls Tryz.prog 33 #[.agg #[.string (strN l), .string (strN m)]] w fun e w' => e = .returned (.int .i64 (errOr e1 e2)) ∧ Below w.heap.size w w' := by
  have H1 : Hid (∀ w', Calls Tryz.prog 48 #[.string (strN l)] w' fun e w2 => e = .returned (.int .i64 e1) ∧ Below w'.heap.size w' w2) := fun w' => by rw [← h1]; exact rcheck_any l hs w'
  have H2 : Hid (∀ w', Calls Tryz.prog 48 #[.string (strN m)] w' fun e w2 => e = .returned (.int .i64 e2) ∧ Below w'.heap.size w' w2) := fun w' => by rw [← h2]; exact rcheck_any m ht w'
  generalize strN l = s at *
  generalize strN m = t at *
  have HW : Hid (Below w.heap.size w (w.alloc (.cells #[.string s, .string t] 26))) := bnew (Below.refl _ _) _
  have HA := hide (Box.new w [.string s, .string t] 26)
  have HBAD := hide hb
  clear hs ht h1 h2 hb
  by_cases h : e1 = 0
  · have q1 : (e1 != 0) = false := by simp [h]
    have h2 : e2 ≠ 0 := by
      rcases HBAD.out with h5 | h5
      · exact absurd h h5
      · exact h5
    have q2 : (e2 != 0) = true := by simpa using h2
    have HR : Hid (errOr e1 e2 = e2) := by show errOr e1 e2 = e2; unfold errOr; rw [if_neg (by simp [h])]
    clear h h2
    go_enter Tryz.func33, Tryz.ntmps33
    go_wp2_with (first
      | (go_at_call 48; have _t := HA; (with_reducible refine (H1.out _).mono ?_); rintro ec w5 ⟨rfl, hb5⟩; have HB5 := hide (below_then HW.out hb5); obtain ⟨d0, d1, f0, f1⟩ := (HA.out.below hb5).two; clear HA hb5 _t)
      | (go_at_call 48; (with_reducible refine (H2.out _).mono ?_); rintro ec w6 ⟨rfl, hb6⟩; have HB6 := hide (below_then HB5.out hb6); clear hb6))
    go_ret
    exact ⟨by rw [HR.out]; rfl, HB6.out⟩
  · have q1 : (e1 != 0) = true := by simpa using h
    have HR : Hid (errOr e1 e2 = e1) := if_pos h
    clear h
    go_enter Tryz.func33, Tryz.ntmps33
    go_wp2_with (go_at_call 48; (with_reducible refine (H1.out _).mono ?_); rintro ec w5 ⟨rfl, hb5⟩; have HB5 := hide (below_then HW.out hb5); clear hb5)
    go_ret
    exact ⟨by rw [HR.out]; rfl, HB5.out⟩
set_option maxRecDepth 100000 in
set_option maxHeartbeats 4000000 in
theorem rfcheck_ok {p q : Int} (hp : Lim p) (hq : Lim q) {w : World} : Calls Tryz.prog 33 #[.agg #[.string (strN (txtI p)), .string (strN (txtI q))]] w fun e w' => e = .returned (.int .i64 (frE p q)) ∧ Below w.heap.size w w' := by
  have hc (z : Int) (h : Lim z) (w' : World) : Calls Tryz.prog 48 #[.string (strN (txtI z))] w' fun e w2 => e = .returned (.int .i64 0) ∧ Below w'.heap.size w' w2 := by
    rw [← chk_lim h]
    exact rcheck_any (txtI z) (by have h1 := txtI_len z; have h2 : lenI z ≤ 1024 := h; omega) w'
  have H1 : Hid (∀ w', Calls Tryz.prog 48 #[.string (strN (txtI p))] w' fun e w2 => e = .returned (.int .i64 0) ∧ Below w'.heap.size w' w2) := fun w' => hc p hp w'
  have H2 : Hid (∀ w', Calls Tryz.prog 48 #[.string (strN (txtI q))] w' fun e w2 => e = .returned (.int .i64 0) ∧ Below w'.heap.size w' w2) := fun w' => hc q hq w'
  have HO : Hid (∀ w', Calls Tryz.prog 55 #[.string (strN (txtI q)), .string ⟨#[48]⟩] w' fun e w2 => e = .returned (.int .i64 (sgI q)) ∧ Below w'.heap.size w' w2) := fun w' => by
    have h5 := ror_any hq.sm (y := 0) lim_zero.sm w'
    rw [Int.sub_zero] at h5
    exact h5
  have HG : Hid (∀ w', Calls Tryz.prog 66 #[.string (strN (txtI p)), .string (strN (txtI q))] w' fun e w2 => e = .returned (.string (strN (txtI (p.gcd q : Int)))) ∧ Below w'.heap.size w' w2) := fun w' => rcommon_any hp.sm hq.sm w'
  obtain ⟨s, hs⟩ : ∃ s, s = strN (txtI p) := ⟨_, rfl⟩
  obtain ⟨t, htt⟩ : ∃ t, t = strN (txtI q) := ⟨_, rfl⟩
  rw [← hs] at H1 HG
  rw [← htt] at H2 HO HG
  rw [← hs, ← htt]
  obtain ⟨sg, hsg⟩ : ∃ sg, sg = sgI q := ⟨_, rfl⟩
  rw [← hsg] at HO
  obtain ⟨gs, hgs⟩ : ∃ gs, gs = strN (txtI (p.gcd q : Int)) := ⟨_, rfl⟩
  rw [← hgs] at HG
  have HSG := hide hsg
  have HGS := hide hgs
  have HW : Hid (Below w.heap.size w (w.alloc (.cells #[.string s, .string t] 26))) := bnew (Below.refl _ _) _
  have HA := hide (Box.new w [.string s, .string t] 26)
  clear hs htt hp hq hsg hgs hc
  by_cases hq0 : 0 < q
  · have hsg1 : sg = 1 := by rw [HSG.out]; unfold sgI; rw [if_neg (by omega), if_neg (by omega)]
    subst hsg1
    by_cases hg : p.gcd q = 1
    · have HR : Hid (frE p q = 0) := if_pos ⟨hq0, hg⟩
      have tg : (gs.toList == [49]) = true := by rw [HGS.out, strN_toList, hg]; exact beq_iff_eq.2 txtI_one
      clear hg hq0
      go_enter Tryz.func33, Tryz.ntmps33
      go_wp2_with (first
        | (go_at_call 48; have _t := HA; (with_reducible refine (H1.out _).mono ?_); rintro ec w5 ⟨rfl, hb5⟩; have HB5 := hide (below_then HW.out hb5); have HA5 := hide (HA.out.below hb5); obtain ⟨d0, d1, f0, f1⟩ := HA5.out.two; clear HA hb5 _t)
        | (go_at_call 48; (with_reducible refine (H2.out _).mono ?_); rintro ec w6 ⟨rfl, hb6⟩; have HB6 := hide (below_then HB5.out hb6); have HA6 := hide (HA5.out.below hb6); obtain ⟨d0, d1, f0, f1⟩ := HA6.out.two; clear hb6)
        | (go_at_call 55; (with_reducible refine (HO.out _).mono ?_); rintro ec w7 ⟨rfl, hb7⟩; have HB7 := hide (below_then HB6.out hb7); obtain ⟨d0, d1, f0, f1⟩ := (HA6.out.below hb7).two; clear hb7)
        | (go_at_call 66; (with_reducible refine (HG.out _).mono ?_); rintro ec w8 ⟨rfl, hb8⟩; have HB8 := hide (below_then HB7.out hb8); clear hb8))
      go_ret
      exact ⟨by rw [HR.out]; rfl, HB8.out⟩
    · have HR : Hid (frE p q = 3) := if_neg (fun h => hg h.2)
      have tg : (gs.toList == [49]) = false := by
        rw [HGS.out, strN_toList, Bool.eq_false_iff]
        intro h
        have h5 := txtI_inj (x := (p.gcd q : Int)) (y := 1) ((eq_of_beq h).trans txtI_one.symm)
        exact hg (by omega)
      clear hg hq0
      go_enter Tryz.func33, Tryz.ntmps33
      go_wp2_with (first
        | (go_at_call 48; have _t := HA; (with_reducible refine (H1.out _).mono ?_); rintro ec w5 ⟨rfl, hb5⟩; have HB5 := hide (below_then HW.out hb5); have HA5 := hide (HA.out.below hb5); obtain ⟨d0, d1, f0, f1⟩ := HA5.out.two; clear HA hb5 _t)
        | (go_at_call 48; (with_reducible refine (H2.out _).mono ?_); rintro ec w6 ⟨rfl, hb6⟩; have HB6 := hide (below_then HB5.out hb6); have HA6 := hide (HA5.out.below hb6); obtain ⟨d0, d1, f0, f1⟩ := HA6.out.two; clear hb6)
        | (go_at_call 55; (with_reducible refine (HO.out _).mono ?_); rintro ec w7 ⟨rfl, hb7⟩; have HB7 := hide (below_then HB6.out hb7); obtain ⟨d0, d1, f0, f1⟩ := (HA6.out.below hb7).two; clear hb7)
        | (go_at_call 66; (with_reducible refine (HG.out _).mono ?_); rintro ec w8 ⟨rfl, hb8⟩; have HB8 := hide (below_then HB7.out hb8); clear hb8))
      go_ret
      exact ⟨by rw [HR.out]; rfl, HB8.out⟩
  · have HR : Hid (frE p q = 3) := if_neg (fun h => hq0 h.1)
    have hsg1 : sg ≤ 0 := by rw [HSG.out]; unfold sgI; split; omega; split <;> omega
    have tg : decide (sg ≤ 0) = true := by simpa using hsg1
    clear hq0
    go_enter Tryz.func33, Tryz.ntmps33
    go_wp2_with (first
      | (go_at_call 48; have _t := HA; (with_reducible refine (H1.out _).mono ?_); rintro ec w5 ⟨rfl, hb5⟩; have HB5 := hide (below_then HW.out hb5); have HA5 := hide (HA.out.below hb5); obtain ⟨d0, d1, f0, f1⟩ := HA5.out.two; clear HA hb5 _t)
      | (go_at_call 48; (with_reducible refine (H2.out _).mono ?_); rintro ec w6 ⟨rfl, hb6⟩; have HB6 := hide (below_then HB5.out hb6); have HA6 := hide (HA5.out.below hb6); obtain ⟨d0, d1, f0, f1⟩ := HA6.out.two; clear hb6)
      | (go_at_call 55; (with_reducible refine (HO.out _).mono ?_); rintro ec w7 ⟨rfl, hb7⟩; have HB7 := hide (below_then HB6.out hb7); clear hb7))
    go_ret
    exact ⟨by rw [HR.out]; rfl, HB7.out⟩
theorem rfcheck_any (l m : List UInt8) (hs : l.length ≤ 140737488355328) (ht : m.length ≤ 140737488355328) {w : World} : Calls Tryz.prog 33 #[.agg #[.string (strN l), .string (strN m)]] w fun e w' => e = .returned (.int .i64 (chkF l m)) ∧ Below w.heap.size w w' := by
  by_cases h1 : chkI l = 0
  · by_cases h2 : chkI m = 0
    · obtain ⟨p, rfl, hp⟩ := chkI_ok h1
      obtain ⟨q, rfl, hq⟩ := chkI_ok h2
      have h5 := rfcheck_ok hp hq (w := w)
      have e : chkF (txtI p) (txtI q) = frE p q := by
        unfold chkF
        rw [h1, h2, readI_txtI, readI_txtI]
        rfl
      rw [e]
      exact h5
    · have h5 := rfcheck_bad l m (w := w) hs ht h1 rfl (.inr h2)
      have e : chkF l m = errOr 0 (chkI m) := by
        unfold chkF errOr
        rw [h1, if_neg (by simp), if_pos h2, if_neg (by simp)]
      rw [e]
      exact h5
  · have h5 := rfcheck_bad l m (w := w) hs ht rfl rfl (.inl h1)
    have e : chkF l m = errOr (chkI l) (chkI m) := by
      unfold chkF errOr
      rw [if_pos h1, if_pos h1]
    rw [e]
    exact h5
end Go.Proofs.YthpknfoahimopaaGreatDoor

set_option linter.unusedVariables false
set_option linter.unusedSimpArgs false
set_option linter.unnecessarySimpa false
namespace Go.Proofs.YthpknfoahimopaaGreatDoor
open Go.RowKit

theorem Lim.dg {z : Int} (h : Lim z) : (dgs z.natAbs).length ≤ 1024 := Nat.le_trans (dgs_le_len z.natAbs) h
theorem Lim.mul2 {x y : Int} (hx : Lim x) (hy : Lim y) : (dgs (x * y).natAbs).length ≤ 2048 := by
  rw [Int.natAbs_mul]
  have h1 := dgs_mul x.natAbs y.natAbs
  have h2 := hx.dg
  have h3 := hy.dg
  omega
theorem Lim.mul {x y : Int} (hx : Lim x) (hy : Lim y) : Sm (x * y) := Nat.le_trans (hx.mul2 hy) (by omega)
theorem sm_sum {x y : Int} (hx : (dgs x.natAbs).length ≤ 2048) (hy : (dgs y.natAbs).length ≤ 2048) : Sm (x + y) := by
  have h1 := dgs_add hx hy
  have h2 := dgs_mono (Int.natAbs_add_le x y)
  show _ ≤ _
  omega
theorem Lim.mulAdd {x y u v : Int} (hx : Lim x) (hy : Lim y) (hu : Lim u) (hv : Lim v) : Sm (x * y + u * v) := sm_sum (hx.mul2 hy) (hu.mul2 hv)
theorem Lim.mulSub {x y u v : Int} (hx : Lim x) (hy : Lim y) (hu : Lim u) (hv : Lim v) : Sm (x * y - u * v) := by
  rw [Int.sub_eq_add_neg]
  exact sm_sum (hx.mul2 hy) (by rw [Int.natAbs_neg]; exact hu.mul2 hv)
theorem Sm.gcd {x y : Int} (hy : Sm y) (h0 : y ≠ 0) : Sm (x.gcd y : Int) := hy.le (by rw [Int.natAbs_natCast]; exact Nat.le_of_dvd (by omega) (Int.natAbs_dvd_natAbs.2 (Int.gcd_dvd_right x y)))
theorem size_sm {z : Int} (h : Sm z) : (strN (txtI z)).size ≤ 140737488355328 := by
  have h1 := txtI_len z
  have h2 := h.len
  show (txtI z).length ≤ _
  omega
theorem Good.chkL {p q : Int} (h : Good p q) : chkF (txtI p) (txtI q) = 0 := by
  have h5 := h.chk
  rw [strN_data, strN_data] at h5
  exact h5
set_option maxRecDepth 100000 in
set_option maxHeartbeats 4000000 in
theorem rlow_any {p q : Int} (hp : Sm p) (hq : Sm q) (h0 : q ≠ 0) (w : World) : Calls Tryz.prog 53 #[.string (strN (txtI p)), .string (strN (txtI q))] w fun e w' => e = .returned (fracV (lowF p q)) ∧ Below w.heap.size w w' := by
  have hg0 : 0 < p.gcd q := Int.gcd_pos_of_ne_zero_right p h0
  have hgs : Sm (p.gcd q : Int) := hq.gcd h0
  have HCO : Hid (∀ w', Calls Tryz.prog 66 #[.string (strN (txtI p)), .string (strN (txtI q))] w' fun e w2 => e = .returned (.string (strN (txtI (p.gcd q : Int)))) ∧ Below w'.heap.size w' w2) := fun w' => rcommon_any hp hq w'
  have HM : Hid (∀ w', Calls Tryz.prog 57 #[.string (strN (txtI q))] w' fun e w2 => e = .returned (.bool (decide (q < 0))) ∧ w' = w2) := fun w' => rminus_any q w'
  have HT : Hid (∀ w', Calls Tryz.prog 96 #[.string (strN (txtI (p.gcd q : Int)))] w' fun e w2 => e = .returned (.string (strN (txtI (-(p.gcd q : Int))))) ∧ Below w'.heap.size w' w2) := fun w' => rturned_any hgs w'
  have hG : Sm (lowG p q) := by unfold lowG; split; exact hgs.neg; exact hgs
  have hG0 : lowG p q ≠ 0 := by unfold lowG; split <;> omega
  have HD1 : Hid (∀ w', Calls Tryz.prog 64 #[.string (strN (txtI p)), .string (strN (txtI (lowG p q)))] w' fun e w2 => e = .returned (.string (strN (txtI (p.fdiv (lowG p q))))) ∧ Below w'.heap.size w' w2) := fun w' => rdown_any hp hG hG0 w'
  have HD2 : Hid (∀ w', Calls Tryz.prog 64 #[.string (strN (txtI q)), .string (strN (txtI (lowG p q)))] w' fun e w2 => e = .returned (.string (strN (txtI (q.fdiv (lowG p q))))) ∧ Below w'.heap.size w' w2) := fun w' => rdown_any hq hG hG0 w'
  have HLG : Hid (lowG p q = if q < 0 then -(p.gcd q : Int) else p.gcd q) := rfl
  unfold fracV lowF
  show Calls Tryz.prog 53 _ w fun e w' => e = .returned (.agg #[.string (strN (txtI (p.fdiv (lowG p q)))), .string (strN (txtI (q.fdiv (lowG p q))))]) ∧ _
  obtain ⟨sa, ha⟩ : ∃ sa, sa = strN (txtI (p.fdiv (lowG p q))) := ⟨_, rfl⟩
  obtain ⟨sb, hb⟩ : ∃ sb, sb = strN (txtI (q.fdiv (lowG p q))) := ⟨_, rfl⟩
  rw [← ha] at HD1 ⊢
  rw [← hb] at HD2 ⊢
  generalize lowG p q = G at *
  obtain ⟨sp, hsp⟩ : ∃ sp, sp = strN (txtI p) := ⟨_, rfl⟩
  obtain ⟨sq, hsq⟩ : ∃ sq, sq = strN (txtI q) := ⟨_, rfl⟩
  rw [← hsp] at HD1 HCO ⊢
  rw [← hsq] at HD2 HCO HM ⊢
  have HW : Hid (Below w.heap.size w (w.alloc (.cells #[.string ⟨#[]⟩, .string ⟨#[]⟩] 26))) := bnew (Below.refl _ _) _
  have HX := hide (Box.new w [.string ⟨#[]⟩, .string ⟨#[]⟩] 26)
  clear ha hb hsp hsq hp hq h0 hg0 hgs hG hG0
  by_cases hn : q < 0
  · have tn : decide (q < 0) = true := decide_eq_true hn
    have hge := HLG.out
    rw [if_pos hn] at hge
    rw [tn] at HM
    rw [← hge] at HT
    generalize strN (txtI (p.gcd q : Int)) = sg at *
    clear hge HLG hn
    go_enter Tryz.func53, Tryz.ntmps53
    go_wp2_with (first
      | (go_at_call 66; (with_reducible refine (HCO.out _).mono ?_); rintro ec w5 ⟨rfl, hb5⟩; have HB5 := hide (below_then HW.out hb5); have HX5 := hide (HX.out.below hb5); clear hb5)
      | (go_at_call 57; (with_reducible refine (HM.out _).mono ?_); rintro ec w6 ⟨rfl, rfl⟩)
      | (go_at_call 96; (with_reducible refine (HT.out _).mono ?_); rintro ec w6 ⟨rfl, hb6⟩; have HB6 := hide (below_then HB5.out hb6); have HX6 := hide (HX5.out.below hb6); clear hb6)
      | (go_at_call 64; (with_reducible refine (HD1.out _).mono ?_); rintro ec w7 ⟨rfl, hb7⟩; have HB7 := hide (below_then HB6.out hb7); have HX7 := hide (HX6.out.below hb7); clear hb7)
      | (go_at_call 64; (with_reducible refine (HD2.out _).mono ?_); rintro ec w8 ⟨rfl, hb8⟩; have HB8 := hide (below_then HB7.out hb8); have HX8 := hide (HX7.out.below hb8); obtain ⟨k0, k1, l0, l1⟩ := HX8.out.two; clear hb8))
    obtain ⟨j0, j1⟩ := HX8.out.full (a := .string sa) (b := .string sb)
    refine bodyPost_ret (v := .agg #[.string sa, .string sb]) (by simp [results, Tryz.results53, go_sem, j0, j1]) rfl ⟨rfl, ?_⟩
    exact ((HB8.out.setCell (Nat.le_refl _) _).setCell (Nat.le_refl _) _)
  · have tn : decide (q < 0) = false := decide_eq_false hn
    have hge := HLG.out
    rw [if_neg hn] at hge
    rw [tn] at HM
    rw [← hge] at HCO
    clear hge HLG hn HT
    go_enter Tryz.func53, Tryz.ntmps53
    go_wp2_with (first
      | (go_at_call 66; (with_reducible refine (HCO.out _).mono ?_); rintro ec w5 ⟨rfl, hb5⟩; have HB5 := hide (below_then HW.out hb5); have HX5 := hide (HX.out.below hb5); clear hb5)
      | (go_at_call 57; (with_reducible refine (HM.out _).mono ?_); rintro ec w6 ⟨rfl, rfl⟩)
      | (go_at_call 64; (with_reducible refine (HD1.out _).mono ?_); rintro ec w7 ⟨rfl, hb7⟩; have HB7 := hide (below_then HB5.out hb7); have HX7 := hide (HX5.out.below hb7); clear hb7)
      | (go_at_call 64; (with_reducible refine (HD2.out _).mono ?_); rintro ec w8 ⟨rfl, hb8⟩; have HB8 := hide (below_then HB7.out hb8); have HX8 := hide (HX7.out.below hb8); obtain ⟨k0, k1, l0, l1⟩ := HX8.out.two; clear hb8))
    obtain ⟨j0, j1⟩ := HX8.out.full (a := .string sa) (b := .string sb)
    refine bodyPost_ret (v := .agg #[.string sa, .string sb]) (by simp [results, Tryz.results53, go_sem, j0, j1]) rfl ⟨rfl, ?_⟩
    exact ((HB8.out.setCell (Nat.le_refl _) _).setCell (Nat.le_refl _) _)
theorem Box.keep2 {w : World} {B C : Nat} {u v a b : Value} {t : TypeId} (h : Box w B [u, v] t) (hne : B ≠ C) : ((w.setCell ⟨C, 0, none⟩ a).setCell ⟨C, 1, none⟩ b).cell? ⟨B, 0, none⟩ = some u ∧ ((w.setCell ⟨C, 0, none⟩ a).setCell ⟨C, 1, none⟩ b).cell? ⟨B, 1, none⟩ = some v := ⟨((h.other (p := ⟨C, 0, none⟩) hne a).other (p := ⟨C, 1, none⟩) hne b).cell 0, ((h.other (p := ⟨C, 0, none⟩) hne a).other (p := ⟨C, 1, none⟩) hne b).cell 1⟩
set_option maxRecDepth 100000 in
set_option maxHeartbeats 4000000 in
theorem rfturned_any {p q : Int} (hp : Sm p) (w : World) : Calls Tryz.prog 63 #[fracV (p, q)] w fun e w' => e = .returned (fracV (-p, q)) ∧ Below w.heap.size w w' := by
  have H1 : Hid (∀ w', Calls Tryz.prog 96 #[.string (strN (txtI p))] w' fun e w2 => e = .returned (.string (strN (txtI (-p)))) ∧ Below w'.heap.size w' w2) := fun w' => rturned_any hp w'
  unfold fracV
  show Calls Tryz.prog 63 #[.agg #[.string (strN (txtI p)), .string (strN (txtI q))]] w fun e w' => e = .returned (.agg #[.string (strN (txtI (-p))), .string (strN (txtI q))]) ∧ _
  generalize strN (txtI (-p)) = sn at *
  generalize strN (txtI p) = s at *
  generalize strN (txtI q) = t at *
  have HW := hide (W2.low w s t).drew
  have HA := hide (W2.a w s t).draw
  have HX := hide (W2.c w s t).draw
  clear hp
  go_enter Tryz.func63, Tryz.ntmps63
  go_upto_region 1 with fail
  have HC := hide HA.out.two
  go_region_held3 (fun w' => w'.cell? ⟨w.heap.size, 0, none⟩ = some (.string s) ∧ w'.cell? ⟨w.heap.size, 1, none⟩ = some (.string t)) (first | with_reducible exact ⟨HC.out.1, HC.out.2.1⟩ | with_reducible exact HQ.out) (first
    | (go_at_call 96; (with_reducible refine (H1.out _).mono ?_); rintro ec w5 ⟨rfl, hb5⟩; have HB5 := hide (below_then HW.out hb5); have HX5 := hide (HX.out.below hb5); have HA5 := hide (HA.out.below hb5); have HC := hide HA5.out.two; obtain ⟨k0, k1, l0, l1⟩ := HX5.out.two; have HQ := hide (HA5.out.keep2 (C := w.heap.size + 1) (a := .string sn) (b := .string t) (by omega)); clear hb5))
  go_wp2_with fail
  obtain ⟨j0, j1⟩ := HX5.out.full (a := .string sn) (b := .string t)
  refine bodyPost_ret (v := .agg #[.string sn, .string t]) (by simp [results, Tryz.results63, go_sem, j0, j1]) rfl ⟨rfl, ?_⟩
  exact ((HB5.out.setCell (by show w.heap.size ≤ w.heap.size + 1; omega) _).setCell (by show w.heap.size ≤ w.heap.size + 1; omega) _)
end Go.Proofs.YthpknfoahimopaaGreatDoor

set_option linter.unusedVariables false
set_option linter.unusedSimpArgs false
set_option linter.unnecessarySimpa false
namespace Go.Proofs.YthpknfoahimopaaGreatDoor
open Go.RowKit

theorem keep4 {w : World} {A B C : Nat} {a b c d u v : Value} (h : Box w A [a, b] 26) (h' : Box w B [c, d] 26) (h1 : A ≠ C) (h2 : B ≠ C) : ((w.setCell ⟨C, 0, none⟩ u).setCell ⟨C, 1, none⟩ v).cell? ⟨A, 0, none⟩ = some a ∧ ((w.setCell ⟨C, 0, none⟩ u).setCell ⟨C, 1, none⟩ v).cell? ⟨A, 1, none⟩ = some b ∧ ((w.setCell ⟨C, 0, none⟩ u).setCell ⟨C, 1, none⟩ v).cell? ⟨B, 0, none⟩ = some c ∧ ((w.setCell ⟨C, 0, none⟩ u).setCell ⟨C, 1, none⟩ v).cell? ⟨B, 1, none⟩ = some d :=
  fcells4 ((h.other (p := ⟨C, 0, none⟩) h1 u).other (p := ⟨C, 1, none⟩) h1 v) ((h'.other (p := ⟨C, 0, none⟩) h2 u).other (p := ⟨C, 1, none⟩) h2 v)

set_option maxRecDepth 100000 in
set_option maxHeartbeats 4000000 in
theorem rfplus_any {p q r s : Int} (hp : Lim p) (hq : Lim q) (hr : Lim r) (hs : Lim s) (h0 : q * s ≠ 0) (w : World) : Calls Tryz.prog 71 #[fracV (p, q), fracV (r, s)] w fun e w' => e = .returned (fracV (lowF (p * s + r * q) (q * s))) ∧ Below w.heap.size w w' := by
  have H1 : Hid (∀ w', Calls Tryz.prog 75 #[.string (strN (txtI (p))), .string (strN (txtI (s)))] w' fun e w2 => e = .returned (.string (strN (txtI (p * s)))) ∧ Below w'.heap.size w' w2) := fun w' => rtimes_any hp.sm hs.sm w'
  have H2 : Hid (∀ w', Calls Tryz.prog 75 #[.string (strN (txtI (r))), .string (strN (txtI (q)))] w' fun e w2 => e = .returned (.string (strN (txtI (r * q)))) ∧ Below w'.heap.size w' w2) := fun w' => rtimes_any hr.sm hq.sm w'
  have H3 : Hid (∀ w', Calls Tryz.prog 70 #[.string (strN (txtI (p * s))), .string (strN (txtI (r * q)))] w' fun e w2 => e = .returned (.string (strN (txtI (p * s + r * q)))) ∧ Below w'.heap.size w' w2) := fun w' => rplus_any (hp.mul hs) (hr.mul hq) w'
  have H4 : Hid (∀ w', Calls Tryz.prog 75 #[.string (strN (txtI (q))), .string (strN (txtI (s)))] w' fun e w2 => e = .returned (.string (strN (txtI (q * s)))) ∧ Below w'.heap.size w' w2) := fun w' => rtimes_any hq.sm hs.sm w'
  have HL : Hid (∀ w', Calls Tryz.prog 53 #[.string (strN (txtI (p * s + r * q))), .string (strN (txtI (q * s)))] w' fun e w2 => e = .returned (fracV (lowF (p * s + r * q) (q * s))) ∧ Below w'.heap.size w' w2) := fun w' => rlow_any (hp.mulAdd hs hr hq) (hq.mul hs) h0 w'
  unfold fracV at *
  show Calls Tryz.prog 71 #[.agg #[.string (strN (txtI p)), .string (strN (txtI q))], .agg #[.string (strN (txtI r)), .string (strN (txtI s))]] w _
  obtain ⟨sa, hsa⟩ : ∃ v, v = strN (txtI (lowF (p * s + r * q) (q * s)).1) := ⟨_, rfl⟩
  obtain ⟨sb, hsb⟩ : ∃ v, v = strN (txtI (lowF (p * s + r * q) (q * s)).2) := ⟨_, rfl⟩
  rw [← hsa, ← hsb] at HL ⊢
  obtain ⟨sp, hsp⟩ : ∃ v, v = strN (txtI p) := ⟨_, rfl⟩
  obtain ⟨sq, hsq⟩ : ∃ v, v = strN (txtI q) := ⟨_, rfl⟩
  obtain ⟨sr, hsr⟩ : ∃ v, v = strN (txtI r) := ⟨_, rfl⟩
  obtain ⟨ss, hss⟩ : ∃ v, v = strN (txtI s) := ⟨_, rfl⟩
  rw [← hsp, ← hsq, ← hsr, ← hss]
  obtain ⟨m0, hm0⟩ : ∃ v, v = strN (txtI (p * s)) := ⟨_, rfl⟩
  obtain ⟨m1, hm1⟩ : ∃ v, v = strN (txtI (r * q)) := ⟨_, rfl⟩
  obtain ⟨m2, hm2⟩ : ∃ v, v = strN (txtI (p * s + r * q)) := ⟨_, rfl⟩
  obtain ⟨m3, hm3⟩ : ∃ v, v = strN (txtI (q * s)) := ⟨_, rfl⟩
  rw [← hsp, ← hss, ← hm0] at H1
  rw [← hsr, ← hsq, ← hm1] at H2
  rw [← hm0, ← hm1, ← hm2] at H3
  rw [← hsq, ← hss, ← hm3] at H4
  rw [← hm2, ← hm3] at HL
  have HB := hide (W3.low w sp sq sr ss).drew
  have HA := hide (W3.a w sp sq sr ss).draw
  have HY := hide (W3.b w sp sq sr ss).draw
  have HX := hide (W3.c w sp sq sr ss).draw
  clear hp hq hr hs h0 hsa hsb hsp hsq hsr hss hm0 hm1 hm2 hm3
  go_enter Tryz.func71, Tryz.ntmps71
  go_upto_region 1 with fail
  have HC : Hid (_ ∧ _) := fcells4 HA.out HY.out
  go_region_held3 (fun w' => w'.cell? ⟨w.heap.size, 0, none⟩ = some (.string sp) ∧ w'.cell? ⟨w.heap.size, 1, none⟩ = some (.string sq) ∧ w'.cell? ⟨w.heap.size + 1, 0, none⟩ = some (.string sr) ∧ w'.cell? ⟨w.heap.size + 1, 1, none⟩ = some (.string ss)) (first | with_reducible exact HC.out | with_reducible exact HQ.out) (first
    | (go_at_call 75; (with_reducible refine (H1.out _).mono ?_); rintro ec wz ⟨rfl, hbz⟩; have HB := hide (below_then HB.out hbz); have HA := hide (HA.out.below hbz); have HY := hide (HY.out.below hbz); have HX := hide (HX.out.below hbz); have HC : Hid (_ ∧ _) := fcells4 HA.out HY.out; clear hbz)
    | (go_at_call 75; (with_reducible refine (H2.out _).mono ?_); rintro ec wz ⟨rfl, hbz⟩; have HB := hide (below_then HB.out hbz); have HA := hide (HA.out.below hbz); have HY := hide (HY.out.below hbz); have HX := hide (HX.out.below hbz); have HC : Hid (_ ∧ _) := fcells4 HA.out HY.out; clear hbz)
    | (go_at_call 70; (with_reducible refine (H3.out _).mono ?_); rintro ec wz ⟨rfl, hbz⟩; have HB := hide (below_then HB.out hbz); have HA := hide (HA.out.below hbz); have HY := hide (HY.out.below hbz); have HX := hide (HX.out.below hbz); have HC : Hid (_ ∧ _) := fcells4 HA.out HY.out; clear hbz)
    | (go_at_call 75; (with_reducible refine (H4.out _).mono ?_); rintro ec wz ⟨rfl, hbz⟩; have HB := hide (below_then HB.out hbz); have HA := hide (HA.out.below hbz); have HY := hide (HY.out.below hbz); have HX := hide (HX.out.below hbz); have HC : Hid (_ ∧ _) := fcells4 HA.out HY.out; clear hbz)
    | (go_at_call 53; (with_reducible refine (HL.out _).mono ?_); rintro ec wz ⟨rfl, hbz⟩; have HB := hide (below_then HB.out hbz); have HA := hide (HA.out.below hbz); have HY := hide (HY.out.below hbz); have HX := hide (HX.out.below hbz); have HC : Hid (_ ∧ _) := fcells4 HA.out HY.out; have HQ : Hid (_ ∧ _) := keep4 (C := w.heap.size + 1 + 1) (u := .string sa) (v := .string sb) HA.out HY.out (by omega) (by omega); obtain ⟨k0, k1, l0, l1⟩ := HX.out.two; clear hbz))
  go_wp2_with fail
  obtain ⟨j0, j1⟩ := HX.out.full (a := .string sa) (b := .string sb)
  refine bodyPost_ret (v := .agg #[.string sa, .string sb]) (by simp [results, Tryz.results71, go_sem, j0, j1]) rfl ⟨rfl, ?_⟩
  exact ((HB.out.setCell (by show w.heap.size ≤ w.heap.size + 1 + 1; omega) _).setCell (by show w.heap.size ≤ w.heap.size + 1 + 1; omega) _)
set_option maxRecDepth 100000 in
set_option maxHeartbeats 4000000 in
theorem rftimes_any {p q r s : Int} (hp : Lim p) (hq : Lim q) (hr : Lim r) (hs : Lim s) (h0 : q * s ≠ 0) (w : World) : Calls Tryz.prog 76 #[fracV (p, q), fracV (r, s)] w fun e w' => e = .returned (fracV (lowF (p * r) (q * s))) ∧ Below w.heap.size w w' := by
  have H1 : Hid (∀ w', Calls Tryz.prog 75 #[.string (strN (txtI (p))), .string (strN (txtI (r)))] w' fun e w2 => e = .returned (.string (strN (txtI (p * r)))) ∧ Below w'.heap.size w' w2) := fun w' => rtimes_any hp.sm hr.sm w'
  have H2 : Hid (∀ w', Calls Tryz.prog 75 #[.string (strN (txtI (q))), .string (strN (txtI (s)))] w' fun e w2 => e = .returned (.string (strN (txtI (q * s)))) ∧ Below w'.heap.size w' w2) := fun w' => rtimes_any hq.sm hs.sm w'
  have HL : Hid (∀ w', Calls Tryz.prog 53 #[.string (strN (txtI (p * r))), .string (strN (txtI (q * s)))] w' fun e w2 => e = .returned (fracV (lowF (p * r) (q * s))) ∧ Below w'.heap.size w' w2) := fun w' => rlow_any (hp.mul hr) (hq.mul hs) h0 w'
  unfold fracV at *
  show Calls Tryz.prog 76 #[.agg #[.string (strN (txtI p)), .string (strN (txtI q))], .agg #[.string (strN (txtI r)), .string (strN (txtI s))]] w _
  obtain ⟨sa, hsa⟩ : ∃ v, v = strN (txtI (lowF (p * r) (q * s)).1) := ⟨_, rfl⟩
  obtain ⟨sb, hsb⟩ : ∃ v, v = strN (txtI (lowF (p * r) (q * s)).2) := ⟨_, rfl⟩
  rw [← hsa, ← hsb] at HL ⊢
  obtain ⟨sp, hsp⟩ : ∃ v, v = strN (txtI p) := ⟨_, rfl⟩
  obtain ⟨sq, hsq⟩ : ∃ v, v = strN (txtI q) := ⟨_, rfl⟩
  obtain ⟨sr, hsr⟩ : ∃ v, v = strN (txtI r) := ⟨_, rfl⟩
  obtain ⟨ss, hss⟩ : ∃ v, v = strN (txtI s) := ⟨_, rfl⟩
  rw [← hsp, ← hsq, ← hsr, ← hss]
  obtain ⟨m0, hm0⟩ : ∃ v, v = strN (txtI (p * r)) := ⟨_, rfl⟩
  obtain ⟨m1, hm1⟩ : ∃ v, v = strN (txtI (q * s)) := ⟨_, rfl⟩
  rw [← hsp, ← hsr, ← hm0] at H1
  rw [← hsq, ← hss, ← hm1] at H2
  rw [← hm0, ← hm1] at HL
  have HB := hide (W3.low w sp sq sr ss).drew
  have HA := hide (W3.a w sp sq sr ss).draw
  have HY := hide (W3.b w sp sq sr ss).draw
  have HX := hide (W3.c w sp sq sr ss).draw
  clear hp hq hr hs h0 hsa hsb hsp hsq hsr hss hm0 hm1
  go_enter Tryz.func76, Tryz.ntmps76
  go_upto_region 1 with fail
  have HC : Hid (_ ∧ _) := fcells4 HA.out HY.out
  go_region_held3 (fun w' => w'.cell? ⟨w.heap.size, 0, none⟩ = some (.string sp) ∧ w'.cell? ⟨w.heap.size, 1, none⟩ = some (.string sq) ∧ w'.cell? ⟨w.heap.size + 1, 0, none⟩ = some (.string sr) ∧ w'.cell? ⟨w.heap.size + 1, 1, none⟩ = some (.string ss)) (first | with_reducible exact HC.out | with_reducible exact HQ.out) (first
    | (go_at_call 75; (with_reducible refine (H1.out _).mono ?_); rintro ec wz ⟨rfl, hbz⟩; have HB := hide (below_then HB.out hbz); have HA := hide (HA.out.below hbz); have HY := hide (HY.out.below hbz); have HX := hide (HX.out.below hbz); have HC : Hid (_ ∧ _) := fcells4 HA.out HY.out; clear hbz)
    | (go_at_call 75; (with_reducible refine (H2.out _).mono ?_); rintro ec wz ⟨rfl, hbz⟩; have HB := hide (below_then HB.out hbz); have HA := hide (HA.out.below hbz); have HY := hide (HY.out.below hbz); have HX := hide (HX.out.below hbz); have HC : Hid (_ ∧ _) := fcells4 HA.out HY.out; clear hbz)
    | (go_at_call 53; (with_reducible refine (HL.out _).mono ?_); rintro ec wz ⟨rfl, hbz⟩; have HB := hide (below_then HB.out hbz); have HA := hide (HA.out.below hbz); have HY := hide (HY.out.below hbz); have HX := hide (HX.out.below hbz); have HC : Hid (_ ∧ _) := fcells4 HA.out HY.out; have HQ : Hid (_ ∧ _) := keep4 (C := w.heap.size + 1 + 1) (u := .string sa) (v := .string sb) HA.out HY.out (by omega) (by omega); obtain ⟨k0, k1, l0, l1⟩ := HX.out.two; clear hbz))
  go_wp2_with fail
  obtain ⟨j0, j1⟩ := HX.out.full (a := .string sa) (b := .string sb)
  refine bodyPost_ret (v := .agg #[.string sa, .string sb]) (by simp [results, Tryz.results76, go_sem, j0, j1]) rfl ⟨rfl, ?_⟩
  exact ((HB.out.setCell (by show w.heap.size ≤ w.heap.size + 1 + 1; omega) _).setCell (by show w.heap.size ≤ w.heap.size + 1 + 1; omega) _)
set_option maxRecDepth 100000 in
set_option maxHeartbeats 4000000 in
theorem rfby_any {p q r s : Int} (hp : Lim p) (hq : Lim q) (hr : Lim r) (hs : Lim s) (h0 : q * r ≠ 0) (w : World) : Calls Tryz.prog 79 #[fracV (p, q), fracV (r, s)] w fun e w' => e = .returned (fracV (lowF (p * s) (q * r))) ∧ Below w.heap.size w w' := by
  have H1 : Hid (∀ w', Calls Tryz.prog 75 #[.string (strN (txtI (p))), .string (strN (txtI (s)))] w' fun e w2 => e = .returned (.string (strN (txtI (p * s)))) ∧ Below w'.heap.size w' w2) := fun w' => rtimes_any hp.sm hs.sm w'
  have H2 : Hid (∀ w', Calls Tryz.prog 75 #[.string (strN (txtI (q))), .string (strN (txtI (r)))] w' fun e w2 => e = .returned (.string (strN (txtI (q * r)))) ∧ Below w'.heap.size w' w2) := fun w' => rtimes_any hq.sm hr.sm w'
  have HL : Hid (∀ w', Calls Tryz.prog 53 #[.string (strN (txtI (p * s))), .string (strN (txtI (q * r)))] w' fun e w2 => e = .returned (fracV (lowF (p * s) (q * r))) ∧ Below w'.heap.size w' w2) := fun w' => rlow_any (hp.mul hs) (hq.mul hr) h0 w'
  unfold fracV at *
  show Calls Tryz.prog 79 #[.agg #[.string (strN (txtI p)), .string (strN (txtI q))], .agg #[.string (strN (txtI r)), .string (strN (txtI s))]] w _
  obtain ⟨sa, hsa⟩ : ∃ v, v = strN (txtI (lowF (p * s) (q * r)).1) := ⟨_, rfl⟩
  obtain ⟨sb, hsb⟩ : ∃ v, v = strN (txtI (lowF (p * s) (q * r)).2) := ⟨_, rfl⟩
  rw [← hsa, ← hsb] at HL ⊢
  obtain ⟨sp, hsp⟩ : ∃ v, v = strN (txtI p) := ⟨_, rfl⟩
  obtain ⟨sq, hsq⟩ : ∃ v, v = strN (txtI q) := ⟨_, rfl⟩
  obtain ⟨sr, hsr⟩ : ∃ v, v = strN (txtI r) := ⟨_, rfl⟩
  obtain ⟨ss, hss⟩ : ∃ v, v = strN (txtI s) := ⟨_, rfl⟩
  rw [← hsp, ← hsq, ← hsr, ← hss]
  obtain ⟨m0, hm0⟩ : ∃ v, v = strN (txtI (p * s)) := ⟨_, rfl⟩
  obtain ⟨m1, hm1⟩ : ∃ v, v = strN (txtI (q * r)) := ⟨_, rfl⟩
  rw [← hsp, ← hss, ← hm0] at H1
  rw [← hsq, ← hsr, ← hm1] at H2
  rw [← hm0, ← hm1] at HL
  have HB := hide (W3.low w sp sq sr ss).drew
  have HA := hide (W3.a w sp sq sr ss).draw
  have HY := hide (W3.b w sp sq sr ss).draw
  have HX := hide (W3.c w sp sq sr ss).draw
  clear hp hq hr hs h0 hsa hsb hsp hsq hsr hss hm0 hm1
  go_enter Tryz.func79, Tryz.ntmps79
  go_upto_region 1 with fail
  have HC : Hid (_ ∧ _) := fcells4 HA.out HY.out
  go_region_held3 (fun w' => w'.cell? ⟨w.heap.size, 0, none⟩ = some (.string sp) ∧ w'.cell? ⟨w.heap.size, 1, none⟩ = some (.string sq) ∧ w'.cell? ⟨w.heap.size + 1, 0, none⟩ = some (.string sr) ∧ w'.cell? ⟨w.heap.size + 1, 1, none⟩ = some (.string ss)) (first | with_reducible exact HC.out | with_reducible exact HQ.out) (first
    | (go_at_call 75; (with_reducible refine (H1.out _).mono ?_); rintro ec wz ⟨rfl, hbz⟩; have HB := hide (below_then HB.out hbz); have HA := hide (HA.out.below hbz); have HY := hide (HY.out.below hbz); have HX := hide (HX.out.below hbz); have HC : Hid (_ ∧ _) := fcells4 HA.out HY.out; clear hbz)
    | (go_at_call 75; (with_reducible refine (H2.out _).mono ?_); rintro ec wz ⟨rfl, hbz⟩; have HB := hide (below_then HB.out hbz); have HA := hide (HA.out.below hbz); have HY := hide (HY.out.below hbz); have HX := hide (HX.out.below hbz); have HC : Hid (_ ∧ _) := fcells4 HA.out HY.out; clear hbz)
    | (go_at_call 53; (with_reducible refine (HL.out _).mono ?_); rintro ec wz ⟨rfl, hbz⟩; have HB := hide (below_then HB.out hbz); have HA := hide (HA.out.below hbz); have HY := hide (HY.out.below hbz); have HX := hide (HX.out.below hbz); have HC : Hid (_ ∧ _) := fcells4 HA.out HY.out; have HQ : Hid (_ ∧ _) := keep4 (C := w.heap.size + 1 + 1) (u := .string sa) (v := .string sb) HA.out HY.out (by omega) (by omega); obtain ⟨k0, k1, l0, l1⟩ := HX.out.two; clear hbz))
  go_wp2_with fail
  obtain ⟨j0, j1⟩ := HX.out.full (a := .string sa) (b := .string sb)
  refine bodyPost_ret (v := .agg #[.string sa, .string sb]) (by simp [results, Tryz.results79, go_sem, j0, j1]) rfl ⟨rfl, ?_⟩
  exact ((HB.out.setCell (by show w.heap.size ≤ w.heap.size + 1 + 1; omega) _).setCell (by show w.heap.size ≤ w.heap.size + 1 + 1; omega) _)
set_option maxRecDepth 100000 in
set_option maxHeartbeats 4000000 in
theorem rfless_any {p q r s : Int} (hp : Lim p) (hq : Lim q) (hr : Lim r) (hs : Lim s) (h0 : q * s ≠ 0) (w : World) : Calls Tryz.prog 74 #[fracV (p, q), fracV (r, s)] w fun e w' => e = .returned (fracV (lowF (p * s - r * q) (q * s))) ∧ Below w.heap.size w w' := by
  have H1 : Hid (∀ w', Calls Tryz.prog 63 #[fracV (r, s)] w' fun e w2 => e = .returned (fracV (-r, s)) ∧ Below w'.heap.size w' w2) := fun w' => rfturned_any hr.sm w'
  have H2 : Hid (∀ w', Calls Tryz.prog 71 #[fracV (p, q), fracV (-r, s)] w' fun e w2 => e = .returned (fracV (lowF (p * s - r * q) (q * s))) ∧ Below w'.heap.size w' w2) := fun w' => by
    have h5 := rfplus_any hp hq (lim_neg hr) hs h0 w'
    rw [Int.neg_mul, ← Int.sub_eq_add_neg] at h5
    exact h5
  unfold fracV at *
  show Calls Tryz.prog 74 #[.agg #[.string (strN (txtI p)), .string (strN (txtI q))], .agg #[.string (strN (txtI r)), .string (strN (txtI s))]] w _
  obtain ⟨sa, hsa⟩ : ∃ v, v = strN (txtI (lowF (p * s - r * q) (q * s)).1) := ⟨_, rfl⟩
  obtain ⟨sb, hsb⟩ : ∃ v, v = strN (txtI (lowF (p * s - r * q) (q * s)).2) := ⟨_, rfl⟩
  rw [← hsa, ← hsb] at H2 ⊢
  simp only at H1 H2
  obtain ⟨sp, hsp⟩ : ∃ v, v = strN (txtI p) := ⟨_, rfl⟩
  obtain ⟨sq, hsq⟩ : ∃ v, v = strN (txtI q) := ⟨_, rfl⟩
  obtain ⟨sr, hsr⟩ : ∃ v, v = strN (txtI r) := ⟨_, rfl⟩
  obtain ⟨ss, hss⟩ : ∃ v, v = strN (txtI s) := ⟨_, rfl⟩
  obtain ⟨sn, hsn⟩ : ∃ v, v = strN (txtI (-r)) := ⟨_, rfl⟩
  rw [← hsr, ← hss, ← hsn] at H1
  rw [← hsp, ← hsq, ← hsn, ← hss] at H2
  rw [← hsp, ← hsq, ← hsr, ← hss]
  have HB := hide (W3.low w sp sq sr ss).drew
  have HA := hide (W3.a w sp sq sr ss).draw
  have HY := hide (W3.b w sp sq sr ss).draw
  have HX := hide (W3.c w sp sq sr ss).draw
  clear hp hq hr hs h0 hsa hsb hsp hsq hsr hss hsn
  go_enter Tryz.func74, Tryz.ntmps74
  go_upto_region 1 with fail
  have HC : Hid (_ ∧ _) := fcells4 HA.out HY.out
  go_region_held3 (fun w' => w'.cell? ⟨w.heap.size, 0, none⟩ = some (.string sp) ∧ w'.cell? ⟨w.heap.size, 1, none⟩ = some (.string sq) ∧ w'.cell? ⟨w.heap.size + 1, 0, none⟩ = some (.string sr) ∧ w'.cell? ⟨w.heap.size + 1, 1, none⟩ = some (.string ss)) (first | with_reducible exact HC.out | with_reducible exact HQ.out) (first
    | (go_at_call 63; (with_reducible refine (H1.out _).mono ?_); rintro ec wz ⟨rfl, hbz⟩; have HB := hide (below_then HB.out hbz); have HA := hide (HA.out.below hbz); have HY := hide (HY.out.below hbz); have HX := hide (HX.out.below hbz); have HC : Hid (_ ∧ _) := fcells4 HA.out HY.out; clear hbz)
    | (go_at_call 71; (with_reducible refine (H2.out _).mono ?_); rintro ec wz ⟨rfl, hbz⟩; have HB := hide (below_then HB.out hbz); have HA := hide (HA.out.below hbz); have HY := hide (HY.out.below hbz); have HX := hide (HX.out.below hbz); have HC : Hid (_ ∧ _) := fcells4 HA.out HY.out; have HQ : Hid (_ ∧ _) := keep4 (C := w.heap.size + 1 + 1) (u := .string sa) (v := .string sb) HA.out HY.out (by omega) (by omega); obtain ⟨k0, k1, l0, l1⟩ := HX.out.two; clear hbz))
  go_wp2_with fail
  obtain ⟨j0, j1⟩ := HX.out.full (a := .string sa) (b := .string sb)
  refine bodyPost_ret (v := .agg #[.string sa, .string sb]) (by simp [results, Tryz.results74, go_sem, j0, j1]) rfl ⟨rfl, ?_⟩
  exact ((HB.out.setCell (by show w.heap.size ≤ w.heap.size + 1 + 1; omega) _).setCell (by show w.heap.size ≤ w.heap.size + 1 + 1; omega) _)
set_option maxRecDepth 100000 in
set_option maxHeartbeats 4000000 in
theorem rforder_any {p q r s : Int} (hp : Lim p) (hq : Lim q) (hr : Lim r) (hs : Lim s) (w : World) : Calls Tryz.prog 81 #[fracV (p, q), fracV (r, s)] w fun e w' => e = .returned (.int .i64 (sgI (p * s - r * q))) ∧ Below w.heap.size w w' := by
  have H1 : Hid (∀ w', Calls Tryz.prog 75 #[.string (strN (txtI (p))), .string (strN (txtI (s)))] w' fun e w2 => e = .returned (.string (strN (txtI (p * s)))) ∧ Below w'.heap.size w' w2) := fun w' => rtimes_any hp.sm hs.sm w'
  have H2 : Hid (∀ w', Calls Tryz.prog 75 #[.string (strN (txtI (r))), .string (strN (txtI (q)))] w' fun e w2 => e = .returned (.string (strN (txtI (r * q)))) ∧ Below w'.heap.size w' w2) := fun w' => rtimes_any hr.sm hq.sm w'
  have H3 : Hid (∀ w', Calls Tryz.prog 55 #[.string (strN (txtI (p * s))), .string (strN (txtI (r * q)))] w' fun e w2 => e = .returned (.int .i64 (sgI (p * s - r * q))) ∧ Below w'.heap.size w' w2) := fun w' => ror_any (hp.mul hs) (hr.mul hq) w'
  unfold fracV at *
  show Calls Tryz.prog 81 #[.agg #[.string (strN (txtI p)), .string (strN (txtI q))], .agg #[.string (strN (txtI r)), .string (strN (txtI s))]] w _
  generalize sgI (p * s - r * q) = g at *
  generalize strN (txtI (p * s)) = m0 at *
  generalize strN (txtI (r * q)) = m1 at *
  obtain ⟨sp, hsp⟩ : ∃ v, v = strN (txtI p) := ⟨_, rfl⟩
  obtain ⟨sq, hsq⟩ : ∃ v, v = strN (txtI q) := ⟨_, rfl⟩
  obtain ⟨sr, hsr⟩ : ∃ v, v = strN (txtI r) := ⟨_, rfl⟩
  obtain ⟨ss, hss⟩ : ∃ v, v = strN (txtI s) := ⟨_, rfl⟩
  rw [← hsp, ← hss] at H1
  rw [← hsr, ← hsq] at H2
  rw [← hsp, ← hsq, ← hsr, ← hss]
  have HB := hide (W2b.low w sp sq sr ss).drew
  have HA := hide (W2b.a w sp sq sr ss).draw
  have HY := hide (W2b.b w sp sq sr ss).draw
  clear hp hq hr hs hsp hsq hsr hss
  go_enter Tryz.func81, Tryz.ntmps81
  go_upto_region 1 with fail
  have HC : Hid (_ ∧ _) := fcells4 HA.out HY.out
  go_region_held3 (fun w' => w'.cell? ⟨w.heap.size, 0, none⟩ = some (.string sp) ∧ w'.cell? ⟨w.heap.size, 1, none⟩ = some (.string sq) ∧ w'.cell? ⟨w.heap.size + 1, 0, none⟩ = some (.string sr) ∧ w'.cell? ⟨w.heap.size + 1, 1, none⟩ = some (.string ss)) (first | with_reducible exact HC.out) (first
    | (go_at_call 75; (with_reducible refine (H1.out _).mono ?_); rintro ec wz ⟨rfl, hbz⟩; have HB := hide (below_then HB.out hbz); have HA := hide (HA.out.below hbz); have HY := hide (HY.out.below hbz); have HC : Hid (_ ∧ _) := fcells4 HA.out HY.out; clear hbz)
    | (go_at_call 75; (with_reducible refine (H2.out _).mono ?_); rintro ec wz ⟨rfl, hbz⟩; have HB := hide (below_then HB.out hbz); have HA := hide (HA.out.below hbz); have HY := hide (HY.out.below hbz); have HC : Hid (_ ∧ _) := fcells4 HA.out HY.out; clear hbz)
    | (go_at_call 55; (with_reducible refine (H3.out _).mono ?_); rintro ec wz ⟨rfl, hbz⟩; have HB := hide (below_then HB.out hbz); have HA := hide (HA.out.below hbz); have HY := hide (HY.out.below hbz); have HC : Hid (_ ∧ _) := fcells4 HA.out HY.out; clear hbz))
  go_wp2_with fail
  go_ret
  exact ⟨rfl, HB.out⟩
set_option maxRecDepth 100000 in
set_option maxHeartbeats 4000000 in
theorem rcrossed_any {p q r s : Int} (hp : Lim p) (hq : Lim q) (hr : Lim r) (hs : Lim s) (w : World) : Calls Tryz.prog 68 #[fracV (p, q), fracV (r, s)] w fun e w' => ∃ g, e = .returned (.slice (some ⟨g, 0, none⟩) 3 3) ∧ Box w' g [.string (strN (txtI (p * s))), .string (strN (txtI (r * q))), .string (strN (txtI (q * s)))] 22 ∧ Below w.heap.size w w' := by
  have H1 : Hid (∀ w', Calls Tryz.prog 75 #[.string (strN (txtI (p))), .string (strN (txtI (s)))] w' fun e w2 => e = .returned (.string (strN (txtI (p * s)))) ∧ Below w'.heap.size w' w2) := fun w' => rtimes_any hp.sm hs.sm w'
  have H2 : Hid (∀ w', Calls Tryz.prog 75 #[.string (strN (txtI (r))), .string (strN (txtI (q)))] w' fun e w2 => e = .returned (.string (strN (txtI (r * q)))) ∧ Below w'.heap.size w' w2) := fun w' => rtimes_any hr.sm hq.sm w'
  have H4 : Hid (∀ w', Calls Tryz.prog 75 #[.string (strN (txtI (q))), .string (strN (txtI (s)))] w' fun e w2 => e = .returned (.string (strN (txtI (q * s)))) ∧ Below w'.heap.size w' w2) := fun w' => rtimes_any hq.sm hs.sm w'
  unfold fracV at *
  show Calls Tryz.prog 68 #[.agg #[.string (strN (txtI p)), .string (strN (txtI q))], .agg #[.string (strN (txtI r)), .string (strN (txtI s))]] w _
  generalize strN (txtI (p * s)) = m0 at *
  generalize strN (txtI (r * q)) = m1 at *
  generalize strN (txtI (q * s)) = m2 at *
  obtain ⟨sp, hsp⟩ : ∃ v, v = strN (txtI p) := ⟨_, rfl⟩
  obtain ⟨sq, hsq⟩ : ∃ v, v = strN (txtI q) := ⟨_, rfl⟩
  obtain ⟨sr, hsr⟩ : ∃ v, v = strN (txtI r) := ⟨_, rfl⟩
  obtain ⟨ss, hss⟩ : ∃ v, v = strN (txtI s) := ⟨_, rfl⟩
  rw [← hsp, ← hss] at H1
  rw [← hsr, ← hsq] at H2
  rw [← hsq, ← hss] at H4
  rw [← hsp, ← hsq, ← hsr, ← hss]
  have HB := hide (W2b.low w sp sq sr ss).drew
  have HA := hide (W2b.a w sp sq sr ss).draw
  have HY := hide (W2b.b w sp sq sr ss).draw
  clear hp hq hr hs hsp hsq hsr hss
  go_enter Tryz.func68, Tryz.ntmps68
  go_upto_region 1 with fail
  have HC : Hid (_ ∧ _) := fcells4 HA.out HY.out
  go_region_held3 (fun w' => w'.cell? ⟨w.heap.size, 0, none⟩ = some (.string sp) ∧ w'.cell? ⟨w.heap.size, 1, none⟩ = some (.string sq) ∧ w'.cell? ⟨w.heap.size + 1, 0, none⟩ = some (.string sr) ∧ w'.cell? ⟨w.heap.size + 1, 1, none⟩ = some (.string ss)) (first | with_reducible exact HC.out | with_reducible exact HQ.out) (first
    | (go_at_call 75; (with_reducible refine (H1.out _).mono ?_); rintro ec wz ⟨rfl, hbz⟩; have HB := hide (below_then HB.out hbz); have HA := hide (HA.out.below hbz); have HY := hide (HY.out.below hbz); have HC : Hid (_ ∧ _) := fcells4 HA.out HY.out; clear hbz)
    | (go_at_call 75; (with_reducible refine (H2.out _).mono ?_); rintro ec wz ⟨rfl, hbz⟩; have HB := hide (below_then HB.out hbz); have HA := hide (HA.out.below hbz); have HY := hide (HY.out.below hbz); have HC : Hid (_ ∧ _) := fcells4 HA.out HY.out; clear hbz)
    | (go_at_call 75; (with_reducible refine (H4.out _).mono ?_); rintro ec wz ⟨rfl, hbz⟩; have HB := hide (below_then HB.out hbz); have HA := hide (HA.out.below hbz); have HY := hide (HY.out.below hbz); have HC : Hid (_ ∧ _) := fcells4 HA.out HY.out; have HQ : Hid (_ ∧ _) := fcells4 (HA.out.next (.cells #[.string m0, .string m1, .string m2] 22)) (HY.out.next (.cells #[.string m0, .string m1, .string m2] 22)); clear hbz))
  go_wp2_with fail
  go_ret
  exact ⟨_, rfl, Box.new _ _ _, HB.out.alloc HB.out.size _⟩
end Go.Proofs.YthpknfoahimopaaGreatDoor

set_option linter.unusedVariables false
set_option linter.unusedSimpArgs false
set_option linter.unnecessarySimpa false
namespace Go.Proofs.YthpknfoahimopaaGreatDoor
open Go.RowKit

theorem tmod_nat {z : Int} (h : 0 ≤ z) : z.tmod 10 = ((z.natAbs % 10 : Nat) : Int) := by rw [Int.tmod_eq_emod_of_nonneg h]; omega
theorem tdiv_nat {z : Int} (h : 0 ≤ z) : z.tdiv 10 = ((z.natAbs / 10 : Nat) : Int) := by rw [Int.tdiv_eq_ediv_of_nonneg h]; omega
theorem tmod_neg {z : Int} (h : z < 0) : z.tmod 10 = -((z.natAbs % 10 : Nat) : Int) := by
  have h1 : z = -((z.natAbs : Nat) : Int) := by omega
  generalize z.natAbs = m at *
  rw [h1, Int.neg_tmod, Int.tmod_eq_emod_of_nonneg (by omega)]
  rfl
theorem tdiv_neg {z : Int} (h : z < 0) : z.tdiv 10 = -((z.natAbs / 10 : Nat) : Int) := by
  have h1 : z = -((z.natAbs : Nat) : Int) := by omega
  generalize z.natAbs = m at *
  rw [h1, Int.neg_tdiv, Int.tdiv_eq_ediv_of_nonneg (by omega)]
  rfl
theorem dgs_i64 {n : Int} (h : I64 n) : (dgs n.natAbs).length ≤ 20 := by
  obtain ⟨h1, h2⟩ := h
  exact dgs_lt (by omega)
theorem dgs_step {n : Nat} (h : n ≠ 0) : dgs n = n % 10 :: dgs (n / 10) := digB_step BD2 (by omega)

set_option maxRecDepth 100000 in
set_option maxHeartbeats 4000000 in
theorem rof_neg {n : Int} (hn : I64 n) (h0 : n < 0) (w : World) : Calls Tryz.prog 114 #[.int .i64 n] w fun e w' => e = .returned (.string (strN (txtI n))) ∧ Below w.heap.size w w' := by
  have HL : Hid ((dgs n.natAbs).length ≤ 20) := dgs_i64 hn
  have HL2 : Hid ((dgs n.natAbs).length ≤ 200000) := by have := HL.out; show _ ≤ _; omega
  have HSG : Hid (strN (txtI n) = strN (txtI (sgZ true n.natAbs))) := by
    show _ = _
    have h5 : sgZ true n.natAbs = n := by unfold sgZ; simp; omega
    rw [h5]
  have HNE : Hid (dgs n.natAbs ≠ []) := fun h => by have := dgs_nil h; omega
  have HSM : Hid (n.natAbs ≤ 9223372036854775808 ∧ I64 n) := ⟨by obtain ⟨h1, h2⟩ := hn; omega, hn⟩
  have tn : decide (n < 0) = true := by simpa using h0
  have HN0 : Hid (n < 0) := h0
  clear h0 hn
  go_enter Tryz.func114, Tryz.ntmps114
  go_upto_region 5 with fail
  go_loopg [0, 4] n.natAbs (fun gm nv lv wx => ∃ (z : Int) (o : List Nat), gm = z.natAbs ∧ z.natAbs ≤ n.natAbs ∧ nv = .int .i64 z ∧ Hid (dgs n.natAbs = o ++ dgs z.natAbs) ∧ Hid (z ≤ 0) ∧ Hid (OwnS dgtR 1 w.heap.size 3 Non wx lv o) ∧ Hid (Below w.heap.size w wx))
  case atStart => exact ⟨n, [], rfl, Nat.le_refl _, rfl, rfl, Int.le_of_lt HN0.out, OwnS.nil _ _ _ _ _ _, Below.refl _ _⟩
  case round =>
    obtain ⟨z, o, hgm, hz, rfl, HO, HS, HW, HB⟩ := hrel
    have HGM := hide hgm
    clear hgm
    have hol : o.length ≤ 20 := by
      have h1 := congrArg List.length HO.out
      have h2 := HL.out
      rw [List.length_append] at h1
      omega
    by_cases hz0 : z = 0
    · subst hz0
      have HOE : Hid (o = dgs n.natAbs) := by have h5 := HO.out; rw [show (0 : Int).natAbs = 0 from rfl, dgs_zero, List.append_nil] at h5; exact h5.symm
      obtain ⟨oo, co, rfl, hco, hcm, hso⟩ := own_digits HW.out
      have HDV : Hid (DigV wr (.slice oo o.length co) n.natAbs) := by rw [HOE.out] at hso hco ⊢; exact ⟨oo, co, rfl, hco, hcm, hso⟩
      have q0 : ((o.length : Int) == 0) = false := by
        have h5 := HNE.out
        rw [← HOE.out] at h5
        have h6 : o.length ≠ 0 := fun e => h5 (List.eq_nil_of_length_eq_zero e)
        simp; exact h5
      clear hso hco hcm
      go_wp2_with (go_at_call 102; (with_reducible refine (rtext_any HDV.out HL2.out true).mono ?_); rintro ec w9 ⟨rfl, hb9⟩; have HB9 := hide (below_then HB.out hb9); clear hb9)
      go_ret
      exact ⟨by rw [HSG.out]; rfl, HB9.out⟩
    · have hq0 : (z != 0) = true := by simpa using hz0
      have hs := HS.out
      have hsm := HSM.out.1
      obtain ⟨x, hx⟩ : ∃ x, x = z.natAbs % 10 := ⟨_, rfl⟩
      have tm := tmod_neg (show z < 0 by omega)
      have td := tdiv_neg (show z < 0 by omega)
      rw [← hx] at tm
      have hx10 : x < 10 := by omega
      have HO2 : Hid (dgs n.natAbs = (o ++ [x]) ++ dgs (z.natAbs / 10)) := by
        show _ = _
        rw [HO.out, dgs_step (show z.natAbs ≠ 0 by omega), List.append_assoc, ← hx]
        rfl
      obtain ⟨y, hy⟩ : ∃ y, y = z.natAbs / 10 := ⟨_, rfl⟩
      rw [← hy] at td HO2
      have hyz : y < z.natAbs := by omega
      have hwr : IntKind.i64.wrap (-(y : Int)) = -(y : Int) := IntWalk.i64_in _ (by omega)
      have HO3 : Hid (dgs n.natAbs = (o ++ [x]) ++ dgs (-(y : Int)).natAbs) := by
        have h5 := HO2.out
        rw [show y = (-(y : Int)).natAbs by omega] at h5
        exact h5
      have HS2 : Hid (-(y : Int) ≤ 0) := by show _ ≤ _; omega
      clear hs hsm hx hy
      by_cases hx0 : x = 0
      · have tl : decide ((x : Int) < 0) = false := by simp
        have tm2 : z.tmod 10 = (x : Int) := by omega
        clear tm hx0
        go_wp2_with (at_builtin; go_loud (refine wpList_append_rep rfl (.tmp 16) (.tmp 18) 82 rfl w.heap.size 3 _ 1 8 Tryz.underlying82 iInfo rfl (by decide) dgtR_ok Non All u4 o (by simp [Act.eval, Act.put]) (HW.out.new dgtR_ok _) (some ⟨wr.heap.size, 0, none⟩) 1 [x] (by simp [Act.eval, Act.put]) (dgtl wr 3 _ x rfl (by omega)) (fun _ _ h => h) (fun _ h => h.elim) (by simp; omega) (by simp; omega) (by have := HB.out.size; simp; omega) ?_); intro v' w2 ho2 hb2 hg2; have HW2 := hide ho2; have HB2 := hide hb2; clear ho2 hb2 hg2)
        go_roundg y
        case rel => exact ⟨-(y : Int), o ++ [x], by omega, by omega, by go_num, HO3, HS2, HW2, (HB.out.alloc HB.out.size _).trans HB2.out⟩
        case measure => rw [HGM.out]; omega
      · have tl : decide (-(x : Int) < 0) = true := by simp; omega
        have tx : IntKind.i64.wrap (-(-(x : Int))) = (x : Int) := by rw [Int.neg_neg]; exact IntWalk.i64_in _ (by omega)
        go_wp2_with (at_builtin; go_loud (refine wpList_append_rep rfl (.tmp 16) (.tmp 18) 82 rfl w.heap.size 3 _ 1 8 Tryz.underlying82 iInfo rfl (by decide) dgtR_ok Non All u4 o (by simp [Act.eval, Act.put]) (HW.out.new dgtR_ok _) (some ⟨wr.heap.size, 0, none⟩) 1 [x] (by simp [Act.eval, Act.put]) (dgtl wr 3 _ x rfl (by omega)) (fun _ _ h => h) (fun _ h => h.elim) (by simp; omega) (by simp; omega) (by have := HB.out.size; simp; omega) ?_); intro v' w2 ho2 hb2 hg2; have HW2 := hide ho2; have HB2 := hide hb2; clear ho2 hb2 hg2)
        go_roundg y
        case rel => exact ⟨-(y : Int), o ++ [x], by omega, by omega, by go_num, HO3, HS2, HW2, (HB.out.alloc HB.out.size _).trans HB2.out⟩
        case measure => rw [HGM.out]; omega
set_option maxRecDepth 100000 in
set_option maxHeartbeats 4000000 in
theorem rof_pos {n : Int} (hn : I64 n) (h0 : 0 ≤ n) (w : World) : Calls Tryz.prog 114 #[.int .i64 n] w fun e w' => e = .returned (.string (strN (txtI n))) ∧ Below w.heap.size w w' := by
  have HL : Hid ((dgs n.natAbs).length ≤ 20) := dgs_i64 hn
  have HL2 : Hid ((dgs n.natAbs).length ≤ 200000) := by have := HL.out; show _ ≤ _; omega
  have HSG : Hid (strN (txtI n) = strN (txtI (sgZ false n.natAbs))) := by
    show _ = _
    have h5 : sgZ false n.natAbs = n := by unfold sgZ; simp; omega
    rw [h5]
  have HNE : Hid (True) := trivial
  have HSM : Hid (n.natAbs ≤ 9223372036854775808 ∧ I64 n) := ⟨by obtain ⟨h1, h2⟩ := hn; omega, hn⟩
  have tn : decide (n < 0) = false := by simpa using h0
  have HN0 : Hid (0 ≤ n) := h0
  clear h0 hn
  go_enter Tryz.func114, Tryz.ntmps114
  go_upto_region 5 with fail
  go_loopg [0, 4] n.natAbs (fun gm nv lv wx => ∃ (z : Int) (o : List Nat), gm = z.natAbs ∧ z.natAbs ≤ n.natAbs ∧ nv = .int .i64 z ∧ Hid (dgs n.natAbs = o ++ dgs z.natAbs) ∧ Hid (0 ≤ z) ∧ Hid (OwnS dgtR 1 w.heap.size 3 Non wx lv o) ∧ Hid (Below w.heap.size w wx))
  case atStart => exact ⟨n, [], rfl, Nat.le_refl _, rfl, rfl, HN0.out, OwnS.nil _ _ _ _ _ _, Below.refl _ _⟩
  case round =>
    obtain ⟨z, o, hgm, hz, rfl, HO, HS, HW, HB⟩ := hrel
    have HGM := hide hgm
    clear hgm
    have hol : o.length ≤ 20 := by
      have h1 := congrArg List.length HO.out
      have h2 := HL.out
      rw [List.length_append] at h1
      omega
    by_cases hz0 : z = 0
    · subst hz0
      have HOE : Hid (o = dgs n.natAbs) := by have h5 := HO.out; rw [show (0 : Int).natAbs = 0 from rfl, dgs_zero, List.append_nil] at h5; exact h5.symm
      obtain ⟨oo, co, rfl, hco, hcm, hso⟩ := own_digits HW.out
      have HDV : Hid (DigV wr (.slice oo o.length co) n.natAbs) := by rw [HOE.out] at hso hco ⊢; exact ⟨oo, co, rfl, hco, hcm, hso⟩
      clear hso hco hcm
      go_wp2_with (go_at_call 102; (with_reducible refine (rtext_any HDV.out HL2.out false).mono ?_); rintro ec w9 ⟨rfl, hb9⟩; have HB9 := hide (below_then HB.out hb9); clear hb9)
      go_ret
      exact ⟨by rw [HSG.out]; rfl, HB9.out⟩
    · have hq0 : (z != 0) = true := by simpa using hz0
      have hs := HS.out
      have hsm := HSM.out.1
      obtain ⟨x, hx⟩ : ∃ x, x = z.natAbs % 10 := ⟨_, rfl⟩
      have tm := tmod_nat hs
      have td := tdiv_nat hs
      rw [← hx] at tm
      have hx10 : x < 10 := by omega
      have HO2 : Hid (dgs n.natAbs = (o ++ [x]) ++ dgs (z.natAbs / 10)) := by
        show _ = _
        rw [HO.out, dgs_step (show z.natAbs ≠ 0 by omega), List.append_assoc, ← hx]
        rfl
      obtain ⟨y, hy⟩ : ∃ y, y = z.natAbs / 10 := ⟨_, rfl⟩
      rw [← hy] at td HO2
      have hyz : y < z.natAbs := by omega
      have hwr : IntKind.i64.wrap ((y : Int)) = (y : Int) := IntWalk.i64_in _ (by omega)
      have HO3 : Hid (dgs n.natAbs = (o ++ [x]) ++ dgs ((y : Int)).natAbs) := by
        have h5 := HO2.out
        rw [show y = ((y : Int)).natAbs by omega] at h5
        exact h5
      have HS2 : Hid (0 ≤ (y : Int)) := by show _ ≤ _; omega
      clear hs hsm hx hy
      have tl : decide ((x : Int) < 0) = false := by simp
      go_wp2_with (at_builtin; go_loud (refine wpList_append_rep rfl (.tmp 16) (.tmp 18) 82 rfl w.heap.size 3 _ 1 8 Tryz.underlying82 iInfo rfl (by decide) dgtR_ok Non All u4 o (by simp [Act.eval, Act.put]) (HW.out.new dgtR_ok _) (some ⟨wr.heap.size, 0, none⟩) 1 [x] (by simp [Act.eval, Act.put]) (dgtl wr 3 _ x rfl (by omega)) (fun _ _ h => h) (fun _ h => h.elim) (by simp; omega) (by simp; omega) (by have := HB.out.size; simp; omega) ?_); intro v' w2 ho2 hb2 hg2; have HW2 := hide ho2; have HB2 := hide hb2; clear ho2 hb2 hg2)
      go_roundg y
      case rel => exact ⟨(y : Int), o ++ [x], by omega, by omega, by go_num, HO3, HS2, HW2, (HB.out.alloc HB.out.size _).trans HB2.out⟩
      case measure => rw [HGM.out]; omega
theorem rof_any {n : Int} (hn : I64 n) (w : World) : Calls Tryz.prog 114 #[.int .i64 n] w fun e w' => e = .returned (.string (strN (txtI n))) ∧ Below w.heap.size w w' := by
  by_cases h : n < 0
  · exact rof_neg hn h w
  · exact rof_pos hn (by omega) w
end Go.Proofs.YthpknfoahimopaaGreatDoor

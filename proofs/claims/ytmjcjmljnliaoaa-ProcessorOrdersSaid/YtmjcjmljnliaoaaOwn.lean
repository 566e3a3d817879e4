/-
  Slices that a call itself makes: what they own, what an append does, how they read afterwards. No program is named here.
-/
import Derived.Test.YtmjcjmljnliaoaaBase
import Derived.OwnWalk
namespace Go.Proofs.Ytmjcjmljnliaoaa
open Go.RowKit

def Non : Foot := fun _ => False

section
variable {P : Program} (w : World)

theorem run_append_empty (base : Nat) (t ty e : TypeId) (i : TypeInfo) (size : Nat) (ht : P.underlying t = some (.slice e)) (hi : P.info? e = some i)
    (v : Value) (n : Nat) (xs : List Value) (hown : w.ownsRow base e size v n xs) (c : Nat) : (Builtin.append_ #[t, t] ty #[v, .slice none 0 c]).run P w = .ok v w := by
  rcases hown.2 with ⟨rfl, rfl⟩ | ⟨g, cap, cur, rfl, _, _, hnc, _⟩
  · simp [Builtin.append_, run_underlying ht, sizeOf, typeInfo, hi, Builtin.lenOf, Builtin.firstCells]
  · simp [Builtin.append_, run_underlying ht, sizeOf, typeInfo, hi, Builtin.lenOf, Builtin.firstCells, hnc, storeCells]

/-- append(v, x...), v the call's own, x whatever slice: nil, empty or not. -/
theorem run_append_src (base : Nat) (t ty e : TypeId) (i : TypeInfo) (z : Value) (size bytes : Nat) (ht : P.underlying t = some (.slice e)) (hi : P.info? e = some i) (hz : i.zero = some z)
    (hsize : i.size = size) (hby : i.bytes = bytes) (hzs : z.cells.size = size) (hsz : 0 < size)
    (v : Value) (n : Nat) (xs : List Value) (hown : w.ownsRow base e size v n xs)
    (oa : Option Addr) (m c : Nat) (news : List Value) (hl : news.length = m * size) (hc : ∀ j u, news[j]? = some u → ∃ b off, oa = some ⟨b, off, none⟩ ∧ w.cell? ⟨b, off + j, none⟩ = some u) (h1 : ∀ u ∈ news, u.oneCell' = true)
    (h63 : n + m ≤ maxLen) (hbytes : (n + m) * bytes ≤ 140737488355328) (hbase : base ≤ w.heap.size) :
    ∃ v' w', (Builtin.append_ #[t, t] ty #[v, .slice oa m c]).run P w = .ok v' w' ∧ w'.ownsRow base e size v' (n + m) (xs ++ news) ∧ w.grownBy w' v.ownBlock := by
  rcases oa with _ | ad
  · have hn : news = [] := by
      cases news with
      | nil => rfl
      | cons u r => obtain ⟨b, off, h, _⟩ := hc 0 u rfl; cases h
    subst hn
    have hm : m = 0 := by
      rcases Nat.eq_zero_or_pos m with h | h
      · exact h
      · have h2 := Nat.mul_pos h hsz
        simp at hl
        omega
    subst hm
    exact ⟨v, w, run_append_empty w base t ty e i size ht hi v n xs hown c, by simpa using hown, rfl, rfl, rfl, Nat.le_refl _, fun _ _ _ => rfl⟩
  · have hcells : ∀ j u, news[j]? = some u → w.cell? (ad.add j) = some u := by
      intro j u hu
      obtain ⟨b, off, h, hcc⟩ := hc j u hu
      injection h with h
      subst h
      rw [Addr.add_lit]
      exact hcc
    obtain ⟨v', w', h2, h3, h4, _⟩ := run_append_own (P := P) w base t ty e i z size bytes ht hi hz hsize hby hzs hsz v n xs hown ad m c news hl hcells h1 h63 hbytes hbase
    exact ⟨v', w', h2, h3, h4⟩

theorem wpList_append_src {ops : Array Oper} {rest : List Oper} {o : Oper} {a : Act} {Q : Exit → Act → World → Prop} (hgd : o.guard = none) (s x : Operand) (t : TypeId)
    (ho : o.op = .call { callee := .builtin .append, args := #[s, x], argTypes := #[t, t] })
    (base : Nat) (e : TypeId) (i : TypeInfo) (z : Value) (size bytes : Nat) (ht : P.underlying t = some (.slice e)) (hi : P.info? e = some i) (hz : i.zero = some z)
    (hsize : i.size = size) (hby : i.bytes = bytes) (hzs : z.cells.size = size) (hsz : 0 < size)
    (v : Value) (n : Nat) (xs : List Value) (hs : a.eval s = v) (hown : w.ownsRow base e size v n xs)
    (oa : Option Addr) (m c : Nat) (news : List Value) (hx : a.eval x = .slice oa m c) (hl : news.length = m * size) (hc : ∀ j u, news[j]? = some u → ∃ b off, oa = some ⟨b, off, none⟩ ∧ w.cell? ⟨b, off + j, none⟩ = some u) (h1 : ∀ u ∈ news, u.oneCell' = true)
    (h63 : n + m ≤ maxLen) (hbytes : (n + m) * bytes ≤ 140737488355328) (hbase : base ≤ w.heap.size)
    (h : ∀ v' w', w'.ownsRow base e size v' (n + m) (xs ++ news) → w.grownBy w' v.ownBlock → wpList P ops Q rest (a.put o.dst v') w') : wpList P ops Q (o :: rest) a w :=
  wpList_plain hgd fun _ hK => by
    obtain ⟨v', w', hrun, h2, h3⟩ := run_append_src (P := P) w base t o.type e i z size bytes ht hi hz hsize hby hzs hsz v n xs hown oa m c news hl hc h1 h63 hbytes hbase
    unfold Oper.wp execOp
    simp only [ho, resolve, invoke, builtin, Sem.run_bind, Sem.run_pure, Result.andThen_ok, List.map_toArray, List.map_cons, List.map_nil, hs, hx, hrun]
    exact hK _ _ (h v' w' h2 h3)
end

def chunk (sz i : Nat) (l : List Value) : List Value := (l.drop (i * sz)).take sz

theorem chunk_get {sz i j : Nat} {l : List Value} {u : Value} (h : (chunk sz i l)[j]? = some u) : j < sz ∧ l[i * sz + j]? = some u := by
  unfold chunk at h
  rw [List.getElem?_take] at h
  split at h
  · rw [List.getElem?_drop] at h
    exact ⟨by assumption, h⟩
  · cases h

/-- The cells of a slice, in a row, part by part. -/
theorem SliceR.cells {α : Type} {R : Rep α} {sz : Nat} {F : Foot} {w : World} {oa : Option Addr} (ok : RepOk R sz) :
    ∀ {xs : List α}, SliceR R sz F w oa xs → ∃ news, news.length = xs.length * sz ∧ (∀ j u, news[j]? = some u → ∃ b off, oa = some ⟨b, off, none⟩ ∧ w.cell? ⟨b, off + j, none⟩ = some u) ∧
      (∀ u ∈ news, u.oneCell' = true) ∧ ∀ i x, xs[i]? = some x → R F w (chunk sz i news) x := by
  intro xs h
  rcases Nat.eq_zero_or_pos xs.length with h0 | h0
  · have : xs = [] := List.eq_nil_of_length_eq_zero h0
    subst this
    exact ⟨[], by simp, by simp, by simp, by simp⟩
  obtain ⟨b, off, cs0, hoa, hF0, hR0, hc0⟩ := h 0 _ (List.getElem?_eq_getElem h0)
  subst hoa
  have key : ∀ i x, xs[i]? = some x → ∃ cs, R F w cs x ∧ ∀ j u, cs[j]? = some u → w.cell? ⟨b, off + i * sz + j, none⟩ = some u := by
    intro i x hx
    obtain ⟨b', off', cs, he, _, hR, hc⟩ := h i x hx
    simp only [Option.some.injEq, Addr.mk.injEq, and_true] at he
    obtain ⟨rfl, rfl⟩ := he
    exact ⟨cs, hR, hc⟩
  have cell : ∀ j, j < xs.length * sz → ∃ u, w.cell? ⟨b, off + j, none⟩ = some u ∧ u.oneCell' = true := by
    intro j hj
    have hsz : 0 < sz := by
      rcases Nat.eq_zero_or_pos sz with h | h
      · subst h; simp at hj
      · exact h
    have hi : j / sz < xs.length := (Nat.div_lt_iff_lt_mul hsz).2 hj
    obtain ⟨cs, hR, hc⟩ := key (j / sz) _ (List.getElem?_eq_getElem hi)
    have hm : j % sz < cs.length := by rw [ok.len hR]; exact Nat.mod_lt _ hsz
    have hcc := hc (j % sz) _ (List.getElem?_eq_getElem hm)
    have hj2 : off + j / sz * sz + j % sz = off + j := by
      have := Nat.div_add_mod' j sz
      omega
    rw [hj2] at hcc
    exact ⟨_, hcc, ok.one hR _ (List.getElem_mem hm)⟩
  let news := (List.range (xs.length * sz)).map fun j => (w.cell? ⟨b, off + j, none⟩).getD undef
  have get : ∀ j u, news[j]? = some u → j < xs.length * sz ∧ w.cell? ⟨b, off + j, none⟩ = some u := by
    intro j u hu
    simp only [news, List.getElem?_map, Option.map_eq_some_iff] at hu
    obtain ⟨k, hk, hu⟩ := hu
    have hk2 := List.getElem?_eq_some_iff.1 hk
    obtain ⟨hlt, hkk⟩ := hk2
    simp only [List.length_range] at hlt
    simp only [List.getElem_range] at hkk
    subst hkk
    obtain ⟨u', hu', _⟩ := cell j hlt
    rw [hu'] at hu
    simp only [Option.getD_some] at hu
    subst hu
    exact ⟨hlt, hu'⟩
  refine ⟨news, by simp [news], fun j u hu => ⟨b, off, rfl, (get j u hu).2⟩, ?_, ?_⟩
  · intro u hu
    obtain ⟨j, hj, rfl⟩ := List.getElem_of_mem hu
    obtain ⟨h1, h2⟩ := get j _ (List.getElem?_eq_getElem hj)
    obtain ⟨u', hu', ho⟩ := cell j h1
    rw [h2] at hu'
    injection hu' with hu'
    rw [hu']; exact ho
  · intro i x hx
    obtain ⟨cs, hR, hc⟩ := key i x hx
    have hi : i < xs.length := (List.getElem?_eq_some_iff.1 hx).1
    have hle : i * sz + sz ≤ xs.length * sz := by
      have := Nat.mul_le_mul_right sz (Nat.succ_le_of_lt hi)
      rw [Nat.succ_mul] at this
      exact this
    have : chunk sz i news = cs := by
      apply List.ext_getElem?
      intro j
      unfold chunk
      rw [List.getElem?_take]
      split
      · rename_i hj
        rw [List.getElem?_drop]
        have hjl : j < cs.length := by rw [ok.len hR]; exact hj
        have h1 := hc j _ (List.getElem?_eq_getElem hjl)
        have hn : i * sz + j < news.length := by simp only [news, List.length_map, List.length_range]; omega
        have h2 := (get _ _ (List.getElem?_eq_getElem hn)).2
        rw [Nat.add_assoc] at h1
        rw [h1] at h2
        rw [List.getElem?_eq_getElem hn, List.getElem?_eq_getElem hjl, h2]
      · rename_i hj
        rw [List.getElem?_eq_none (by rw [ok.len hR]; omega)]
    rw [this]
    exact hR

/-- The slice value v, which the call itself made (blocks from base on), holds xs. -/
def OwnS {α : Type} (R : Rep α) (sz base : Nat) (e : TypeId) (F : Foot) (w : World) (v : Value) (xs : List α) : Prop :=
  ∃ cells, w.ownsRow base e sz v xs.length cells ∧ (∀ u ∈ cells, u.oneCell' = true) ∧ ∀ i x, xs[i]? = some x → R F w (chunk sz i cells) x

section
variable {α : Type} {R : Rep α} {sz base : Nat} {e : TypeId} {F : Foot} {w w' : World} {v : Value} {xs : List α}

theorem OwnS.nil (R : Rep α) (sz base : Nat) (e : TypeId) (F : Foot) (w : World) : OwnS R sz base e F w (.slice none 0 0) [] :=
  ⟨[], World.ownsRow_nil w base e sz, by simp, by simp⟩

theorem chunk_app_left {cells news : List Value} {i n : Nat} (hl : cells.length = n * sz) (hi : i < n) : chunk sz i (cells ++ news) = chunk sz i cells := by
  have hle : i * sz + sz ≤ n * sz := by
    have := Nat.mul_le_mul_right sz (Nat.succ_le_of_lt hi)
    rw [Nat.succ_mul] at this
    exact this
  unfold chunk
  rw [List.drop_append_of_le_length (by omega), List.take_append_of_le_length (by rw [List.length_drop]; omega)]

theorem chunk_app_right {cells news : List Value} {i n : Nat} (hl : cells.length = n * sz) (hi : n ≤ i) : chunk sz i (cells ++ news) = chunk sz (i - n) news := by
  have hle := Nat.mul_le_mul_right sz hi
  unfold chunk
  rw [List.drop_append, List.drop_eq_nil_of_le (by omega), List.nil_append, hl, Nat.sub_mul]

/-- What an append of ys leaves. -/
theorem OwnS.app {cells news : List Value} {ys : List α} {v' : Value} (hx : xs.length * sz = cells.length) (ho : w'.ownsRow base e sz v' (xs.length + ys.length) (cells ++ news))
    (h1 : ∀ u ∈ cells, u.oneCell' = true) (h2 : ∀ u ∈ news, u.oneCell' = true)
    (hc : ∀ i x, xs[i]? = some x → R F w' (chunk sz i cells) x) (hn : ∀ i x, ys[i]? = some x → R F w' (chunk sz i news) x) : OwnS R sz base e F w' v' (xs ++ ys) := by
  refine ⟨cells ++ news, by rw [List.length_append]; exact ho, ?_, ?_⟩
  · intro u hu
    rcases List.mem_append.1 hu with h | h
    · exact h1 u h
    · exact h2 u h
  · intro i x hxx
    rcases Nat.lt_or_ge i xs.length with hi | hi
    · rw [List.getElem?_append_left hi] at hxx
      rw [chunk_app_left hx.symm hi]
      exact hc i x hxx
    · rw [List.getElem?_append_right hi] at hxx
      rw [chunk_app_right hx.symm hi]
      exact hn _ x hxx

theorem OwnS.block (h : OwnS R sz base e F w v xs) : ∀ g, v.ownBlock = some g → base ≤ g ∧ g < w.heap.size := by
  obtain ⟨cells, ho, _⟩ := h
  exact ho.lt

/-- What is owned stays owned while other blocks turn. -/
theorem OwnS.keep (ok : RepOk R sz) (h : OwnS R sz base e F w v xs) (hb : ∀ g, v.ownBlock = some g → w'.heap[g]? = w.heap[g]?) (hs : SameOn F w w') : OwnS R sz base e F w' v xs := by
  obtain ⟨cells, ho, h1, hc⟩ := h
  refine ⟨cells, ⟨ho.1, ?_⟩, h1, fun i x hx => ok.keep (hc i x hx) hs⟩
  rcases ho.2 with hn | ⟨g, cap, cur, rfl, hg, hh, rest⟩
  · exact .inl hn
  · exact .inr ⟨g, cap, cur, rfl, hg, by rw [hb g rfl]; exact hh, rest⟩
theorem OwnS.below (ok : RepOk R sz) (h : OwnS R sz base e F w v xs) (hb : Below w.heap.size w w') : OwnS R sz base e F w' v xs :=
  h.keep ok (fun g hg => hb.block g (h.block g hg).2) (SameOn.of_below hb)

theorem OwnS.rebase {base' : Nat} (h : OwnS R sz base e F w v xs) (hb : base' ≤ base) : OwnS R sz base' e F w v xs := by
  obtain ⟨cells, ho, h1, hc⟩ := h
  refine ⟨cells, ⟨ho.1, ?_⟩, h1, hc⟩
  rcases ho.2 with hn | ⟨g, cap, cur, rfl, hg, rest⟩
  · exact .inl hn
  · exact .inr ⟨g, cap, cur, rfl, by omega, rest⟩
theorem OwnS.new (ok : RepOk R sz) (h : OwnS R sz base e F w v xs) (o : Obj) : OwnS R sz base e F (w.alloc o) v xs := h.below ok (bnew (Below.refl _ _) o)
theorem OwnS.draw (ok : RepOk R sz) (h : OwnS R sz base e F w v xs) : OwnS R sz base e F w.drew v xs := h.keep ok (fun _ _ => rfl) fun _ _ _ => rfl
theorem OwnS.draws (ok : RepOk R sz) (h : OwnS R sz base e F w v xs) (n : Nat) : OwnS R sz base e F (w.drewN n) v xs := h.keep ok (fun _ _ => rfl) fun _ _ _ => rfl
/-- A box that was laid just before the append is as it was. -/
theorem OwnS.boxed {w1 : World} {cs : Array Value} {t : TypeId} (h : OwnS R sz base e F w v xs) (hg : (w.alloc (.cells cs t)).grownBy w1 v.ownBlock) (i : Nat) : w1.cell? ⟨w.heap.size, i, none⟩ = cs[i]? := by
  have hb : w1.heap[w.heap.size]? = (w.alloc (.cells cs t)).heap[w.heap.size]? := hg.block w.heap.size (by simp) fun he => by
    have := (h.block w.heap.size he.symm).2
    omega
  exact cell_of_row w1 w.heap.size i cs t (0, 0) (hb.trans (heap_alloc_new w _))
/-- As a slice. -/
theorem OwnS.slice (ok : RepOk R sz) (h : OwnS R sz base e F w v xs) : ∃ oa c, v = .slice oa xs.length c ∧ xs.length ≤ c ∧ SliceR R sz (fun k => F k ∨ base ≤ k) w oa xs := by
  obtain ⟨cells, ho, h1, hc⟩ := h
  rcases ho.2 with ⟨rfl, hn⟩ | ⟨g, cap, cur, rfl, hg, hh, hle, _, hcs, htake⟩
  · have : xs = [] := List.eq_nil_of_length_eq_zero hn
    subst this
    exact ⟨none, 0, rfl, by simp, SliceR.nil _ _ _ _ _⟩
  · refine ⟨_, cap, rfl, hle, fun i x hx => ⟨g, 0, chunk sz i cells, rfl, .inr hg, ok.wide (hc i x hx) fun _ h _ => .inl h, fun j u hu => ?_⟩⟩
    obtain ⟨hj, hu⟩ := chunk_get hu
    have hi : i < xs.length := (List.getElem?_eq_some_iff.1 hx).1
    rw [cell_of_row w g _ cur e (0, 0) hh]
    rw [← htake, List.getElem?_take] at hu
    split at hu
    · rw [show 0 + i * sz + j = i * sz + j from by omega]
      simpa using hu
    · cases hu
end

/-- The arm for 'out = append(out, src...)'. -/
theorem wpList_append_rep {α : Type} {R : Rep α} {P : Program} {w : World} {ops : Array Oper} {rest : List Oper} {o : Oper} {a : Act} {Q : Exit → Act → World → Prop} (hgd : o.guard = none) (s x : Operand) (t : TypeId)
    (ho : o.op = .call { callee := .builtin .append, args := #[s, x], argTypes := #[t, t] })
    (base : Nat) (e : TypeId) (z : Value) (size bytes : Nat) (ht : P.underlying t = some (.slice e)) (hinfo : (P.info? e).map (fun i => (i.zero, i.size, i.bytes)) = some (some z, size, bytes))
    (hzs : z.cells.size = size) (hsz : 0 < size) (ok : RepOk R size)
    (F G : Foot) (v : Value) (xs : List α) (hs : a.eval s = v) (hown : OwnS R size base e F w v xs)
    (oa : Option Addr) (c : Nat) (ys : List α) (hx : a.eval x = .slice oa ys.length c) (hsrc : SliceR R size G w oa ys) (hW : ∀ cs x, R G w cs x → R F w cs x) (hF : ∀ k, F k → k < base)
    (hbytes : (xs.length + ys.length) * bytes ≤ 140737488355328) (hm : xs.length + ys.length ≤ 9223372036854775807) (hbase : base ≤ w.heap.size)
    (h : ∀ v' w', OwnS R size base e F w' v' (xs ++ ys) → Below base w w' → w.grownBy w' v.ownBlock → wpList P ops Q rest (a.put o.dst v') w') : wpList P ops Q (o :: rest) a w := by
  obtain ⟨i0, hi, hz0, hz1, hz2⟩ := info_parts hinfo
  obtain ⟨cells, hown0, h1, hc⟩ := hown
  obtain ⟨news, hn1, hn2, hn3, hn4⟩ := hsrc.cells ok
  refine wpList_append_src w hgd s x t ho base e i0 z size bytes ht hi hz0 hz1 hz2 hzs hsz v xs.length cells hs hown0 oa ys.length c news hx hn1 hn2 hn3 (by unfold maxLen; omega) hbytes hbase fun v' w' ho' hg => ?_
  have hb : Below base w w' := (Below.refl base w).grown hg hbase fun k hk => (hown0.lt k hk).1
  have hsame : SameOn F w w' := fun k hk _ => hb.block k (hF k hk)
  refine h v' w' (OwnS.app hown0.1.symm ho' h1 hn3 (fun i x hx => ok.keep (hc i x hx) hsame) (fun i x hx => ok.keep (hW _ _ (hn4 i x hx)) hsame)) hb hg

end Go.Proofs.Ytmjcjmljnliaoaa

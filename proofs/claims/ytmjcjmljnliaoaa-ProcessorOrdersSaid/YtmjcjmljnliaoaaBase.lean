/-
  Representation of Go data in the model's memory: a value's cells stand for a Lean datum. No program is named here.
-/
import Derived.WalkKit
import Derived.WalkSpells
import Derived.WalkLawsBesides
import Derived.KernelRfl
namespace Go.Proofs.Ytmjcjmljnliaoaa
open Go.RowKit

abbrev Foot := Nat → Prop
abbrev Rep (α : Type) := Foot → World → List Value → α → Prop
def All : Foot := fun _ => True
def Lt (B : Nat) : Foot := fun k => k < B
def Ge (B : Nat) : Foot := fun k => B ≤ k

def SameOn (F : Foot) (w w' : World) : Prop := ∀ k, F k → k < w.heap.size → w'.heap[k]? = w.heap[k]?

theorem SameOn.refl (F : Foot) (w : World) : SameOn F w w := fun _ _ _ => rfl
theorem SameOn.of_below {F : Foot} {w w' : World} (h : Below w.heap.size w w') : SameOn F w w' := fun k _ hk => h.block k hk
theorem SameOn.of_lt {B : Nat} {w w' : World} (h : Below B w w') : SameOn (Lt B) w w' := fun k hk _ => h.block k hk

structure RepOk {α : Type} (R : Rep α) (sz : Nat) : Prop where
  len : ∀ {F w cs x}, R F w cs x → cs.length = sz
  one : ∀ {F w cs x}, R F w cs x → ∀ u ∈ cs, u.oneCell' = true
  keep : ∀ {F w w' cs x}, R F w cs x → SameOn F w w' → R F w' cs x
  wide : ∀ {F F' w cs x}, R F w cs x → (∀ k, F k → k < w.heap.size → F' k) → R F' w cs x

def I64 (x : Int) : Prop := -9223372036854775808 ≤ x ∧ x ≤ 9223372036854775807

def intR : Rep Int := fun _ _ cs x => cs = [.int .i64 x] ∧ I64 x
def boolR : Rep Bool := fun _ _ cs x => cs = [.bool x]

theorem intR_ok : RepOk intR 1 where
  len := by rintro F w cs x ⟨rfl, _⟩; rfl
  one := by rintro F w cs x ⟨rfl, _⟩ u hu; simp at hu; subst hu; rfl
  keep := by rintro F w w' cs x h _; exact h
  wide := by rintro F F' w cs x h _; exact h
theorem boolR_ok : RepOk boolR 1 where
  len := by rintro F w cs x rfl; rfl
  one := by rintro F w cs x rfl u hu; simp at hu; subst hu; rfl
  keep := by rintro F w w' cs x h _; exact h
  wide := by rintro F F' w cs x h _; exact h

/-- The address oa holds, from its place on, the elements xs, sz cells each. -/
def SliceR {α : Type} (R : Rep α) (sz : Nat) (F : Foot) (w : World) (oa : Option Addr) (xs : List α) : Prop :=
  ∀ i x, xs[i]? = some x → ∃ b off cs, oa = some ⟨b, off, none⟩ ∧ F b ∧ R F w cs x ∧ ∀ j u, cs[j]? = some u → w.cell? ⟨b, off + i * sz + j, none⟩ = some u

section
variable {α : Type} {R : Rep α} {sz : Nat} {F F' : Foot} {w w' : World} {oa : Option Addr} {xs : List α}

theorem SliceR.nil (R : Rep α) (sz : Nat) (F : Foot) (w : World) (oa : Option Addr) : SliceR R sz F w oa [] := by intro i x h; simp at h

theorem SliceR.keep (ok : RepOk R sz) (h : SliceR R sz F w oa xs) (hs : SameOn F w w') : SliceR R sz F w' oa xs := by
  intro i x hx
  obtain ⟨b, off, cs, rfl, hF, hR, hc⟩ := h i x hx
  refine ⟨b, off, cs, rfl, hF, ok.keep hR hs, fun j u hu => ?_⟩
  have h1 := hc j u hu
  have hb : b < w.heap.size := World.block_lt_of_cell? _ _ h1
  rw [World.cell?_of_block (hs b hF hb)]
  exact h1

theorem SliceR.below (ok : RepOk R sz) (h : SliceR R sz F w oa xs) (hb : Below w.heap.size w w') : SliceR R sz F w' oa xs := h.keep ok (SameOn.of_below hb)

theorem SliceR.wide (ok : RepOk R sz) (hsz : 0 < sz) (h : SliceR R sz F w oa xs) (hs : ∀ k, F k → k < w.heap.size → F' k) : SliceR R sz F' w oa xs := by
  intro i x hx
  obtain ⟨b, off, cs, rfl, hF, hR, hc⟩ := h i x hx
  have hl := ok.len hR
  have h0 : cs[0]? = some (cs[0]'(by omega)) := List.getElem?_eq_getElem (by omega)
  exact ⟨b, off, cs, rfl, hs b hF (World.block_lt_of_cell? _ _ (hc 0 _ h0)), ok.wide hR hs, hc⟩

theorem SliceR.loc (ok : RepOk R sz) (hsz : 0 < sz) (h : SliceR R sz F w oa xs) : SliceR R sz (Lt w.heap.size) w oa xs := h.wide ok hsz fun _ _ hk => hk
theorem SliceR.all (ok : RepOk R sz) (hsz : 0 < sz) (h : SliceR R sz F w oa xs) : SliceR R sz All w oa xs := h.wide ok hsz fun _ _ _ => trivial

/-- The element at i, with what is left of the list. -/
theorem SliceR.at (h : SliceR R sz F w oa xs) {i : Nat} (hi : i < xs.length) :
    ∃ x, xs.drop i = x :: xs.drop (i + 1) ∧ xs[i]? = some x ∧ ∃ b off cs, oa = some ⟨b, off, none⟩ ∧ F b ∧ R F w cs x ∧ ∀ j u, cs[j]? = some u → w.cell? ⟨b, off + i * sz + j, none⟩ = some u :=
  ⟨xs[i], List.drop_eq_getElem_cons hi, List.getElem?_eq_getElem hi, h i _ (List.getElem?_eq_getElem hi)⟩
end

/-- A slice value that stands for a list. -/
def slcR {α : Type} (R : Rep α) (sz : Nat) : Rep (List α) := fun F w cs xs =>
  ∃ oa c, cs = [.slice oa xs.length c] ∧ xs.length ≤ c ∧ xs.length ≤ 9223372036854775807 ∧ SliceR R sz F w oa xs

theorem slcR_ok {α : Type} {R : Rep α} {sz : Nat} (ok : RepOk R sz) (hsz : 0 < sz) : RepOk (slcR R sz) 1 where
  len := by rintro F w cs x ⟨oa, c, rfl, _⟩; rfl
  one := by rintro F w cs x ⟨oa, c, rfl, _⟩ u hu; simp at hu; subst hu; rfl
  keep := by rintro F w w' cs x ⟨oa, c, rfl, h1, h2, h⟩ hs; exact ⟨oa, c, rfl, h1, h2, h.keep ok hs⟩
  wide := by rintro F F' w cs x ⟨oa, c, rfl, h1, h2, h⟩ hs; exact ⟨oa, c, rfl, h1, h2, h.wide ok hsz hs⟩

section
variable {F : Foot} {w : World} {oa : Option Addr}
theorem SliceR.int_at {xs : List Int} (h : SliceR intR 1 F w oa xs) {i : Nat} (hi : i < xs.length) :
    ∃ x, xs.drop i = x :: xs.drop (i + 1) ∧ xs[i]? = some x ∧ I64 x ∧ ∃ b off, oa = some ⟨b, off, none⟩ ∧ F b ∧ w.cell? ⟨b, off + i, none⟩ = some (.int .i64 x) := by
  obtain ⟨x, h1, h2, b, off, cs, h3, h4, ⟨rfl, h5⟩, h6⟩ := h.at hi
  exact ⟨x, h1, h2, h5, b, off, h3, h4, by simpa using h6 0 _ rfl⟩
theorem SliceR.slc_at {α : Type} {R : Rep α} {sz : Nat} {xs : List (List α)} (h : SliceR (slcR R sz) 1 F w oa xs) {i : Nat} (hi : i < xs.length) :
    ∃ x, xs.drop i = x :: xs.drop (i + 1) ∧ xs[i]? = some x ∧ ∃ b off oa' c, oa = some ⟨b, off, none⟩ ∧ F b ∧ w.cell? ⟨b, off + i, none⟩ = some (.slice oa' x.length c) ∧ x.length ≤ c ∧ x.length ≤ 9223372036854775807 ∧ SliceR R sz F w oa' x := by
  obtain ⟨x, h1, h2, b, off, cs, h3, h4, ⟨oa', c, rfl, h5, h6, h7⟩, h8⟩ := h.at hi
  exact ⟨x, h1, h2, b, off, oa', c, h3, h4, by simpa using h8 0 _ rfl, h5, h6, h7⟩
end

theorem ret_int {k : IntKind} {a b : Int} (h : a = b) : Ending.returned (.int k a) = .returned (.int k b) := by rw [h]
theorem ret_bool {a b : Bool} (h : a = b) : Ending.returned (.bool a) = .returned (.bool b) := by rw [h]
theorem hide {p : Prop} (h : p) : Hid p := h

theorem bnew {w w' : World} (h : Below w.heap.size w w') (o : Obj) : Below w.heap.size w (w'.alloc o) := h.alloc h.size o
/-- Behind a box that the call laid first: below it all is as it was. -/
theorem below_box {w wr : World} {o : Obj} (hb : Below (w.heap.size + 1) (w.alloc o) wr) : Below w.heap.size w wr :=
  ((Below.refl w.heap.size w).alloc (Nat.le_refl _) o).trans (hb.mono (by omega))
theorem box_refl (w : World) (o : Obj) : Below (w.heap.size + 1) (w.alloc o) (w.alloc o) := Below.refl _ _
theorem box_cell {w wr : World} {cs : Array Value} {t : TypeId} (hb : Below (w.heap.size + 1) (w.alloc (.cells cs t)) wr) (i : Nat) : wr.cell? ⟨w.heap.size, i, none⟩ = cs[i]? := by
  rw [hb.cell (p := ⟨w.heap.size, i, none⟩) (by simp)]
  exact cell_of_row (w.alloc (.cells cs t)) w.heap.size i cs t (0, 0) (heap_alloc_new w _)
theorem box_lt {w wr : World} {o : Obj} (hb : Below (w.heap.size + 1) (w.alloc o) wr) : w.heap.size < wr.heap.size := by
  have := hb.size
  simp at this
  omega
theorem box_new {B : Nat} {a wr : World} (hb : Below B a wr) (hB : B ≤ a.heap.size) (o : Obj) : Below B a (wr.alloc o) := hb.alloc (Nat.le_trans hB hb.size) o
theorem box_then {B : Nat} {a wr w2 : World} (hb : Below B a wr) (hB : B ≤ a.heap.size) (h2 : Below wr.heap.size wr w2) : Below B a w2 := hb.trans (h2.mono (Nat.le_trans hB hb.size))
theorem below_drewN {B : Nat} {a w : World} (h : Below B a w) (n : Nat) : Below B a (w.drewN n) := ⟨h.os, h.tape, h.output, h.size, h.block⟩
theorem SliceR.drewN {α : Type} {R : Rep α} {sz : Nat} {F : Foot} {w : World} {oa : Option Addr} {xs : List α} (ok : RepOk R sz) (h : SliceR R sz F w oa xs) (n : Nat) : SliceR R sz F (w.drewN n) oa xs :=
  h.keep ok fun _ _ _ => rfl
theorem below_then {a wr w2 : World} (hb : Below a.heap.size a wr) (h2 : Below wr.heap.size wr w2) : Below a.heap.size a w2 := hb.trans (h2.mono hb.size)

end Go.Proofs.Ytmjcjmljnliaoaa

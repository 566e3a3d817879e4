/-
  The examples of chapter 54: Vertex, Rotor, Setter.
-/
import Derived.Test.YtmjcjmljnliaoaaProg
import Derived.Test.YtmjcjmljnliaoaaLit
import Derived.Test.YtmjcjmljnliaoaaDat2
set_option linter.unusedVariables false
namespace Go.Proofs.Ytmjcjmljnliaoaa
open Go.RowKit

theorem one_any (t : Int) (w : World) : Calls Try.prog 78 #[.int .i64 t] w fun e w' => e = .returned (.agg #[.int .i64 t, .int .i64 0]) ∧ Below w.heap.size w w' := by
  go_enter Try.func78, Try.ntmps78
  go_wp2_with fail
  refine bodyPost_ret (v := .agg #[.int .i64 t, .int .i64 0]) (by simp [results, Try.results78, go_sem]) rfl ⟨rfl, ?_⟩
  exact bnew (Below.refl _ _) _

def vertexRs : List (List Rul) := [[⟨1, []⟩], [⟨0, [⟨1, 0⟩, ⟨2, 0⟩]⟩]]
def rotorRs : List (List Rul) := [[⟨1, [⟨1, 0⟩]⟩], [⟨0, [⟨2, 0⟩]⟩]]
def setterRs : List (List Rul) := [[⟨0, []⟩, ⟨1, []⟩], [⟨0, []⟩, ⟨1, []⟩]]
def PrcPost (w : World) (S L : Int) (rs : List (List Rul)) (e : Ending) (w' : World) : Prop :=
  ∃ oa c, e = .returned (.agg #[.int .i64 S, .int .i64 L, .slice oa rs.length c]) ∧ rs.length ≤ c ∧ SliceR (slcR ruleR 2) 1 All w' oa rs ∧ Below w.heap.size w w'

theorem i64_0 : I64 0 := by unfold I64; omega
theorem i64_1 : I64 1 := by unfold I64; omega
theorem i64_2 : I64 2 := by unfold I64; omega
theorem i64_4 {x : Int} (h : 0 ≤ x ∧ x ≤ 1000) : I64 x := by unfold I64; omega

theorem rule_lit {F : Foot} {w : World} {nx : Int} {oa : Option Addr} {c : Nat} {st : List Out} (h : I64 nx) (hc : st.length ≤ c) (hl : st.length ≤ 1000) (hs : SliceR outR 2 F w oa st) : ruleR F w [.int .i64 nx, .slice oa st.length c] ⟨nx, st⟩ :=
  ⟨oa, c, rfl, h, hc, by show st.length ≤ _; omega, hs⟩
theorem row_lit {F : Foot} {w : World} {oa : Option Addr} {c : Nat} {row : List Rul} (hc : row.length ≤ c) (hl : row.length ≤ 1000) (hs : SliceR ruleR 2 F w oa row) : slcR ruleR 2 F w [.slice oa row.length c] row :=
  ⟨oa, c, rfl, hc, by omega, hs⟩
theorem lit1 {α : Type} {R : Rep α} {sz : Nat} {F G : Foot} (ok : RepOk R sz) (w : World) (e : TypeId) (cs : List Value) (x : α) (h : R F w cs x) (hFG : ∀ k, F k → G k) (hG : G w.heap.size) :
    SliceR R sz G (w.alloc (.cells [cs].flatten.toArray e)) (some ⟨w.heap.size, 0, none⟩) [x] :=
  SliceR.lit ok w e [cs] [x] (fun i y hy => by match i, hy with | 0, hy => simp at hy; subst hy; exact ⟨cs, rfl, h⟩) rfl hFG hG
theorem lit2 {α : Type} {R : Rep α} {sz : Nat} {F G : Foot} (ok : RepOk R sz) (w : World) (e : TypeId) (cs cs' : List Value) (x x' : α) (h : R F w cs x) (h' : R F w cs' x') (hFG : ∀ k, F k → G k) (hG : G w.heap.size) :
    SliceR R sz G (w.alloc (.cells [cs, cs'].flatten.toArray e)) (some ⟨w.heap.size, 0, none⟩) [x, x'] :=
  SliceR.lit ok w e [cs, cs'] [x, x'] (fun i y hy => by match i, hy with | 0, hy => simp at hy; subst hy; exact ⟨cs, rfl, h⟩ | 1, hy => simp at hy; subst hy; exact ⟨cs', rfl, h'⟩) rfl hFG hG

/-- A block that is written alone: other blocks read as they did. -/
theorem set3 (w3 : World) (B : Nat) (x y z x' y' z' : Value) (t : TypeId) (h : w3.heap[B]? = some (.cells #[x', y', z'] t (0, 0))) :
    (((w3.setCell ⟨B, 0, none⟩ x).setCell ⟨B, 1, none⟩ y).setCell ⟨B, 2, none⟩ z).heap.size = w3.heap.size ∧ w3.grownBy (((w3.setCell ⟨B, 0, none⟩ x).setCell ⟨B, 1, none⟩ y).setCell ⟨B, 2, none⟩ z) (some B) ∧
    (((w3.setCell ⟨B, 0, none⟩ x).setCell ⟨B, 1, none⟩ y).setCell ⟨B, 2, none⟩ z).heap[B]? = some (.cells #[x, y, z] t (0, 0)) := by
  have h1 := heap_setCell_same w3 B 0 _ _ x h
  have h2 := heap_setCell_same _ B 1 _ _ y h1
  have h3 := heap_setCell_same _ B 2 _ _ z h2
  refine ⟨by simp [World.setCell], ⟨rfl, rfl, rfl, by simp [World.setCell], fun k _ hne => ?_⟩, by rw [h3]; rfl⟩
  have hk : k ≠ B := fun e => hne (by rw [e])
  rw [Below.heap_setCell _ _ _ _ hk, Below.heap_setCell _ _ _ _ hk, Below.heap_setCell _ _ _ _ hk]
theorem same_of_grown {w w' : World} {B : Nat} (h : w.grownBy w' (some B)) : SameOn (Ge (B + 1)) w w' := fun k hk hl => h.block k hl fun e => by injection e with e; unfold Ge at hk; omega

set_option maxHeartbeats 1000000 in
theorem setter_any (w : World) : Calls Try.prog 77 #[] w (PrcPost w 2 2 setterRs) := by
  go_enter Try.func77, Try.ntmps77
  go_wp2_with fail
  let Z : Obj := .cells #[.int .i64 2, .int .i64 2, .slice (some ⟨w.heap.size + 1 + 1 + 1, 0, none⟩) 2 2] 47
  let R : Obj := .cells #[.int .i64 0, .slice none 0 0, .int .i64 1, .slice none 0 0] 115
  have z : ∀ (nx : Int) (wx : World), I64 nx → ruleR All wx [.int .i64 nx, .slice none 0 0] ⟨nx, []⟩ := fun nx wx h => rule_lit h (by simp) (by simp) (SliceR.nil _ _ _ _ _)
  have s1 := lit2 (F := All) (G := All) ruleR_ok (w.alloc Z) 115 _ _ _ _ (z 0 _ i64_0) (z 1 _ i64_1) (fun _ h => h) trivial
  have s2 := lit2 (F := All) (G := All) ruleR_ok ((w.alloc Z).alloc R) 115 _ _ _ _ (z 0 _ i64_0) (z 1 _ i64_1) (fun _ h => h) trivial
  have s1' : SliceR ruleR 2 All (((w.alloc Z).alloc R).alloc R) (some ⟨w.heap.size + 1, 0, none⟩) [⟨0, []⟩, ⟨1, []⟩] := by simpa using s1.below ruleR_ok (bnew (Below.refl _ _) R)
  have s2' : SliceR ruleR 2 All (((w.alloc Z).alloc R).alloc R) (some ⟨w.heap.size + 1 + 1, 0, none⟩) [⟨0, []⟩, ⟨1, []⟩] := by simpa using s2
  have s3 := lit2 (F := All) (G := All) rowR_ok (((w.alloc Z).alloc R).alloc R) 113 _ _ _ _ (row_lit (c := 2) (by decide) (by decide) s1') (row_lit (c := 2) (by decide) (by decide) s2') (fun _ h => h) trivial
  refine bodyPost_ret (v := .agg #[.int .i64 2, .int .i64 2, .slice (some ⟨w.heap.size + 1 + 1 + 1, 0, none⟩) 2 2]) (by simp [results, Try.results77, go_sem]) rfl ⟨_, 2, rfl, by decide, ?_, bnew (bnew (bnew (bnew (Below.refl _ _) _) _) _) _⟩
  unfold setterRs
  simpa [Z, R] using s3

set_option maxHeartbeats 1000000 in
theorem vertex_any (w : World) : Calls Try.prog 75 #[] w (PrcPost w 2 1 vertexRs) := by
  go_enter Try.func75, Try.ntmps75
  go_wp2_with fail
  refine (one_any _ _).mono ?_
  rintro e w2 ⟨rfl, hb2⟩
  have s1 := lit1 (F := Ge (w.heap.size + 1)) (G := Ge (w.heap.size + 1)) ruleR_ok (w.alloc (.cells #[.int .i64 0, .int .i64 0, .slice none 0 0] 47)) 115 _ _ (rule_lit (nx := 1) (c := 0) (oa := none) (st := []) i64_1 (by simp) (by simp) (SliceR.nil _ _ _ _ _)) (fun _ h => h) (by simp [Ge])
  have hx2 := box_then (box_new (box_refl w (.cells #[.int .i64 0, .int .i64 0, .slice none 0 0] 47)) (by simp) (.cells #[.int .i64 1, .slice none 0 0] 115)) (by simp) hb2
  have s1 := s1.below ruleR_ok hb2
  go_wp2_with fail
  refine (one_any _ _).mono ?_
  rintro e w3 ⟨rfl, hb3⟩
  have hx3 := box_then hx2 (by simp) hb3
  have s1 := s1.below ruleR_ok hb3
  have d0 := box_cell hx3 0
  have d1 := box_cell hx3 1
  have d2 := box_cell hx3 2
  simp at d0 d1 d2
  have f0 := box_free hx3 0
  have f1 := box_free hx3 1
  have f2 := box_free hx3 2
  have hsz := box_lt hx3
  have hsz1 : w.heap.size < w3.heap.size + 1 := by omega
  have hsz2 : w.heap.size < w3.heap.size + 1 + 1 := by omega
  have HB := hide ((hx3.block w.heap.size (by omega)).trans (heap_alloc_new w _))
  have S1 := hide s1
  clear s1
  go_wp2_with fail
  have hs3 := set3 w3 w.heap.size (.int .i64 2) (.int .i64 1) (.slice (some ⟨w3.heap.size + 1 + 1, 0, none⟩) 2 2) _ _ _ _ HB.out
  have s1 := S1.out.keep ruleR_ok (same_of_grown hs3.2.1)
  have hbw : Below w.heap.size w (((w3.setCell ⟨w.heap.size, 0, none⟩ (.int .i64 2)).setCell ⟨w.heap.size, 1, none⟩ (.int .i64 1)).setCell ⟨w.heap.size, 2, none⟩ (.slice (some ⟨w3.heap.size + 1 + 1, 0, none⟩) 2 2)) :=
    (below_box hx3).grown hs3.2.1 (below_box hx3).size (fun k hk => by injection hk with hk; omega)
  obtain ⟨h4, _, hB⟩ := hs3
  generalize ((w3.setCell ⟨w.heap.size, 0, none⟩ (.int .i64 2)).setCell ⟨w.heap.size, 1, none⟩ (.int .i64 1)).setCell ⟨w.heap.size, 2, none⟩ (.slice (some ⟨w3.heap.size + 1 + 1, 0, none⟩) 2 2) = w4 at *
  have G4 : Ge (w.heap.size + 1) w4.heap.size := by unfold Ge; omega
  rw [← h4] at hsz hsz1 hsz2 hB ⊢
  have s2 := lit2 (F := Ge (w.heap.size + 1)) (G := Ge (w.heap.size + 1)) outR_ok w4 80 _ _ ⟨1, 0⟩ ⟨2, 0⟩ ⟨rfl, i64_1, i64_0⟩ ⟨rfl, i64_2, i64_0⟩ (fun _ h => h) G4
  have s3 := lit1 (F := Ge (w.heap.size + 1)) (G := Ge (w.heap.size + 1)) ruleR_ok _ 115 _ _ (rule_lit (nx := 0) (c := 2) i64_0 (by decide) (by decide) s2) (fun _ h => h) (by unfold Ge; simp; omega)
  have s1 := (s1.below ruleR_ok (bnew (Below.refl _ _) (.cells #[.int .i64 1, .int .i64 0, .int .i64 2, .int .i64 0] 80))).below ruleR_ok (bnew (Below.refl _ _) (.cells #[.int .i64 0, .slice (some ⟨w4.heap.size, 0, none⟩) 2 2] 115))
  have s4 := lit2 (F := Ge (w.heap.size + 1)) (G := All) rowR_ok _ 113 _ _ _ _ (row_lit (c := 1) (by decide) (by decide) s1) (row_lit (c := 1) (by decide) (by decide) s3) (fun _ _ => trivial) trivial
  have q := fun i => cell_of_row w4 w.heap.size i _ _ _ hB
  have q0 := q 0
  have q1 := q 1
  have q2 := q 2
  simp at q0 q1 q2
  have l0 : w.heap.size < w4.heap.size := hsz
  have S4 := hide s4
  clear s4 s1 s2 s3 q
  refine bodyPost_ret (v := .agg #[.int .i64 2, .int .i64 1, .slice (some ⟨w4.heap.size + 1 + 1, 0, none⟩) 2 2]) (by simp [results, Try.results75, go_sem, q0, q1, q2, hsz, hsz1, hsz2]) rfl ⟨_, 2, rfl, by decide, ?_, bnew (bnew (bnew hbw _) _) _⟩
  have := S4.out
  first | unfold vertexRs | unfold rotorRs
  simpa using this

set_option maxHeartbeats 1000000 in
theorem rotor_any (w : World) : Calls Try.prog 76 #[] w (PrcPost w 2 1 rotorRs) := by
  go_enter Try.func76, Try.ntmps76
  go_wp2_with fail
  refine (one_any _ _).mono ?_
  rintro e w2 ⟨rfl, hb2⟩
  have hx2 := box_then (box_refl w (.cells #[.int .i64 0, .int .i64 0, .slice none 0 0] 47)) (by simp) hb2
  have hsz0 := box_lt hx2
  have s0 := lit1 (F := Ge (w.heap.size + 1)) (G := Ge (w.heap.size + 1)) outR_ok w2 80 _ ⟨1, 0⟩ ⟨rfl, i64_1, i64_0⟩ (fun _ h => h) (by unfold Ge; omega)
  have s1 := lit1 (F := Ge (w.heap.size + 1)) (G := Ge (w.heap.size + 1)) ruleR_ok _ 115 _ _ (rule_lit (nx := 1) (c := 1) i64_1 (by decide) (by decide) s0) (fun _ h => h) (by unfold Ge; simp; omega)
  go_wp2_with fail
  refine (one_any _ _).mono ?_
  rintro e w3 ⟨rfl, hb3⟩
  have s1 := s1.below ruleR_ok hb3
  have hx2 := box_new (box_new hx2 (by simp) (.cells #[.int .i64 1, .int .i64 0] 80)) (by simp) (.cells #[.int .i64 1, .slice (some ⟨w2.heap.size, 0, none⟩) 1 1] 115)
  have hx3 := box_then hx2 (by simp) hb3
  have d0 := box_cell hx3 0
  have d1 := box_cell hx3 1
  have d2 := box_cell hx3 2
  simp at d0 d1 d2
  have f0 := box_free hx3 0
  have f1 := box_free hx3 1
  have f2 := box_free hx3 2
  have hsz := box_lt hx3
  have hsz1 : w.heap.size < w3.heap.size + 1 := by omega
  have hsz2 : w.heap.size < w3.heap.size + 1 + 1 := by omega
  have HB := hide ((hx3.block w.heap.size (by omega)).trans (heap_alloc_new w _))
  have S1 := hide s1
  clear s1
  go_wp2_with fail
  have hs3 := set3 w3 w.heap.size (.int .i64 2) (.int .i64 1) (.slice (some ⟨w3.heap.size + 1 + 1, 0, none⟩) 2 2) _ _ _ _ HB.out
  have s1 := S1.out.keep ruleR_ok (same_of_grown hs3.2.1)
  have hbw : Below w.heap.size w (((w3.setCell ⟨w.heap.size, 0, none⟩ (.int .i64 2)).setCell ⟨w.heap.size, 1, none⟩ (.int .i64 1)).setCell ⟨w.heap.size, 2, none⟩ (.slice (some ⟨w3.heap.size + 1 + 1, 0, none⟩) 2 2)) :=
    (below_box hx3).grown hs3.2.1 (below_box hx3).size (fun k hk => by injection hk with hk; omega)
  obtain ⟨h4, _, hB⟩ := hs3
  generalize ((w3.setCell ⟨w.heap.size, 0, none⟩ (.int .i64 2)).setCell ⟨w.heap.size, 1, none⟩ (.int .i64 1)).setCell ⟨w.heap.size, 2, none⟩ (.slice (some ⟨w3.heap.size + 1 + 1, 0, none⟩) 2 2) = w4 at *
  have G4 : Ge (w.heap.size + 1) w4.heap.size := by unfold Ge; omega
  rw [← h4] at hsz hsz1 hsz2 hB ⊢
  have s2 := lit1 (F := Ge (w.heap.size + 1)) (G := Ge (w.heap.size + 1)) outR_ok w4 80 _ ⟨2, 0⟩ ⟨rfl, i64_2, i64_0⟩ (fun _ h => h) G4
  have s3 := lit1 (F := Ge (w.heap.size + 1)) (G := Ge (w.heap.size + 1)) ruleR_ok _ 115 _ _ (rule_lit (nx := 0) (c := 1) i64_0 (by decide) (by decide) s2) (fun _ h => h) (by unfold Ge; simp; omega)
  have s1 := (s1.below ruleR_ok (bnew (Below.refl _ _) (.cells #[.int .i64 2, .int .i64 0] 80))).below ruleR_ok (bnew (Below.refl _ _) (.cells #[.int .i64 0, .slice (some ⟨w4.heap.size, 0, none⟩) 1 1] 115))
  have s4 := lit2 (F := Ge (w.heap.size + 1)) (G := All) rowR_ok _ 113 _ _ _ _ (row_lit (c := 1) (by decide) (by decide) s1) (row_lit (c := 1) (by decide) (by decide) s3) (fun _ _ => trivial) trivial
  have q := fun i => cell_of_row w4 w.heap.size i _ _ _ hB
  have q0 := q 0
  have q1 := q 1
  have q2 := q 2
  simp at q0 q1 q2
  have l0 : w.heap.size < w4.heap.size := hsz
  have S4 := hide s4
  clear s4 s1 s2 s3 q
  refine bodyPost_ret (v := .agg #[.int .i64 2, .int .i64 1, .slice (some ⟨w4.heap.size + 1 + 1, 0, none⟩) 2 2]) (by simp [results, Try.results76, go_sem, q0, q1, q2, hsz, hsz1, hsz2]) rfl ⟨_, 2, rfl, by decide, ?_, bnew (bnew (bnew hbw _) _) _⟩
  have := S4.out
  first | unfold vertexRs | unfold rotorRs
  simpa using this

end Go.Proofs.Ytmjcjmljnliaoaa

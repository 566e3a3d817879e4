/-
  The closures that compare outputs.
-/
import Derived.Test.YtmjcjmljnliaoaaProg
import Derived.Test.YtmjcjmljnliaoaaOrd
import Derived.Deep.QuietTactic
import Derived.BigQuiet
import Derived.StillTailTactics
import Derived.Deep.RegionHeld3
set_option linter.unusedVariables false
namespace Go.Proofs.Ytmjcjmljnliaoaa
open Go.RowKit

theorem key1_any (t l : Int) (w : World) : Calls Try.prog 126 #[.agg #[.int .i64 t, .int .i64 l]] w fun e w' => e = .returned (.int .i64 t) ∧ Below w.heap.size w w' := by
  go_enter Try.func126, Try.ntmps126
  go_wp2_with fail
  go_ret
  exact ⟨rfl, bnew (Below.refl _ _) _⟩
theorem key2_any (t l : Int) (w : World) : Calls Try.prog 127 #[.agg #[.int .i64 t, .int .i64 l]] w fun e w' => e = .returned (.int .i64 l) ∧ Below w.heap.size w w' := by
  go_enter Try.func127, Try.ntmps127
  go_wp2_with fail
  go_ret
  exact ⟨rfl, bnew (Below.refl _ _) _⟩
theorem isNaN_any (x : Int) (w : World) : Calls Try.prog 132 #[.int .i64 x] w fun e w' => e = .returned (.bool false) ∧ w = w' := by
  go_enter Try.func132, Try.ntmps132
  go_wp2_with fail
  go_ret
  simp
theorem compare_any (x y : Int) (w : World) : Calls Try.prog 147 #[.int .i64 x, .int .i64 y] w fun e w' => e = .returned (.int .i64 (cmpI x y)) ∧ w = w' := by
  go_enter Try.func147, Try.ntmps147
  go_wp2_with (go_at_call 132; refine (isNaN_any _ _).mono ?_; rintro e w' ⟨rfl, rfl⟩)
  · go_ret
    have h : x < y := by assumption
    exact ⟨ret_int (by simp [cmpI, h]), rfl⟩
  · go_ret
    have h : y < x := by assumption
    have h' : ¬ x < y := by omega
    exact ⟨ret_int (by simp [cmpI, h, h']), rfl⟩
  · go_ret
    have h : ¬ y < x := by omega
    have h' : ¬ x < y := by omega
    exact ⟨ret_int (by simp [cmpI, h, h']), rfl⟩

theorem two_boxes (w : World) (a b : Array Value) (t : TypeId) :
    ((w.alloc (.cells a t)).alloc (.cells b t)).cell? ⟨w.heap.size, 0, none⟩ = a[0]? ∧ ((w.alloc (.cells a t)).alloc (.cells b t)).cell? ⟨w.heap.size, 1, none⟩ = a[1]? ∧
    ((w.alloc (.cells a t)).alloc (.cells b t)).cell? ⟨w.heap.size + 1, 0, none⟩ = b[0]? ∧ ((w.alloc (.cells a t)).alloc (.cells b t)).cell? ⟨w.heap.size + 1, 1, none⟩ = b[1]? ∧
    Below w.heap.size w ((w.alloc (.cells a t)).alloc (.cells b t)) := by
  have h1 : ∀ i, ((w.alloc (.cells a t)).alloc (.cells b t)).cell? ⟨w.heap.size, i, none⟩ = a[i]? := fun i => box_cell (bnew' (box_refl w _) _) i
  have h2 : ∀ i, ((w.alloc (.cells a t)).alloc (.cells b t)).cell? ⟨w.heap.size + 1, i, none⟩ = b[i]? := fun i => by
    have h := box_cell (box_refl (w.alloc (.cells a t)) (.cells b t)) i
    simp at h ⊢
  exact ⟨h1 0, h1 1, h2 0, h2 1, bnew (bnew (Below.refl _ _) _) _⟩
where
  bnew' {B : Nat} {a w' : World} (h : Below (B + 1) a w') (o : Obj) (hB : B + 1 ≤ w'.heap.size := by simp) : Below (B + 1) a (w'.alloc o) := h.alloc hB o

def keyF (n : Nat) : Value := .func (.func n) #[] #[]
/-- The captured keys. -/
def Keys (w : World) (kb ka : Nat) : Prop :=
  w.heap[kb]? = some (.cells #[.slice (some ⟨ka, 0, none⟩) 2 2] 181 (0, 0)) ∧ w.heap[ka]? = some (.cells #[keyF 126, keyF 127] 160 (0, 0))

def Held6 (w : World) (B : Nat) (t l t' l' : Int) (kb ka : Nat) : Prop :=
  w.cell? ⟨B, 0, none⟩ = some (.int .i64 t) ∧ w.cell? ⟨B, 1, none⟩ = some (.int .i64 l) ∧ w.cell? ⟨B + 1, 0, none⟩ = some (.int .i64 t') ∧ w.cell? ⟨B + 1, 1, none⟩ = some (.int .i64 l') ∧
  w.cell? ⟨kb, 0, none⟩ = some (.slice (some ⟨ka, 0, none⟩) 2 2) ∧ w.cell? ⟨ka, 0, none⟩ = some (.func (.func 126) #[] #[]) ∧ w.cell? ⟨ka, 1, none⟩ = some (.func (.func 127) #[] #[])

set_option maxHeartbeats 4000000 in
theorem cmpO_any (t l t' l' : Int) (kb ka : Nat) (w : World) (hk : Hid (Keys w kb ka)) :
    Calls Try.prog 146 #[.agg #[.int .i64 t, .int .i64 l], .agg #[.int .i64 t', .int .i64 l'], .pointer (some ⟨kb, 0, none⟩)] w fun e w' =>
      e = .returned (.int .i64 (cmpO ⟨t, l⟩ ⟨t', l'⟩)) ∧ Below w.heap.size w w' := by
  have k0 : w.cell? ⟨kb, 0, none⟩ = some (.slice (some ⟨ka, 0, none⟩) 2 2) := cell_of_row w kb 0 _ _ _ hk.out.1
  have k1 : w.cell? ⟨ka, 0, none⟩ = some (keyF 126) := cell_of_row w ka 0 _ _ _ hk.out.2
  have k2 : w.cell? ⟨ka, 1, none⟩ = some (keyF 127) := cell_of_row w ka 1 _ _ _ hk.out.2
  have b0 := World.block_lt_of_cell? _ _ k0
  have b1 := World.block_lt_of_cell? _ _ k1
  simp only at b0 b1
  unfold keyF at k1 k2
  go_enter Try.func146, Try.ntmps146
  go_wp2_with fail
  obtain ⟨c0, c1, c2, c3, hbW⟩ := two_boxes w #[.int .i64 t, .int .i64 l] #[.int .i64 t', .int .i64 l'] 80
  have k0' := (hbW.cell (World.block_lt_of_cell? _ _ k0)).trans k0
  have k1' := (hbW.cell (World.block_lt_of_cell? _ _ k1)).trans k1
  have k2' := (hbW.cell (World.block_lt_of_cell? _ _ k2)).trans k2
  simp only [List.getElem?_toArray, List.getElem?_cons_zero, List.getElem?_cons_succ] at c0 c1 c2 c3
  clear k0 k1 k2 hk
  generalize (w.alloc (.cells #[.int .i64 t, .int .i64 l] 80)).alloc (.cells #[.int .i64 t', .int .i64 l'] 80) = W at *
  go_loopw [11] (fun i wr => ∃ k : Nat, k ≤ 2 ∧ i = .int .i64 k ∧ Hid (k = 0 ∨ cmpI t t' = 0) ∧ Hid (k ≤ 1 ∨ cmpI l l' = 0) ∧ Held6 wr w.heap.size t l t' l' kb ka ∧ Below w.heap.size w wr) (fun i _ => 2 - (intOf i).toNat)
  case atStart => exact ⟨0, by omega, rfl, .inl rfl, .inl (by omega), ⟨c0, c1, c2, c3, k0', k1', k2'⟩, hbW⟩
  case round =>
    clear c0 c1 c2 c3 k0' k1' k2' hbW
    obtain ⟨k, hk, rfl, HK0, HK1, ⟨c0, c1, c2, c3, k0', k1', k2'⟩, hb⟩ := hrel
    rcases (show k = 0 ∨ k = 1 ∨ k = 2 from by omega) with rfl | rfl | rfl
    · have hz : Hid (cmpO ⟨t, l⟩ ⟨t', l'⟩ = if cmpI t t' = 0 then cmpI l l' else cmpI t t') := rfl
      by_cases hc : cmpI t t' = 0
      · have hc1 := is_err hc
        have HC := hide hc
        clear hc
        go_wp2_with fail
        have hb := hb.drew
        go_region_held3 (fun w' => w'.cell? ⟨w.heap.size, 0, none⟩ = some (.int .i64 t) ∧ w'.cell? ⟨w.heap.size, 1, none⟩ = some (.int .i64 l) ∧ w'.cell? ⟨w.heap.size + 1, 0, none⟩ = some (.int .i64 t') ∧ w'.cell? ⟨w.heap.size + 1, 1, none⟩ = some (.int .i64 l')) (first | exact ⟨c0, c1, c2, c3⟩) (first
          | (go_at_call 126; refine (key1_any _ _ _).mono ?_; rintro e w2 ⟨rfl, hb2⟩; have c0 := (hb2.cell (World.block_lt_of_cell? _ _ c0)).trans c0; have c1 := (hb2.cell (World.block_lt_of_cell? _ _ c1)).trans c1; have c2 := (hb2.cell (World.block_lt_of_cell? _ _ c2)).trans c2; have c3 := (hb2.cell (World.block_lt_of_cell? _ _ c3)).trans c3; have k0' := (hb2.cell (World.block_lt_of_cell? _ _ k0')).trans k0'; have k1' := (hb2.cell (World.block_lt_of_cell? _ _ k1')).trans k1'; have k2' := (hb2.cell (World.block_lt_of_cell? _ _ k2')).trans k2'; have hb := below_then hb hb2)
          | (go_at_call 127; refine (key2_any _ _ _).mono ?_; rintro e w2 ⟨rfl, hb2⟩; have c0 := (hb2.cell (World.block_lt_of_cell? _ _ c0)).trans c0; have c1 := (hb2.cell (World.block_lt_of_cell? _ _ c1)).trans c1; have c2 := (hb2.cell (World.block_lt_of_cell? _ _ c2)).trans c2; have c3 := (hb2.cell (World.block_lt_of_cell? _ _ c3)).trans c3; have k0' := (hb2.cell (World.block_lt_of_cell? _ _ k0')).trans k0'; have k1' := (hb2.cell (World.block_lt_of_cell? _ _ k1')).trans k1'; have k2' := (hb2.cell (World.block_lt_of_cell? _ _ k2')).trans k2'; have hb := below_then hb hb2)
          | (go_at_call 147; refine (compare_any _ _ _).mono ?_; rintro e w' ⟨rfl, rfl⟩))
        all_goals
          go_wp2_with fail
          go_roundw
          case rel => exact ⟨1, by omega, by go_num, .inr HC.out, .inl (by omega), ⟨c0, c1, c2, c3, k0', k1', k2'⟩, hb⟩
          case measure => simp [intOf]
      · have hc1 := not_err hc
        have HC := hide hc
        clear hc
        go_wp2_with fail
        have hb := hb.drew
        go_region_held3 (fun w' => w'.cell? ⟨w.heap.size, 0, none⟩ = some (.int .i64 t) ∧ w'.cell? ⟨w.heap.size, 1, none⟩ = some (.int .i64 l) ∧ w'.cell? ⟨w.heap.size + 1, 0, none⟩ = some (.int .i64 t') ∧ w'.cell? ⟨w.heap.size + 1, 1, none⟩ = some (.int .i64 l')) (first | exact ⟨c0, c1, c2, c3⟩) (first
          | (go_at_call 126; refine (key1_any _ _ _).mono ?_; rintro e w2 ⟨rfl, hb2⟩; have c0 := (hb2.cell (World.block_lt_of_cell? _ _ c0)).trans c0; have c1 := (hb2.cell (World.block_lt_of_cell? _ _ c1)).trans c1; have c2 := (hb2.cell (World.block_lt_of_cell? _ _ c2)).trans c2; have c3 := (hb2.cell (World.block_lt_of_cell? _ _ c3)).trans c3; have k0' := (hb2.cell (World.block_lt_of_cell? _ _ k0')).trans k0'; have k1' := (hb2.cell (World.block_lt_of_cell? _ _ k1')).trans k1'; have k2' := (hb2.cell (World.block_lt_of_cell? _ _ k2')).trans k2'; have hb := below_then hb hb2)
          | (go_at_call 127; refine (key2_any _ _ _).mono ?_; rintro e w2 ⟨rfl, hb2⟩; have c0 := (hb2.cell (World.block_lt_of_cell? _ _ c0)).trans c0; have c1 := (hb2.cell (World.block_lt_of_cell? _ _ c1)).trans c1; have c2 := (hb2.cell (World.block_lt_of_cell? _ _ c2)).trans c2; have c3 := (hb2.cell (World.block_lt_of_cell? _ _ c3)).trans c3; have k0' := (hb2.cell (World.block_lt_of_cell? _ _ k0')).trans k0'; have k1' := (hb2.cell (World.block_lt_of_cell? _ _ k1')).trans k1'; have k2' := (hb2.cell (World.block_lt_of_cell? _ _ k2')).trans k2'; have hb := below_then hb hb2)
          | (go_at_call 147; refine (compare_any _ _ _).mono ?_; rintro e w' ⟨rfl, rfl⟩))
        all_goals
          go_wp2_with fail
          go_ret
          exact ⟨ret_int (by rw [hz.out, if_neg HC.out]), hb⟩
    · have hz : Hid (cmpO ⟨t, l⟩ ⟨t', l'⟩ = cmpI l l') := if_pos (HK0.out.resolve_left (by omega))
      by_cases hc : cmpI l l' = 0
      · have hc1 := is_err hc
        have HC := hide hc
        clear hc
        go_wp2_with fail
        have hb := hb.drew
        go_region_held3 (fun w' => w'.cell? ⟨w.heap.size, 0, none⟩ = some (.int .i64 t) ∧ w'.cell? ⟨w.heap.size, 1, none⟩ = some (.int .i64 l) ∧ w'.cell? ⟨w.heap.size + 1, 0, none⟩ = some (.int .i64 t') ∧ w'.cell? ⟨w.heap.size + 1, 1, none⟩ = some (.int .i64 l')) (first | exact ⟨c0, c1, c2, c3⟩) (first
          | (go_at_call 126; refine (key1_any _ _ _).mono ?_; rintro e w2 ⟨rfl, hb2⟩; have c0 := (hb2.cell (World.block_lt_of_cell? _ _ c0)).trans c0; have c1 := (hb2.cell (World.block_lt_of_cell? _ _ c1)).trans c1; have c2 := (hb2.cell (World.block_lt_of_cell? _ _ c2)).trans c2; have c3 := (hb2.cell (World.block_lt_of_cell? _ _ c3)).trans c3; have k0' := (hb2.cell (World.block_lt_of_cell? _ _ k0')).trans k0'; have k1' := (hb2.cell (World.block_lt_of_cell? _ _ k1')).trans k1'; have k2' := (hb2.cell (World.block_lt_of_cell? _ _ k2')).trans k2'; have hb := below_then hb hb2)
          | (go_at_call 127; refine (key2_any _ _ _).mono ?_; rintro e w2 ⟨rfl, hb2⟩; have c0 := (hb2.cell (World.block_lt_of_cell? _ _ c0)).trans c0; have c1 := (hb2.cell (World.block_lt_of_cell? _ _ c1)).trans c1; have c2 := (hb2.cell (World.block_lt_of_cell? _ _ c2)).trans c2; have c3 := (hb2.cell (World.block_lt_of_cell? _ _ c3)).trans c3; have k0' := (hb2.cell (World.block_lt_of_cell? _ _ k0')).trans k0'; have k1' := (hb2.cell (World.block_lt_of_cell? _ _ k1')).trans k1'; have k2' := (hb2.cell (World.block_lt_of_cell? _ _ k2')).trans k2'; have hb := below_then hb hb2)
          | (go_at_call 147; refine (compare_any _ _ _).mono ?_; rintro e w' ⟨rfl, rfl⟩))
        all_goals
          go_wp2_with fail
          go_roundw
          case rel => exact ⟨2, by omega, by go_num, .inr (HK0.out.resolve_left (by omega)), .inr HC.out, ⟨c0, c1, c2, c3, k0', k1', k2'⟩, hb⟩
          case measure => simp [intOf]
      · have hc1 := not_err hc
        have HC := hide hc
        clear hc
        go_wp2_with fail
        have hb := hb.drew
        go_region_held3 (fun w' => w'.cell? ⟨w.heap.size, 0, none⟩ = some (.int .i64 t) ∧ w'.cell? ⟨w.heap.size, 1, none⟩ = some (.int .i64 l) ∧ w'.cell? ⟨w.heap.size + 1, 0, none⟩ = some (.int .i64 t') ∧ w'.cell? ⟨w.heap.size + 1, 1, none⟩ = some (.int .i64 l')) (first | exact ⟨c0, c1, c2, c3⟩) (first
          | (go_at_call 126; refine (key1_any _ _ _).mono ?_; rintro e w2 ⟨rfl, hb2⟩; have c0 := (hb2.cell (World.block_lt_of_cell? _ _ c0)).trans c0; have c1 := (hb2.cell (World.block_lt_of_cell? _ _ c1)).trans c1; have c2 := (hb2.cell (World.block_lt_of_cell? _ _ c2)).trans c2; have c3 := (hb2.cell (World.block_lt_of_cell? _ _ c3)).trans c3; have k0' := (hb2.cell (World.block_lt_of_cell? _ _ k0')).trans k0'; have k1' := (hb2.cell (World.block_lt_of_cell? _ _ k1')).trans k1'; have k2' := (hb2.cell (World.block_lt_of_cell? _ _ k2')).trans k2'; have hb := below_then hb hb2)
          | (go_at_call 127; refine (key2_any _ _ _).mono ?_; rintro e w2 ⟨rfl, hb2⟩; have c0 := (hb2.cell (World.block_lt_of_cell? _ _ c0)).trans c0; have c1 := (hb2.cell (World.block_lt_of_cell? _ _ c1)).trans c1; have c2 := (hb2.cell (World.block_lt_of_cell? _ _ c2)).trans c2; have c3 := (hb2.cell (World.block_lt_of_cell? _ _ c3)).trans c3; have k0' := (hb2.cell (World.block_lt_of_cell? _ _ k0')).trans k0'; have k1' := (hb2.cell (World.block_lt_of_cell? _ _ k1')).trans k1'; have k2' := (hb2.cell (World.block_lt_of_cell? _ _ k2')).trans k2'; have hb := below_then hb hb2)
          | (go_at_call 147; refine (compare_any _ _ _).mono ?_; rintro e w' ⟨rfl, rfl⟩))
        all_goals
          go_wp2_with fail
          go_ret
          exact ⟨ret_int (by rw [hz.out]), hb⟩
    · have hz : Hid (cmpO ⟨t, l⟩ ⟨t', l'⟩ = 0) := (if_pos (HK0.out.resolve_left (by omega))).trans (HK1.out.resolve_left (by omega))
      go_wp2_with fail
      go_ret
      exact ⟨ret_int hz.out.symm, hb⟩

end Go.Proofs.Ytmjcjmljnliaoaa

/-
  The reference's error of the list of a vertex: around.
  The degree is the number of half-edges: plain Lean.
  The reference's Reached: the vertices that are connected with one.
  The reference's Parts, Connected, Joined.
  The reference's Connected and Joined.
  The reference's Check of ribbon graphs, and ribbon.Check.
  Rotor configurations: Check of the program and of the reference.
  slices.Clone of ints.
  A board: the rotors with the vertices to which the half-edges lead; a step.
  boardOf and at: a right rotor configuration's board.
  boardOf and at, where there is no board; at, where there is one.
  chips.Check, rotor.given.
  stabilize.rooted, stabilize.Check.
  network.Sandpile.
  network.Sandpile.
  network.turner: the processor of a rotor.
  Right rotors: what a step does to them (plain law), and the program's Step.
  network.Router.
  Networks: the check of picks.
-/
import Derived.Test.YtnigfddanoaonaaGreatNr4
import Derived.BigQuiet
import Derived.RangeFuncBox
import Derived.Deep.RegionHeld3
import Derived.Deep.RegionWith
import Derived.Laws.MakeOwn
import Derived.Deep.RegionLaw

set_option linter.unusedVariables false
set_option linter.unusedSimpArgs false
set_option linter.unnecessarySimpa false
namespace Go.Proofs.YtnigfddanoaonaaGreat
open Go.RowKit

theorem SliceR.drew1 {α : Type} {R : Rep α} {sz : Nat} {F : Foot} {w : World} {oa : Option Addr} {xs : List α} (h : SliceR R sz F w oa xs) (ok : RepOk R sz) : SliceR R sz F w.drew oa xs := h.keep ok fun _ _ _ => rfl
theorem halfU_mem {l : List (Int × Int)} {H v : Nat} {x : Int} : x ∈ halfU l H v ↔ ∃ h : Nat, x = h ∧ h < H ∧ hv l h = (v : Int) := by
  simp only [halfU, List.mem_map, List.mem_filter, List.mem_range, beq_iff_eq]
  constructor
  · rintro ⟨h, ⟨h1, h2⟩, rfl⟩; exact ⟨h, rfl, h1, h2⟩
  · rintro ⟨h, rfl, h1, h2⟩; exact ⟨h, ⟨h1, h2⟩, rfl⟩

theorem scanE_zero {own : List Int} : ∀ {l pre : List Int}, scanE own pre l = 0 → pre.Nodup → (∀ x ∈ pre, x ∈ own) → (pre ++ l).Nodup ∧ ∀ x ∈ l, x ∈ own
  | [], pre, _, hn, _ => by simpa using hn
  | x :: r, pre, h, hn, hp => by
    rw [scanE_cons] at h
    by_cases h1 : x ∈ own
    · rw [if_pos h1] at h
      by_cases h2 : x ∈ pre
      · rw [if_pos h2] at h; cases h
      · rw [if_neg h2] at h
        have hn2 : (pre ++ [x]).Nodup := by
          rw [List.nodup_append]
          exact ⟨hn, by simp, fun a ha b hb => by simp at hb; subst hb; exact fun e => h2 (e ▸ ha)⟩
        have := scanE_zero h hn2 (fun y hy => by
          rcases List.mem_append.1 hy with h3 | h3
          · exact hp y h3
          · simp at h3; subst h3; exact h1)
        refine ⟨by simpa using this.1, fun y hy => ?_⟩
        rcases List.mem_cons.1 hy with h3 | h3
        · subst h3; exact h1
        · exact this.2 y h3
    · rw [if_neg h1] at h; cases h

theorem mem_all {l m : List Int} (hl : l.Nodup) (hs : ∀ x ∈ l, x ∈ m) (hlen : m.length ≤ l.length) : ∀ x ∈ m, x ∈ l := by
  induction l generalizing m with
  | nil =>
    intro x hx
    have : m = [] := List.eq_nil_of_length_eq_zero (by simpa using hlen)
    subst this
    exact hx
  | cons y r ih =>
    intro x hx
    rw [List.nodup_cons] at hl
    by_cases e : x = y
    · subst e; simp
    · have hym : y ∈ m := hs y (by simp)
      have := ih (m := m.erase y) hl.2 (fun z hz => (List.mem_erase_of_ne (fun e : z = y => hl.1 (e ▸ hz))).2 (hs z (by simp [hz]))) (by
        rw [List.length_erase_of_mem hym]
        have : (y :: r).length = r.length + 1 := rfl
        omega) x ((List.mem_erase_of_ne e).2 hx)
      simp [this]

/-- The first of a list of the same numbers is the least exactly if none is less. -/
theorem head_least {l own : List Int} (hlen : l.length = own.length) (hs : scanE own [] l = 0) (hp : own.Pairwise (· < ·)) {x : Int} (hx : l[0]? = some x) :
    l.head? = own.head? ↔ ∀ (i : Nat) (y : Int), l[i]? = some y → x ≤ y := by
  obtain ⟨hnd, hsub⟩ := scanE_zero hs (by simp) (by simp)
  simp at hnd
  have hall := mem_all hnd hsub (by omega)
  cases own with
  | nil => exact absurd (hsub x (List.mem_of_getElem? hx)) (by simp)
  | cons o r =>
    have ho := hall o (by simp)
    rw [List.pairwise_cons] at hp
    have hxm := hsub x (List.mem_of_getElem? hx)
    rw [List.head?_eq_getElem?, hx]
    simp only [List.head?_cons, Option.some.injEq]
    constructor
    · rintro rfl i y hy
      have hym := hsub y (List.mem_of_getElem? hy)
      rcases List.mem_cons.1 hym with h | h
      · omega
      · have := hp.1 y h; omega
    · intro h
      obtain ⟨i, hi, he⟩ := List.getElem_of_mem ho
      have h1 := h i o (by rw [List.getElem?_eq_getElem hi, he])
      rcases List.mem_cons.1 hxm with h2 | h2
      · exact h2
      · have := hp.1 x h2; omega

set_option maxRecDepth 100000 in
set_option maxHeartbeats 8000000 in
theorem raround_any (n : Nat) (es : List Edg) (oe : Option Addr) (c : Nat) (F : Foot) (w : World) (hs : SliceR edgR 3 F w oe es) (hc : es.length ≤ c) (hc2 : es.length ≤ 1000) (hV : Hid (gErr n es = 0))
    (v : Nat) (l : List Int) (ol : Option Addr) (cl : Nat) (G : Foot) (hl : SliceR intR 1 G w ol l) (hcl : l.length ≤ cl) (hll : l.length ≤ 9223372036854775807) (own : List Int)
    (hown : Hid (own = halfU (endsL es) (2 * (endsL es).length) v)) (hdeg : Hid (degU n es v = (own.length : Nat))) :
    Calls Tryz.prog 135 #[.agg #[.int .i64 n, .slice oe es.length c], .int .i64 v, .slice ol l.length cl] w (ErrPost w (listE l own)) := by
  have hn : n ≤ 12 := by have := (gErr_zero hV.out).1; omega
  have hm1 : Hid (∀ x ∈ es, 0 ≤ x.m ∧ x.m ≤ 50) := fun x hx => by have := (gErr_zero hV.out).2.1 x hx; omega
  have hm2 : Hid (∀ x ∈ es, x.m ≤ 50) := fun x hx => (hm1.out x hx).2
  have hcap : (endsL es).length ≤ 50000 := by have := endsL_len hm2.out; omega
  have hol : own.length ≤ 2 * (endsL es).length := by rw [hown.out]; exact halfU_len _ _ _
  have hMEM : Hid (∀ x : Int, x ∈ own ↔ ∃ h : Nat, x = h ∧ h < 2 * (endsL es).length ∧ hv (endsL es) h = (v : Int)) := fun x => by rw [hown.out]; exact halfU_mem
  have hup : Hid (own.Pairwise (· < ·)) := by show List.Pairwise _ _; rw [hown.out]; exact halfU_up _ _ _
  have hHalf := fun W (h : Below w.heap.size w W) => rhalf_any n es oe c F W (hs.below edgR_ok h) hc hc2 hm2
  have hAT := hide (fun W (h : Below w.heap.size w W) (q : Nat) (hq : q < 2 * (endsL es).length) => rat_any n es oe c F W (hs.below edgR_ok h) hc hc2 hm2 q hq)
  generalize endsL es = E at *
  generalize hH : 2 * E.length = H at *
  have hH2 : H ≤ 100000 := by omega
  clear hH hcap
  go_enter Tryz.func135, Tryz.ntmps135
  go_wp2_with fail
  have hbx := box_refl w (.cells #[.int .i64 n, .slice oe es.length c] 43)
  refine (deg_any n hn es oe c F _ (hs.below edgR_ok (below_box hbx)) hc hc2 hm1 v).mono ?_
  rintro e w2 ⟨rfl, hb2⟩
  have hbx := hb2.mono (B' := w.heap.size + 1) (by simp)
  clear hb2
  rw [hdeg.out]
  by_cases hlen : l.length = own.length
  · have HE : Hid (listE l own = if scanE own [] l = 0 then (if l.head? = own.head? then 0 else 9) else scanE own [] l) := if_pos hlen
    have hq : ((l.length : Int) != (own.length : Int)) = false := by simp [hlen]
    have hlo : l.length ≤ 100000 := by omega
    have HLen := hide hlen
    clear hlen
    go_wp2_with fail
    go_loopw [7] (fun iv wr => ∃ k : Nat, k ≤ l.length ∧ iv = .int .i64 k ∧ Hid (scanE own [] l = scanE own (l.take k) (l.drop k)) ∧ Below (w.heap.size + 1) (w.alloc (.cells #[.int .i64 n, .slice oe es.length c] 43)) wr) (fun iv _ => l.length - (intOf iv).toNat)
    case atStart => exact ⟨0, by omega, rfl, rfl, hbx⟩
    case round =>
      clear hbx
      obtain ⟨k, hk, rfl, HS, hbx⟩ := hrel
      have d0 := box_cell hbx 0
      have d1 := box_cell hbx 1
      simp at d0 d1
      have hlr := hl.below intR_ok (below_box hbx)
      by_cases hlt : k < l.length
      · obtain ⟨x, hd, hget, ix, b, off, hoa, _, c0⟩ := hlr.int_at hlt
        have hlp : (l.take k).length = k := by rw [List.length_take]; omega
        have HP : Hid (l.take k ++ [x] = l.take (k + 1)) := by show _ = _; rw [List.take_add_one, hget]; rfl
        have hSS := HS.out
        rw [hd, scanE_cons] at hSS
        have HS2 := hide hSS
        have hcon := fun W (hW : SliceR intR 1 G W ol (l.take k)) => holds_any x (l.take k) ol cl G W hW (by rw [hlp]; omega) (by rw [hlp]; omega)
        simp only [hlp] at hcon
        clear hSS hd hget
        have hE2 : ∀ A : Int, scanE own [] l = A → A ≠ 0 → listE l own = A := fun A h1 h2 => by rw [HE.out, h1, if_neg h2]
        have HE2 := hide hE2
        clear hE2
        subst hoa
        by_cases hx0 : x < 0
        · have HR : Hid (listE l own = 2) := HE2.out 2 (by
            have h := HS2.out
            rw [if_neg (fun hm => by obtain ⟨h, rfl, _⟩ := (hMEM.out x).1 hm; omega)] at h
            exact h) (by decide)
          have q1 : decide (x < 0) = true := by simp [hx0]
          go_wp2_with fail
          go_quiet (fail)
          go_wp2_with fail
          go_ret
          exact ⟨ret_int HR.out.symm, below_drewN (below_box hbx) _⟩
        · obtain ⟨X, rfl⟩ := Int.eq_ofNat_of_zero_le (show 0 ≤ x by omega)
          have q1 : decide ((X : Int) < 0) = false := by simp
          by_cases hXH : X < H
          · have hAt := fun W (h : Below w.heap.size w W) => hAT.out W h X hXH
            have hin : Hid (((X : Int) ∈ own) ↔ hv E X = (v : Int)) := (hMEM.out (X : Int)).trans ⟨fun ⟨h, h1, h2, h3⟩ => by
              have : X = h := by omega
              subst this
              exact h3, fun h => ⟨X, rfl, hXH, h⟩⟩
            have HX0 := hide hx0
            have q5 : decide ((H : Int) ≤ (X : Int)) = false := by simp; omega
            have q6 : decide (H ≤ X) = false := by simp; omega
            clear hx0
            generalize hv E X = t at hAt hin
            by_cases htv : t = (v : Int)
            · have hmem : Hid ((X : Int) ∈ own) := hin.out.2 htv
              have q3 : (t != (v : Int)) = false := by simp [htv]
              have HTV := hide htv
              clear htv
              go_wp2_with fail
              go_region_held3 (fun w' => w'.cell? ⟨w.heap.size, 0, none⟩ = some (.int .i64 n) ∧ w'.cell? ⟨w.heap.size, 1, none⟩ = some (.slice oe es.length c) ∧ w'.cell? ⟨b, off + k, none⟩ = some (.int .i64 X)) (first | exact ⟨d0, d1, c0⟩) (first
                | (go_at_call 154; refine (hHalf _ (below_box hbx)).mono ?_; rintro e w5 ⟨rfl, h5⟩; have d0 := (h5.cell (World.block_lt_of_cell? _ _ d0)).trans d0; have d1 := (h5.cell (World.block_lt_of_cell? _ _ d1)).trans d1; have c0 := (h5.cell (World.block_lt_of_cell? _ _ c0)).trans c0; have hbx := box_then hbx (by simp) h5)
                | (go_at_call 154; refine (hHalf _ (below_box hbx.drew)).mono ?_; rintro e w5 ⟨rfl, h5⟩; have d0 := (h5.cell (World.block_lt_of_cell? _ _ d0)).trans d0; have d1 := (h5.cell (World.block_lt_of_cell? _ _ d1)).trans d1; have c0 := (h5.cell (World.block_lt_of_cell? _ _ c0)).trans c0; have hbx := box_then hbx.drew (by simp) h5)
                | (go_at_call 155; refine (hAt _ (below_box hbx)).mono ?_; rintro e w5 ⟨rfl, h5⟩; have d0 := (h5.cell (World.block_lt_of_cell? _ _ d0)).trans d0; have d1 := (h5.cell (World.block_lt_of_cell? _ _ d1)).trans d1; have c0 := (h5.cell (World.block_lt_of_cell? _ _ c0)).trans c0; have hbx := box_then hbx (by simp) h5)
                | (go_at_call 155; refine (hAt _ (below_box hbx.drew)).mono ?_; rintro e w5 ⟨rfl, h5⟩; have d0 := (h5.cell (World.block_lt_of_cell? _ _ d0)).trans d0; have d1 := (h5.cell (World.block_lt_of_cell? _ _ d1)).trans d1; have c0 := (h5.cell (World.block_lt_of_cell? _ _ c0)).trans c0; have hbx := box_then hbx.drew (by simp) h5))
              all_goals
                have hpre := (hl.below intR_ok (below_box hbx)).pre k
                have hkcl : k ≤ cl := by omega
                by_cases hxp : (X : Int) ∈ l.take k
                · have q2 : decide ((X : Int) ∈ l.take k) = true := by simp [hxp]
                  have HR : Hid (listE l own = 7) := HE2.out 7 (by
                    have h := HS2.out
                    rw [if_pos hmem.out, if_pos hxp] at h
                    exact h) (by decide)
                  have hc7 := fun W (h : SliceR intR 1 G W (some ⟨b, off, none⟩) (l.take k)) => (hcon W h).mono (fun e w' (h : e = .returned (.bool (decide ((X : Int) ∈ l.take k))) ∧ W = w') => (show e = .returned (.bool true) ∧ W = w' from ⟨h.1.trans (by rw [q2]), h.2⟩))
                  clear hxp q2
                  go_wp2_with fail
                  go_region_held3 (fun w' => w'.cell? ⟨b, off + k, none⟩ = some (.int .i64 X)) (first | exact c0) (first
                    | (go_at_call 156; refine (hc7 _ hpre).mono ?_; rintro e w7 ⟨rfl, rfl⟩)
                    | (go_at_call 156; refine (hc7 _ (hpre.drew1 intR_ok)).mono ?_; rintro e w7 ⟨rfl, rfl⟩))
                  all_goals
                    go_wp2_with fail
                    go_ret
                    exact ⟨ret_int HR.out.symm, below_box hbx.drew⟩
                · have q2 : decide ((X : Int) ∈ l.take k) = false := by simp [hxp]
                  have HS3 : Hid (scanE own [] l = scanE own (l.take (k + 1)) (l.drop (k + 1))) := by
                    show _ = _
                    have h := HS2.out
                    rw [if_pos hmem.out, if_neg hxp, HP.out] at h
                    exact h
                  have hc7 := fun W (h : SliceR intR 1 G W (some ⟨b, off, none⟩) (l.take k)) => (hcon W h).mono (fun e w' (h : e = .returned (.bool (decide ((X : Int) ∈ l.take k))) ∧ W = w') => (show e = .returned (.bool false) ∧ W = w' from ⟨h.1.trans (by rw [q2]), h.2⟩))
                  clear hxp q2
                  go_wp2_with fail
                  go_region_held3 (fun w' => w'.cell? ⟨b, off + k, none⟩ = some (.int .i64 X)) (first | exact c0) (first
                    | (go_at_call 156; refine (hc7 _ hpre).mono ?_; rintro e w7 ⟨rfl, rfl⟩)
                    | (go_at_call 156; refine (hc7 _ (hpre.drew1 intR_ok)).mono ?_; rintro e w7 ⟨rfl, rfl⟩))
                  all_goals
                    go_wp2_with fail
                    go_roundw
                    case rel => exact ⟨k + 1, by omega, by go_num, HS3, hbx.drew⟩
                    case measure => simp [intOf]; omega
            · have HR : Hid (listE l own = 2) := HE2.out 2 (by
                have h := HS2.out
                rw [if_neg (fun hm => htv (hin.out.1 hm))] at h
                exact h) (by decide)
              have q3 : (t != (v : Int)) = true := by simp [htv]
              have HTV := hide htv
              clear htv
              go_wp2_with fail
              go_region_held3 (fun w' => w'.cell? ⟨w.heap.size, 0, none⟩ = some (.int .i64 n) ∧ w'.cell? ⟨w.heap.size, 1, none⟩ = some (.slice oe es.length c) ∧ w'.cell? ⟨b, off + k, none⟩ = some (.int .i64 X)) (first | exact ⟨d0, d1, c0⟩) (first
                | (go_at_call 154; refine (hHalf _ (below_box hbx)).mono ?_; rintro e w5 ⟨rfl, h5⟩; have d0 := (h5.cell (World.block_lt_of_cell? _ _ d0)).trans d0; have d1 := (h5.cell (World.block_lt_of_cell? _ _ d1)).trans d1; have c0 := (h5.cell (World.block_lt_of_cell? _ _ c0)).trans c0; have hbx := box_then hbx (by simp) h5)
                | (go_at_call 154; refine (hHalf _ (below_box hbx.drew)).mono ?_; rintro e w5 ⟨rfl, h5⟩; have d0 := (h5.cell (World.block_lt_of_cell? _ _ d0)).trans d0; have d1 := (h5.cell (World.block_lt_of_cell? _ _ d1)).trans d1; have c0 := (h5.cell (World.block_lt_of_cell? _ _ c0)).trans c0; have hbx := box_then hbx.drew (by simp) h5)
                | (go_at_call 155; refine (hAt _ (below_box hbx)).mono ?_; rintro e w5 ⟨rfl, h5⟩; have d0 := (h5.cell (World.block_lt_of_cell? _ _ d0)).trans d0; have d1 := (h5.cell (World.block_lt_of_cell? _ _ d1)).trans d1; have c0 := (h5.cell (World.block_lt_of_cell? _ _ c0)).trans c0; have hbx := box_then hbx (by simp) h5)
                | (go_at_call 155; refine (hAt _ (below_box hbx.drew)).mono ?_; rintro e w5 ⟨rfl, h5⟩; have d0 := (h5.cell (World.block_lt_of_cell? _ _ d0)).trans d0; have d1 := (h5.cell (World.block_lt_of_cell? _ _ d1)).trans d1; have c0 := (h5.cell (World.block_lt_of_cell? _ _ c0)).trans c0; have hbx := box_then hbx.drew (by simp) h5))
              all_goals
                go_wp2_with fail
                go_ret
                exact ⟨ret_int HR.out.symm, below_box hbx⟩
          · have HR : Hid (listE l own = 2) := HE2.out 2 (by
              have h := HS2.out
              rw [if_neg (fun hm => by obtain ⟨q, h1, h2, _⟩ := (hMEM.out (X : Int)).1 hm; omega)] at h
              exact h) (by decide)
            have HX0 := hide hx0
            have q5 : decide ((H : Int) ≤ (X : Int)) = true := by simp; omega
            have q6 : decide (H ≤ X) = true := by simp; omega
            have q7 : decide ((X : Int) < (H : Int)) = false := by simp; omega
            have q8 : decide (X < H) = false := by simp; omega
            clear hx0
            go_wp2_with fail
            refine wp_region_held_drew (S := fun w' => w'.cell? ⟨w.heap.size, 0, none⟩ = some (.int .i64 n) ∧ w'.cell? ⟨w.heap.size, 1, none⟩ = some (.slice oe es.length c) ∧ w'.cell? ⟨b, off + k, none⟩ = some (.int .i64 X)) (by kernel_rfl) ⟨d0, d1, c0⟩ (fun hHeld => ?_)
            refine wpAnyH_take (i := 0) (oi := { dst := some 21, op := Op.move (Operand.tmp 2), type := 23, pos := "ref.go:37", after := #[], guard := none }) (v := ?_) rfl (by kernel_rfl) (by kernel_rfl) (by kernel_rfl) (fun _ _ _ h => h) (Or.inl ⟨by rfl, ?_⟩) (by assumption) ?_
            rotate_left
            · intro w hSw; (try dsimp only at hSw); go_simp; (try with_reducible rfl)
            try simp only [Act.put, List.setIfInBounds_toArray, List.set_cons_zero, List.set_cons_succ]
            refine wpAnyH_take (i := 1) (oi := { dst := some 22, op := Op.move (Operand.tmp 7), type := 3, pos := "ref.go:37", after := #[], guard := none }) (v := ?_) rfl (by kernel_rfl) (by kernel_rfl) (by kernel_rfl) (fun _ _ _ h => h) (Or.inl ⟨by rfl, ?_⟩) (by assumption) ?_
            rotate_left
            · intro w hSw; (try dsimp only at hSw); go_simp; (try with_reducible rfl)
            try simp only [Act.put, List.setIfInBounds_toArray, List.set_cons_zero, List.set_cons_succ]
            refine wpAnyH_take (i := 2) (oi := { dst := some 23, op := Op.indexAddr 23 (Operand.tmp 21) (Operand.tmp 22), type := 0, pos := "ref.go:37", after := #[{ on := 0, ground := Ground.data }, { on := 1, ground := Ground.data }], guard := none }) (v := ?_) rfl (by kernel_rfl) (by kernel_rfl) (by kernel_rfl) (fun _ _ _ h => h) (Or.inl ⟨by rfl, ?_⟩) (by assumption) ?_
            rotate_left
            · intro w hSw; (try dsimp only at hSw); go_simp; (try with_reducible rfl)
            try simp only [Act.put, List.setIfInBounds_toArray, List.set_cons_zero, List.set_cons_succ]
            refine wpAnyH_take (i := 3) (oi := { dst := some 24, op := Op.load 3 (Operand.tmp 23), type := 3, pos := "ref.go:37", after := #[{ on := 2, ground := Ground.data }], guard := none }) (v := ?_) rfl (by kernel_rfl) (by kernel_rfl) (by kernel_rfl) (fun _ _ _ h => h) (Or.inl ⟨by rfl, ?_⟩) (by assumption) ?_
            rotate_left
            · intro w hSw; (try dsimp only at hSw); go_simp; (try with_reducible rfl)
            try simp only [Act.put, List.setIfInBounds_toArray, List.set_cons_zero, List.set_cons_succ]
            refine wpAnyH_take (i := 4) (oi := { dst := some 25, op := Op.binOp BinOp.lss 3 (Operand.tmp 24) (Operand.const (Value.int IntKind.i64 0)) 3, type := 4, pos := "ref.go:37", after := #[{ on := 3, ground := Ground.data }], guard := none }) (v := ?_) rfl (by kernel_rfl) (by kernel_rfl) (by kernel_rfl) (fun _ _ _ h => h) (Or.inl ⟨by rfl, ?_⟩) (by assumption) ?_
            rotate_left
            · intro w hSw; (try dsimp only at hSw); go_simp; (try with_reducible rfl)
            try simp only [Act.put, List.setIfInBounds_toArray, List.set_cons_zero, List.set_cons_succ]
            refine wpAnyH_take (i := 5) (oi := { dst := some 26, op := Op.move (Operand.tmp 25), type := 4, pos := "ref.go:37", after := #[{ on := 4, ground := Ground.data }], guard := none }) (v := ?_) rfl (by kernel_rfl) (by kernel_rfl) (by kernel_rfl) (fun _ _ _ h => h) (Or.inl ⟨by rfl, ?_⟩) (by assumption) ?_
            rotate_left
            · intro w hSw; (try dsimp only at hSw); go_simp; (try with_reducible rfl)
            try simp only [Act.put, List.setIfInBounds_toArray, List.set_cons_zero, List.set_cons_succ]
            refine wpAnyH_take (i := 6) (oi := { dst := some 27, op := Op.move (Operand.tmp 2), type := 23, pos := "ref.go:37", after := #[{ on := 5, ground := Ground.guard }], guard := some (5, false) }) (v := ?_) rfl (by kernel_rfl) (by kernel_rfl) (by kernel_rfl) (fun _ _ _ h => h) (Or.inl ⟨by rfl, ?_⟩) (by assumption) ?_
            rotate_left
            · intro w hSw; (try dsimp only at hSw); go_simp; (try with_reducible rfl)
            try simp only [Act.put, List.setIfInBounds_toArray, List.set_cons_zero, List.set_cons_succ]
            refine wpAnyH_take (i := 7) (oi := { dst := some 28, op := Op.move (Operand.tmp 7), type := 3, pos := "ref.go:37", after := #[{ on := 5, ground := Ground.guard }], guard := some (5, false) }) (v := ?_) rfl (by kernel_rfl) (by kernel_rfl) (by kernel_rfl) (fun _ _ _ h => h) (Or.inl ⟨by rfl, ?_⟩) (by assumption) ?_
            rotate_left
            · intro w hSw; (try dsimp only at hSw); go_simp; (try with_reducible rfl)
            try simp only [Act.put, List.setIfInBounds_toArray, List.set_cons_zero, List.set_cons_succ]
            refine wpAnyH_take (i := 8) (oi := { dst := some 29, op := Op.indexAddr 23 (Operand.tmp 27) (Operand.tmp 28), type := 0, pos := "ref.go:37", after := #[{ on := 6, ground := Ground.data }, { on := 7, ground := Ground.data }, { on := 5, ground := Ground.guard }], guard := some (5, false) }) (v := ?_) rfl (by kernel_rfl) (by kernel_rfl) (by kernel_rfl) (fun _ _ _ h => h) (Or.inl ⟨by rfl, ?_⟩) (by assumption) ?_
            rotate_left
            · intro w hSw; (try dsimp only at hSw); go_simp; (try with_reducible rfl)
            try simp only [Act.put, List.setIfInBounds_toArray, List.set_cons_zero, List.set_cons_succ]
            refine wpAnyH_take (i := 9) (oi := { dst := some 30, op := Op.load 3 (Operand.tmp 29), type := 3, pos := "ref.go:37", after := #[{ on := 8, ground := Ground.data }, { on := 5, ground := Ground.guard }], guard := some (5, false) }) (v := ?_) rfl (by kernel_rfl) (by kernel_rfl) (by kernel_rfl) (fun _ _ _ h => h) (Or.inl ⟨by rfl, ?_⟩) (by assumption) ?_
            rotate_left
            · intro w hSw; (try dsimp only at hSw); go_simp; (try with_reducible rfl)
            try simp only [Act.put, List.setIfInBounds_toArray, List.set_cons_zero, List.set_cons_succ]
            refine wpAnyH_take (i := 10) (oi := { dst := some 31, op := Op.load 43 (Operand.tmp 3), type := 43, pos := "ref.go:37", after := #[{ on := 5, ground := Ground.guard }], guard := some (5, false) }) (v := ?_) rfl (by kernel_rfl) (by kernel_rfl) (by kernel_rfl) (fun _ _ _ h => h) (Or.inl ⟨by rfl, ?_⟩) (by assumption) ?_
            rotate_left
            · intro w hSw; (try dsimp only at hSw); go_simp; (try with_reducible rfl)
            try simp only [Act.put, List.setIfInBounds_toArray, List.set_cons_zero, List.set_cons_succ]
            refine wpAnyH_ready (rs := [11]) (by kernel_rfl) (by simp) ?_
            refine AllReadyH.cons (o := { dst := some 32, op := Op.call { callee := Callee.value (Operand.func 154), args := #[Operand.tmp 31], argTypes := #[43] }, type := 3, pos := "ref.go:37", after := #[{ on := 10, ground := Ground.data }, { on := 5, ground := Ground.chain }, { on := 5, ground := Ground.guard }], guard := some (5, false) }) rfl (fun K hK => ?_) AllReadyH.nil
            go_simp
            go_at_call 154; refine (hHalf _ (below_box hbx.drew)).mono ?_
            rintro e w5 ⟨rfl, h5⟩
            have d0 := (h5.cell (World.block_lt_of_cell? _ _ d0)).trans d0
            have d1 := (h5.cell (World.block_lt_of_cell? _ _ d1)).trans d1
            have c0 := (h5.cell (World.block_lt_of_cell? _ _ c0)).trans c0
            have hbx := box_then hbx.drew (by simp) h5
            try dsimp only
            refine hK.out _ _ ⟨d0, d1, c0⟩ (fun hHeld => ?_)
            clear hK K
            try simp only [Act.put, List.setIfInBounds_toArray, List.set_cons_zero, List.set_cons_succ]
            refine wpAnyH_take (i := 12) (oi := { dst := some 33, op := Op.binOp BinOp.geq 3 (Operand.tmp 30) (Operand.tmp 32) 3, type := 4, pos := "ref.go:37", after := #[{ on := 9, ground := Ground.data }, { on := 11, ground := Ground.data }, { on := 5, ground := Ground.guard }], guard := some (5, false) }) (v := ?_) rfl (by kernel_rfl) (by kernel_rfl) (by kernel_rfl) (fun _ _ _ h => h) (Or.inl ⟨by rfl, ?_⟩) (by assumption) ?_
            rotate_left
            · intro w hSw; (try dsimp only at hSw); go_simp; (try with_reducible rfl)
            try simp only [Act.put, List.setIfInBounds_toArray, List.set_cons_zero, List.set_cons_succ]
            refine wpAnyH_take (i := 13) (oi := { dst := some 34, op := Op.pick (Operand.tmp 26) (Operand.const (Value.bool true)) (Operand.tmp 33), type := 4, pos := "ref.go:37", after := #[{ on := 5, ground := Ground.data }, { on := 12, ground := Ground.data }], guard := none }) (v := ?_) rfl (by kernel_rfl) (by kernel_rfl) (by kernel_rfl) (fun _ _ _ h => h) (Or.inl ⟨by rfl, ?_⟩) (by assumption) ?_
            rotate_left
            · intro w hSw; (try dsimp only at hSw); go_simp; (try with_reducible rfl)
            try simp only [Act.put, List.setIfInBounds_toArray, List.set_cons_zero, List.set_cons_succ]
            refine wpAnyH_take (i := 14) (oi := { dst := some 35, op := Op.move (Operand.tmp 34), type := 4, pos := "ref.go:37", after := #[{ on := 13, ground := Ground.data }, { on := 11, ground := Ground.chain }], guard := none }) (v := ?_) rfl (by kernel_rfl) (by kernel_rfl) (by kernel_rfl) (fun _ _ _ h => h) (Or.inl ⟨by rfl, ?_⟩) (by assumption) ?_
            rotate_left
            · intro w hSw; (try dsimp only at hSw); go_simp; (try with_reducible rfl)
            try simp only [Act.put, List.setIfInBounds_toArray, List.set_cons_zero, List.set_cons_succ]
            refine wpAnyH_take (i := 15) (oi := { dst := some 36, op := Op.load 43 (Operand.tmp 3), type := 43, pos := "ref.go:37", after := #[{ on := 14, ground := Ground.guard }], guard := some (14, false) }) (v := undef) rfl (by kernel_rfl) (by kernel_rfl) (by kernel_rfl) (fun _ _ _ h => h) (Or.inr ⟨by rfl, rfl⟩) (by assumption) ?_
            try simp only [Act.put, List.setIfInBounds_toArray, List.set_cons_zero, List.set_cons_succ]
            refine wpAnyH_take (i := 16) (oi := { dst := some 37, op := Op.move (Operand.tmp 2), type := 23, pos := "ref.go:37", after := #[{ on := 14, ground := Ground.guard }], guard := some (14, false) }) (v := undef) rfl (by kernel_rfl) (by kernel_rfl) (by kernel_rfl) (fun _ _ _ h => h) (Or.inr ⟨by rfl, rfl⟩) (by assumption) ?_
            try simp only [Act.put, List.setIfInBounds_toArray, List.set_cons_zero, List.set_cons_succ]
            refine wpAnyH_take (i := 17) (oi := { dst := some 38, op := Op.move (Operand.tmp 7), type := 3, pos := "ref.go:37", after := #[{ on := 14, ground := Ground.guard }], guard := some (14, false) }) (v := undef) rfl (by kernel_rfl) (by kernel_rfl) (by kernel_rfl) (fun _ _ _ h => h) (Or.inr ⟨by rfl, rfl⟩) (by assumption) ?_
            try simp only [Act.put, List.setIfInBounds_toArray, List.set_cons_zero, List.set_cons_succ]
            refine wpAnyH_take (i := 18) (oi := { dst := some 39, op := Op.indexAddr 23 (Operand.tmp 37) (Operand.tmp 38), type := 0, pos := "ref.go:37", after := #[{ on := 16, ground := Ground.data }, { on := 17, ground := Ground.data }, { on := 14, ground := Ground.guard }], guard := some (14, false) }) (v := undef) rfl (by kernel_rfl) (by kernel_rfl) (by kernel_rfl) (fun _ _ _ h => h) (Or.inr ⟨by rfl, rfl⟩) (by assumption) ?_
            try simp only [Act.put, List.setIfInBounds_toArray, List.set_cons_zero, List.set_cons_succ]
            refine wpAnyH_take (i := 19) (oi := { dst := some 40, op := Op.load 3 (Operand.tmp 39), type := 3, pos := "ref.go:37", after := #[{ on := 18, ground := Ground.data }, { on := 14, ground := Ground.guard }], guard := some (14, false) }) (v := undef) rfl (by kernel_rfl) (by kernel_rfl) (by kernel_rfl) (fun _ _ _ h => h) (Or.inr ⟨by rfl, rfl⟩) (by assumption) ?_
            try simp only [Act.put, List.setIfInBounds_toArray, List.set_cons_zero, List.set_cons_succ]
            refine wpAnyH_take (i := 20) (oi := { dst := some 41, op := Op.call { callee := Callee.value (Operand.func 155), args := #[Operand.tmp 36, Operand.tmp 40], argTypes := #[43, 3] }, type := 3, pos := "ref.go:37", after := #[{ on := 15, ground := Ground.data }, { on := 19, ground := Ground.data }, { on := 14, ground := Ground.chain }, { on := 14, ground := Ground.guard }], guard := some (14, false) }) (v := undef) rfl (by kernel_rfl) (by kernel_rfl) (by kernel_rfl) (fun _ _ _ h => h) (Or.inr ⟨by rfl, rfl⟩) (by assumption) ?_
            try simp only [Act.put, List.setIfInBounds_toArray, List.set_cons_zero, List.set_cons_succ]
            refine wpAnyH_take (i := 21) (oi := { dst := some 42, op := Op.move (Operand.tmp 1), type := 3, pos := "ref.go:37", after := #[{ on := 14, ground := Ground.guard }], guard := some (14, false) }) (v := undef) rfl (by kernel_rfl) (by kernel_rfl) (by kernel_rfl) (fun _ _ _ h => h) (Or.inr ⟨by rfl, rfl⟩) (by assumption) ?_
            try simp only [Act.put, List.setIfInBounds_toArray, List.set_cons_zero, List.set_cons_succ]
            refine wpAnyH_take (i := 22) (oi := { dst := some 43, op := Op.binOp BinOp.neq 3 (Operand.tmp 41) (Operand.tmp 42) 3, type := 4, pos := "ref.go:37", after := #[{ on := 20, ground := Ground.data }, { on := 21, ground := Ground.data }, { on := 14, ground := Ground.guard }], guard := some (14, false) }) (v := undef) rfl (by kernel_rfl) (by kernel_rfl) (by kernel_rfl) (fun _ _ _ h => h) (Or.inr ⟨by rfl, rfl⟩) (by assumption) ?_
            try simp only [Act.put, List.setIfInBounds_toArray, List.set_cons_zero, List.set_cons_succ]
            refine wpAnyH_take (i := 23) (oi := { dst := some 44, op := Op.pick (Operand.tmp 35) (Operand.const (Value.bool true)) (Operand.tmp 43), type := 4, pos := "ref.go:37", after := #[{ on := 14, ground := Ground.data }, { on := 22, ground := Ground.data }], guard := none }) (v := ?_) rfl (by kernel_rfl) (by kernel_rfl) (by kernel_rfl) (fun _ _ _ h => h) (Or.inl ⟨by rfl, ?_⟩) (by assumption) ?_
            rotate_left
            · intro w hSw; (try dsimp only at hSw); go_simp; (try with_reducible rfl)
            try simp only [Act.put, List.setIfInBounds_toArray, List.set_cons_zero, List.set_cons_succ]
            refine wpAnyH_done (by kernel_rfl) ?_ _
            all_goals
              go_wp2_with fail
              go_ret
              exact ⟨ret_int HR.out.symm, below_box hbx⟩
      · have HR : Hid (listE l own = if l.head? = own.head? then 0 else 9) := by
          show _ = _
          have h := HS.out
          rw [List.drop_of_length_le (by omega)] at h
          rw [HE.out, if_pos (h.trans (show scanE own (l.take k) [] = 0 from rfl))]
        have HZ : Hid (scanE own [] l = 0) := by
          have h := HS.out
          rw [List.drop_of_length_le (by omega)] at h
          exact h.trans (show scanE own (l.take k) [] = 0 from rfl)
        by_cases hz : 0 < l.length
        · obtain ⟨x0, _, hgx, _, b, off, hoa, _, c0⟩ := hlr.int_at hz
          subst hoa
          simp only [Nat.add_zero] at c0
          have HLEAST := hide (head_least HLen.out HZ.out hup.out hgx)
          have h1 : Hid (∀ (i : Nat) (y : Int), i < 1 → l[i]? = some y → x0 ≤ y) := by
            intro i y hi hy
            have : i = 0 := by omega
            subst this
            rw [hgx] at hy
            injection hy with hy
            omega
          clear hgx
          go_wp2_with fail
          obtain ⟨wo, rfl⟩ : ∃ wo : World, wo = wr := ⟨_, rfl⟩
          go_loopw [8] (fun iv wr => ∃ j : Nat, 1 ≤ j ∧ j ≤ l.length ∧ iv = .int .i64 j ∧ Hid (∀ (i : Nat) (y : Int), i < j → l[i]? = some y → x0 ≤ y) ∧ Below wo.heap.size wo wr) (fun iv _ => l.length - (intOf iv).toNat)
          case atStart => exact ⟨1, by omega, by omega, rfl, h1, Below.refl _ _⟩
          case round =>
            obtain ⟨j, hj1, hj, rfl, HJ, hbj⟩ := hrel
            have c0 := (hbj.cell (World.block_lt_of_cell? _ _ c0)).trans c0
            have hbw := hide (below_then (below_box hbx) hbj)
            by_cases hjl : j < l.length
            · obtain ⟨y, _, hgy, _, b2, off2, hoa2, _, c1⟩ := (hlr.below intR_ok hbj).int_at hjl
              injection hoa2 with hoa2
              injection hoa2 with q1 q2 q3
              subst q1 q2
              have HGY := hide hgy
              clear hgy
              by_cases hyx : y < x0
              · have HR9 : Hid (listE l own = 9) := by
                  show _ = _
                  rw [HR.out, if_neg (fun h => by have := HLEAST.out.1 h j y HGY.out; omega)]
                have q4 : decide (y < x0) = true := by simp [hyx]
                go_wp2_with fail
                go_quiet (fail)
                go_wp2_with fail
                go_ret
                exact ⟨ret_int HR9.out.symm, below_drewN hbw.out _⟩
              · have HJ2 : Hid (∀ (i : Nat) (y : Int), i < j + 1 → l[i]? = some y → x0 ≤ y) := by
                  intro i z hi hz
                  rcases Nat.lt_or_ge i j with h1 | h1
                  · exact HJ.out i z h1 hz
                  · have : i = j := by omega
                    subst this
                    rw [HGY.out] at hz
                    injection hz with hz
                    omega
                have q4 : decide (y < x0) = false := by simp; omega
                go_wp2_with fail
                go_quiet (fail)
                go_wp2_with fail
                go_roundw
                case rel => exact ⟨j + 1, by omega, by omega, by go_num, HJ2, below_drewN hbj _⟩
                case measure => simp [intOf]; omega
            · have HR0 : Hid (listE l own = 0) := by
                show _ = _
                rw [HR.out, if_pos (HLEAST.out.2 fun i y hy => HJ.out i y (by have := (List.getElem?_eq_some_iff.1 hy).1; omega) hy)]
              go_wp2_with fail
              go_ret
              exact ⟨ret_int HR0.out.symm, hbw.out⟩
        · have h0 : l.length = 0 := by omega
          have HR0 : Hid (listE l own = 0) := by
            show _ = _
            rw [HR.out, List.eq_nil_of_length_eq_zero h0, List.eq_nil_of_length_eq_zero (show own.length = 0 by have := HLen.out; omega)]
            rfl
          have hbw := hide (below_box hbx)
          go_wp2_with fail
          refine wp_loop_rounds 1 ?_
          rw [rounds_succ]
          go_wp2_with fail
          go_ret
          exact ⟨ret_int HR0.out.symm, hbw.out⟩
  · have HE : Hid (listE l own = 8) := if_neg hlen
    have hq : ((l.length : Int) != (own.length : Int)) = true := by simp; omega
    have hX := hide (below_box hbx)
    go_wp2_with fail
    go_ret
    exact ⟨ret_int HE.out.symm, hX.out⟩

end Go.Proofs.YtnigfddanoaonaaGreat

set_option linter.unusedVariables false
set_option linter.unusedSimpArgs false
namespace Go.Proofs.YtnigfddanoaonaaGreat
open Go.RowKit

def ends2 (v : Int) (p : Int × Int) : Int := (if p.1 = v then 1 else 0) + (if p.2 = v then 1 else 0)
def sumE (v : Int) : List (Int × Int) → Int
  | [] => 0
  | p :: r => ends2 v p + sumE v r
theorem sumE_app (v : Int) (l m : List (Int × Int)) : sumE v (l ++ m) = sumE v l + sumE v m := by
  induction l with
  | nil => simp [sumE]
  | cons p r ih => simp only [List.cons_append, sumE, ih]; omega
theorem sumE_rep (v : Int) (p : Int × Int) (k : Nat) : sumE v (List.replicate k p) = k * ends2 v p := by
  induction k with
  | zero => simp [sumE]
  | succ k ih =>
    rw [List.replicate_succ, sumE, ih]
    have : ((k + 1 : Nat) : Int) = k + 1 := by omega
    rw [this, Int.add_mul, Int.one_mul]
    omega
theorem half_len {l : List (Int × Int)} {v : Nat} : ∀ k, k ≤ l.length → ((halfU l (2 * k) v).length : Int) = sumE v (l.take k)
  | 0, _ => by simp [halfU, sumE]
  | k + 1, hk => by
    have ih := half_len (l := l) (v := v) k (by omega)
    have hg : l.getD k (0, 0) = l[k] := by rw [List.getD_eq_getElem?_getD, List.getElem?_eq_getElem (by omega)]; rfl
    have h1 : hv l (2 * k) = (l[k]).1 := by rw [hv, if_pos (by omega), show 2 * k / 2 = k by omega, hg]
    have h2 : hv l (2 * k + 1) = (l[k]).2 := by rw [hv, if_neg (by omega), show (2 * k + 1) / 2 = k by omega, hg]
    have e : l.take (k + 1) = l.take k ++ [l[k]] := by rw [List.take_add_one, List.getElem?_eq_getElem (by omega)]; rfl
    rw [e, sumE_app, ← ih, show 2 * (k + 1) = (2 * k + 1) + 1 by omega]
    simp only [sumE, ends2]
    by_cases c1 : hv l (2 * k) = (v : Int) <;> by_cases c2 : hv l (2 * k + 1) = (v : Int)
    · rw [halfU_yes c2, halfU_yes c1, if_pos (h1 ▸ c1), if_pos (h2 ▸ c2)]; simp
    · rw [halfU_no c2, halfU_yes c1, if_pos (h1 ▸ c1), if_neg (h2 ▸ c2)]; simp
    · rw [halfU_yes c2, halfU_no c1, if_neg (h1 ▸ c1), if_pos (h2 ▸ c2)]; simp
    · rw [halfU_no c2, halfU_no c1, if_neg (h1 ▸ c1), if_neg (h2 ▸ c2)]; simp

def hit (x : Edg) (a b : Int) : Int := if x.a = min a b ∧ x.b = max a b then x.m else 0
theorem betw_none {r : List Edg} {p q a b : Int} (h : ∀ y ∈ r, ¬ (y.a = p ∧ y.b = q)) (hp : p = min a b) (hq : q = max a b) : betw r a b = 0 := by
  induction r with
  | nil => rfl
  | cons y r ih =>
    rw [betw, if_neg (by rw [← hp, ← hq]; exact h y (by simp)), ih fun z hz => h z (by simp [hz])]
theorem betw_cons {x : Edg} {r : List Edg} (h : ∀ y ∈ r, ¬ (y.a = x.a ∧ y.b = x.b)) (a b : Int) : betw (x :: r) a b = hit x a b + betw r a b := by
  rw [betw, hit]
  split
  · rename_i he
    rw [betw_none h he.1 he.2]
    omega
  · omega
def valH (x : Edg) (v : Int) : Nat → Int
  | 0 => 0
  | u + 1 => valH x v u + (if (u : Int) = v then 0 else hit x u v)
theorem valU_cons {x : Edg} {r : List Edg} (h : ∀ y ∈ r, ¬ (y.a = x.a ∧ y.b = x.b)) (v : Int) : ∀ n, valU (x :: r) v n = valH x v n + valU r v n
  | 0 => rfl
  | n + 1 => by
    rw [valU, valU, valH, valU_cons h v n, betw_cons h]
    split <;> omega
theorem valH_is {x : Edg} (hab : x.a ≤ x.b) {v : Int} (ha : 0 ≤ x.a) (hb : 0 ≤ x.b) : ∀ n : Nat, valH x v n = if x.a = v ∧ x.b ≠ v ∧ x.b < n then x.m else if x.b = v ∧ x.a ≠ v ∧ x.a < n then x.m else 0
  | 0 => by
    rw [valH, if_neg (by omega), if_neg (by omega)]
  | n + 1 => by
    rw [valH, valH_is hab ha hb n]
    unfold hit
    repeat' split
    all_goals omega

theorem deg_sum {n : Nat} : ∀ {es : List Edg}, (∀ x ∈ es, (0 ≤ x.a ∧ x.a < n) ∧ (0 ≤ x.b ∧ x.b < n) ∧ 0 ≤ x.m ∧ x.a ≤ x.b) → (es.Pairwise fun x y => cmpP (x.a, x.b) (y.a, y.b) < 0) → ∀ v : Int, valU es v n + 2 * betw es v v = sumE v (endsL es)
  | [], _, _, v => by
    have : ∀ k, valU [] v k = 0 := fun k => by
      induction k with
      | zero => rfl
      | succ k ih => rw [valU, ih]; simp [betw]
    rw [this]
    simp [betw, endsL, sumE]
  | x :: r, h, hp, v => by
    rw [List.pairwise_cons] at hp
    have hx := h x (by simp)
    have hne : ∀ y ∈ r, ¬ (y.a = x.a ∧ y.b = x.b) := fun y hy he => by
      have := cmpP_neg.1 (hp.1 y hy)
      simp only at this
      omega
    have ih := deg_sum (es := r) (fun y hy => h y (by simp [hy])) hp.2 v
    rw [valU_cons hne, betw_cons hne, endsL_cons, sumE_app, sumE_rep, ← ih, valH_is hx.2.2.2 hx.1.1 hx.2.1.1, hit, ends2]
    have hm : (x.m.toNat : Int) = x.m := by omega
    rw [hm]
    simp only
    by_cases c1 : x.a = v <;> by_cases c2 : x.b = v
    · rw [if_pos c1, if_pos c2, if_neg (by omega), if_neg (by omega), if_pos (by omega)]; omega
    · rw [if_pos c1, if_neg c2, if_pos (by omega), if_neg (by omega)]; omega
    · rw [if_neg c1, if_pos c2, if_neg (by omega), if_pos (by omega), if_neg (by omega)]; omega
    · rw [if_neg c1, if_neg c2, if_neg (by omega), if_neg (by omega), if_neg (by omega)]; omega
/-- The degree of a vertex of a right graph is the number of its half-edges. -/
theorem deg_half {n : Nat} {es : List Edg} (hV : gErr n es = 0) (v : Nat) : degU n es v = ((halfU (endsL es) (2 * (endsL es).length) v).length : Nat) := by
  rw [half_len _ (Nat.le_refl _), List.take_length]
  exact deg_sum (fun x hx => by have := (gErr_zero hV).2.1 x hx; omega) (gErr_zero hV).2.2 v

end Go.Proofs.YtnigfddanoaonaaGreat

set_option linter.unusedVariables false
set_option linter.unusedSimpArgs false
namespace Go.Proofs.YtnigfddanoaonaaGreat
open Go.RowKit

theorem boolInfoG : (Tryz.prog.info? 4).map (fun i => (i.zero, i.size, i.bytes)) = some (some (.bool false), 1, 1) := by kernel_rfl

def adjG (es : List Edg) (a b : Nat) : Bool := decide (0 < betw es a b)
def ReachedPost (w : World) (es : List Edg) (n s : Nat) (e : Ending) (w' : World) : Prop :=
  ∃ g bs, e = .returned (.slice (some ⟨g, 0, none⟩) n n) ∧ Leads (nxA (adjG es)) n n s bs ∧ Row1 Value.bool w' g 4 bs [] ∧ w.heap.size ≤ g ∧ Below w.heap.size w w'
theorem nxA_lt {adj : Nat → Nat → Bool} {n : Nat} : ∀ u a, u < n → a < n → nxA adj u a < n := by
  intro u a h1 h2
  unfold nxA
  split <;> omega
def InrG (nx : Nat → Nat → Nat) (L S s k t j : Nat) (bs : List Bool) : Prop := Led nx L S s k t bs ∧ (bs[t]? = some true → ∀ a, a < j → bs[nx t a]? = some true)

set_option maxRecDepth 100000 in
set_option maxHeartbeats 4000000 in
theorem reached_any (n : Nat) (hn : n ≤ 12) (es : List Edg) (oe : Option Addr) (c : Nat) (F : Foot) (w : World) (hs : SliceR edgR 3 F w oe es) (hc : es.length ≤ c) (hc2 : es.length ≤ 9223372036854775807) (s0 : Nat) (hS : s0 < n) :
    Calls Tryz.prog 160 #[.agg #[.int .i64 n, .slice oe es.length c], .int .i64 s0] w (ReachedPost w es n s0) := by
  have HNX := hide (nxA_lt (adj := adjG es) (n := n))
  go_enter Tryz.func160, Tryz.ntmps160
  go_wp2_with (at_make; refine wpList_make_row _ rfl _ _ 215 rfl 4 false 1 Tryz.underlying215 boolInfoG rfl .i64 .i64 _ _ n rfl rfl rfl rfl (by omega) (by unfold maxLen; omega) (fun w1 hrow hb1 hg1 => ?_); have c0 := hrow.cell (i := s0) (x := false) (by simp [hS]); have f0 := hrow.free s0; simp at c0 f0; have hp := hrow.put (i := s0) (by simp [hS]) true; simp only [World.size_alloc] at hp; have HG := hide hg1; clear hrow hg1)
  have hb0 : Below (w.heap.size + 1) (w.alloc (.cells #[.int .i64 n, .slice oe es.length c] 43)) (w1.setCell ⟨w.heap.size + 1, s0, none⟩ (.bool true)) := by
    have h := hb1
    simp only [World.size_alloc] at h
    exact h.setCell (by simp) _
  clear hb1 c0 f0
  go_loopw [6] (fun iv wr => ∃ (k : Nat) (bs : List Bool), k ≤ n ∧ iv = .int .i64 k ∧ Hid (Led (nxA (adjG es)) n n s0 k 0 bs) ∧ Row1 Value.bool wr (w.heap.size + 1) 4 bs [] ∧
      Below (w.heap.size + 1) (w.alloc (.cells #[.int .i64 n, .slice oe es.length c] 43)) wr) (fun iv _ => n - (intOf iv).toNat)
  case atStart => exact ⟨0, _, by omega, rfl, Led.begin hS, hp, hb0⟩
  case round =>
    obtain ⟨k, bs, hk, rfl, HL, hr, hb⟩ := hrel
    clear hb0 hp HG
    have d0 := box_cell hb 0
    simp at d0
    by_cases hlt : k < n
    · go_wp2_with fail
      obtain ⟨wo, rfl⟩ : ∃ wo : World, wo = wr := ⟨_, rfl⟩
      go_loopw [7] (fun iv wr => ∃ (t : Nat) (bs : List Bool), t ≤ n ∧ iv = .int .i64 t ∧ Hid (Led (nxA (adjG es)) n n s0 k t bs) ∧ Row1 Value.bool wr (w.heap.size + 1) 4 bs [] ∧
        Below (w.heap.size + 1) (w.alloc (.cells #[.int .i64 n, .slice oe es.length c] 43)) wr) (fun iv _ => n - (intOf iv).toNat)
      case atStart => exact ⟨0, _, by omega, rfl, HL, hr, hb⟩
      case round =>
        clear hb hr d0 HL
        obtain ⟨t, bs, ht, rfl, HL, hr, hb⟩ := hrel
        have d0 := box_cell hb 0
        simp at d0
        by_cases htl : t < n
        · go_wp2_with fail
          obtain ⟨wo, rfl⟩ : ∃ wo : World, wo = wr := ⟨_, rfl⟩
          go_loopw [8] (fun iv wr => ∃ (j : Nat) (bs : List Bool), j ≤ n ∧ iv = .int .i64 j ∧ Hid (InrG (nxA (adjG es)) n n s0 k t j bs) ∧ Row1 Value.bool wr (w.heap.size + 1) 4 bs [] ∧
            Below (w.heap.size + 1) (w.alloc (.cells #[.int .i64 n, .slice oe es.length c] 43)) wr) (fun iv _ => n - (intOf iv).toNat)
          case atStart => exact ⟨0, _, by omega, rfl, ⟨HL, fun _ a ha => by omega⟩, hr, hb⟩
          case round =>
            clear hb hr d0 HL
            obtain ⟨j, bs, hj, rfl, HI, hr, hb⟩ := hrel
            have d0 := box_cell hb 0
            have d1 := box_cell hb 1
            simp at d0 d1
            have hbl : bs.length = n := HI.out.1.len
            by_cases hjl : j < n
            · obtain ⟨bt, hbt⟩ : ∃ bt, bs[t]? = some bt := ⟨_, List.getElem?_eq_getElem (by omega)⟩
              have ct := hr.cell hbt
              have HBT := hide hbt
              clear hbt
              cases bt with
              | false =>
                have HI2 : Hid (InrG (nxA (adjG es)) n n s0 k t (j + 1) bs) := ⟨HI.out.1, fun h => by rw [HBT.out] at h; cases h⟩
                clear hbl
                go_wp2_with fail
                go_roundw
                case rel => exact ⟨j + 1, bs, by omega, by go_num, HI2, hr, hb⟩
                case measure => simp [intOf]; omega
              | true =>
                have hcall := betw_any n es oe c F wr (hs.below edgR_ok (below_box hb)) hc hc2 t j
                have HJL := hide hjl
                by_cases had : 0 < betw es t j
                · have hnx : nxA (adjG es) t j = j := by unfold nxA adjG; rw [if_pos (by simpa using had)]
                  have hset := HI.out.1.set HBT.out hjl (by rw [hnx]; exact hjl) (HI.out.2 HBT.out)
                  rw [hnx] at hset
                  have HI2 : Hid (InrG (nxA (adjG es)) n n s0 k t (j + 1) (bs.set j true)) := ⟨hset.1, fun _ => hset.2.2⟩
                  obtain ⟨bn, hbn⟩ : ∃ bn, bs[j]? = some bn := ⟨_, List.getElem?_eq_getElem (by omega)⟩
                  have hjb : j < bs.length := by omega
                  have HR := hide hr
                  clear hset hnx hbl
                  generalize betw es t j = x at had hcall
                  go_wp2_with fail
                  refine hcall.mono ?_
                  rintro e w4 ⟨rfl, hb4⟩
                  have hr4 := HR.out.below hb4
                  have cn := hr4.cell hbn
                  have fn := hr4.free j
                  have hp := hide (hr4.put hjb true)
                  have HB := hide ((hb.trans (hb4.mono (box_lt hb))).setCell (p := ⟨w.heap.size + 1, j, none⟩) (by simp) (.bool true))
                  clear hbn hr4 hr hb4 ct d0 d1
                  go_wp2_with fail
                  go_roundw
                  case rel => exact ⟨j + 1, _, by omega, by go_num, HI2, hp.out, HB.out⟩
                  case measure => simp [intOf]; omega
                · have hnx : nxA (adjG es) t j = t := by unfold nxA adjG; rw [if_neg (by simpa using had)]
                  have HI2 : Hid (InrG (nxA (adjG es)) n n s0 k t (j + 1) bs) := ⟨HI.out.1, fun h a ha => by
                    rcases Nat.lt_or_ge a j with h1 | h1
                    · exact HI.out.2 h a h1
                    · have : a = j := by omega
                      subst this
                      rw [hnx]
                      exact h⟩
                  have HR := hide hr
                  clear hnx hbl
                  generalize betw es t j = x at had hcall
                  go_wp2_with fail
                  refine hcall.mono ?_
                  rintro e w4 ⟨rfl, hb4⟩
                  have hr4 := hide (HR.out.below hb4)
                  have HB := hide (hb.trans (hb4.mono (box_lt hb)))
                  clear hr hb4 ct d0 d1
                  go_wp2_with fail
                  go_roundw
                  case rel => exact ⟨j + 1, bs, by omega, by go_num, HI2, hr4.out, HB.out⟩
                  case measure => simp [intOf]; omega
            · have hj2 : j = n := by omega
              subst hj2
              have HN := hide (HI.out.1.next fun h => HI.out.2 h)
              clear hbl
              go_wp2_with fail
              go_roundw
              case rel => exact ⟨t + 1, bs, by omega, by go_num, HN, hr, hb⟩
              case measure => simp [intOf]; omega
        · have h2 : t = n := by omega
          subst h2
          have HN := hide (HL.out.round hS HNX.out)
          go_wp2_with fail
          go_roundw
          case rel => exact ⟨k + 1, bs, by omega, by go_num, HN, hr, hb⟩
          case measure => simp [intOf]; omega
    · have h2 : k = n := by omega
      subst h2
      have HN := hide (HL.out.all hS HNX.out)
      go_wp2_with fail
      go_ret
      exact ⟨w.heap.size + 1, bs, rfl, HN.out, hr, by omega, below_box hb⟩

end Go.Proofs.YtnigfddanoaonaaGreat

set_option linter.unusedVariables false
set_option linter.unusedSimpArgs false
namespace Go.Proofs.YtnigfddanoaonaaGreat
open Go.RowKit

/-- a with b laid over its first j places. -/
def mixB (a b : List Bool) (j : Nat) : List Bool := (List.range a.length).map fun i => if i < j then a.getD i false || b.getD i false else a.getD i false
theorem mixB_len (a b : List Bool) (j : Nat) : (mixB a b j).length = a.length := by simp [mixB]
theorem mixB_get {a b : List Bool} {j i : Nat} (hi : i < a.length) : (mixB a b j)[i]? = some (if i < j then a.getD i false || b.getD i false else a.getD i false) := by
  simp [mixB, hi]
theorem mixB_zero (a b : List Bool) : mixB a b 0 = a := by
  apply List.ext_getElem?
  intro i
  rcases Nat.lt_or_ge i a.length with hi | hi
  · rw [mixB_get hi]; simp [hi]
  · rw [List.getElem?_eq_none (by rw [mixB_len]; exact hi), List.getElem?_eq_none hi]
theorem mixB_step {a b : List Bool} {j : Nat} (hj : j < a.length) : (mixB a b j).set j (a.getD j false || b.getD j false) = mixB a b (j + 1) := by
  apply List.ext_getElem?
  intro i
  rcases Nat.lt_or_ge i a.length with hi | hi
  · rw [mixB_get hi]
    by_cases e : j = i
    · subst e
      rw [List.getElem?_set_self (by rw [mixB_len]; exact hj), if_pos (by omega)]
    · rw [List.getElem?_set_ne e, mixB_get hi]
      by_cases h : i < j
      · rw [if_pos h, if_pos (by omega)]
      · rw [if_neg h, if_neg (by omega)]
  · rw [List.getElem?_eq_none (by simp [mixB_len]; exact hi), List.getElem?_eq_none (by rw [mixB_len]; exact hi)]

theorem betw_pos {es : List Edg} (h : ∀ x ∈ es, 1 ≤ x.m ∧ x.a ≤ x.b ∧ 0 ≤ x.a ∧ 0 ≤ x.b) (a b : Nat) : 0 < betw es a b ↔ (a, b) ∈ eL es ∨ (b, a) ∈ eL es := by
  induction es with
  | nil => simp [betw, eL]
  | cons x r ih =>
    have ih := ih fun y hy => h y (by simp [hy])
    have hx := h x (by simp)
    have hmem : ∀ p : Nat × Nat, p ∈ eL (x :: r) ↔ p = (x.a.toNat, x.b.toNat) ∨ p ∈ eL r := fun p => by simp [eL]
    rw [hmem, hmem, betw]
    split
    · rename_i he
      constructor
      · intro _
        rcases Nat.le_total a b with hab | hab
        · left; left
          rw [Prod.mk.injEq]
          omega
        · right; left
          rw [Prod.mk.injEq]
          omega
      · intro _; omega
    · rename_i he
      rw [ih]
      constructor
      · rintro (h1 | h1)
        · exact .inl (.inr h1)
        · exact .inr (.inr h1)
      · rintro ((h1 | h1) | (h1 | h1))
        · exfalso
          rw [Prod.mk.injEq] at h1
          apply he
          omega
        · exact .inl h1
        · exfalso
          rw [Prod.mk.injEq] at h1
          apply he
          omega
        · exact .inr h1
theorem adj_eL {n : Int} {es : List Edg} (hV : gErr n es = 0) (a b : Nat) : adjG es a b = true ↔ (a, b) ∈ eL es ∨ (b, a) ∈ eL es := by
  unfold adjG
  rw [decide_eq_true_iff]
  exact betw_pos (fun x hx => by have := (gErr_zero hV).2.1 x hx; omega) a b
theorem eL_ltN {n : Nat} {es : List Edg} (hV : gErr n es = 0) : ∀ x ∈ eL es, x.1 < n ∧ x.2 < n := by
  intro x hx
  simp only [eL, List.mem_map] at hx
  obtain ⟨y, hy, rfl⟩ := hx
  have h := (gErr_zero hV).2.1 y hy
  constructor
  · simp only; omega
  · simp only; omega
theorem leads_tied {n : Nat} {es : List Edg} (hV : gErr n es = 0) {s : Nat} {bs : List Bool} (h : Leads (nxA (adjG es)) n n s bs) (x : Nat) : bs[x]? = some true ↔ Tied (eL es) s x :=
  (h.2 x).trans (rch_tied (adj_eL hV) (eL_ltN hV))

/-- What was seen so far. -/
structure Seen (E : List (Nat × Nat)) (n k : Nat) (bs : List Bool) : Prop where
  len : bs.length = n
  iff : ∀ x, x < n → (bs[x]? = some true ↔ ∃ u, u < k ∧ Tied E u x)
theorem Seen.begin (E : List (Nat × Nat)) (n : Nat) : Seen E n 0 (List.replicate n false) :=
  ⟨by simp, fun x hx => by simp [hx]⟩
theorem Seen.old {E : List (Nat × Nat)} {n k : Nat} {bs : List Bool} (h : Seen E n k bs) (hk : k < n) (hb : bs[k]? = some true) : Seen E n (k + 1) bs := by
  refine ⟨h.len, fun x hx => ?_⟩
  rw [h.iff x hx]
  obtain ⟨u0, hu0, ht0⟩ := (h.iff k hk).1 hb
  constructor
  · rintro ⟨u, hu, ht⟩; exact ⟨u, by omega, ht⟩
  · rintro ⟨u, hu, ht⟩
    rcases Nat.lt_or_ge u k with h1 | h1
    · exact ⟨u, h1, ht⟩
    · have : u = k := by omega
      subst this
      exact ⟨u0, hu0, ht0.trans ht⟩
theorem Seen.more {E : List (Nat × Nat)} {n k : Nat} {bs cs : List Bool} (h : Seen E n k bs) (hc : cs.length = n) (hr : ∀ x, cs[x]? = some true ↔ Tied E k x) : Seen E n (k + 1) (mixB bs cs n) := by
  refine ⟨by rw [mixB_len, h.len], fun x hx => ?_⟩
  rw [mixB_get (by rw [h.len]; exact hx), if_pos hx]
  have h1 := h.iff x hx
  have h2 := hr x
  have e1 : bs.getD x false = true ↔ bs[x]? = some true := true_of_getD (by rw [h.len]; exact hx)
  have e2 : cs.getD x false = true ↔ cs[x]? = some true := true_of_getD (by rw [hc]; exact hx)
  rw [Option.some.injEq, Bool.or_eq_true, e1, e2, h1, h2]
  constructor
  · rintro (⟨u, hu, ht⟩ | ht)
    · exact ⟨u, by omega, ht⟩
    · exact ⟨k, by omega, ht⟩
  · rintro ⟨u, hu, ht⟩
    rcases Nat.lt_or_ge u k with h1 | h1
    · exact .inl ⟨u, h1, ht⟩
    · have : u = k := by omega
      subst this
      exact .inr ht
theorem Seen.root {E : List (Nat × Nat)} {f : List Nat} (hf : Uf f E) {n k : Nat} {bs : List Bool} (h : Seen E n k bs) (hk : k < n) (hn : n ≤ 12) : bs[k]? = some true ↔ ¬ rootF f k = k := by
  rw [h.iff k hk, hf.least (by omega)]
  constructor
  · rintro ⟨u, hu, ht⟩ h2; exact h2 u hu ht
  · intro h2
    exact Classical.byContradiction fun h3 => h2 fun u hu ht => h3 ⟨u, hu, ht⟩

set_option maxRecDepth 100000 in
set_option maxHeartbeats 4000000 in
theorem rparts_any (n : Nat) (es : List Edg) (oe : Option Addr) (c : Nat) (F : Foot) (w : World) (hs : SliceR edgR 3 F w oe es) (hc : es.length ≤ c) (hc2 : es.length ≤ 9223372036854775807)
    (hV : Hid (gErr n es = 0)) (f : List Nat) (hU : Hid (Uf f (eL es))) : Calls Tryz.prog 139 #[.agg #[.int .i64 n, .slice oe es.length c]] w (ErrPost w (cnt f n : Nat)) := by
  have hn : n ≤ 12 := by have := (gErr_zero hV.out).1; omega
  go_enter Tryz.func139, Tryz.ntmps139
  go_wp2_with (at_make; refine wpList_make_row _ rfl _ _ 215 rfl 4 false 1 Tryz.underlying215 boolInfoG rfl .i64 .i64 _ _ n rfl rfl rfl rfl (by omega) (by unfold maxLen; omega) (fun w1 hrow hb1 hg1 => ?_); simp only [World.size_alloc] at hrow hb1)
  clear hg1
  go_loopw [3, 5] (fun pv iv wr => ∃ (k : Nat) (bs : List Bool), k ≤ n ∧ iv = .int .i64 k ∧ pv = .int .i64 (cnt f k : Nat) ∧ Hid (Seen (eL es) n k bs) ∧ Row1 Value.bool wr (w.heap.size + 1) 4 bs [] ∧
      Below (w.heap.size + 1) (w.alloc (.cells #[.int .i64 n, .slice oe es.length c] 43)) wr) (fun _ iv _ => n - (intOf iv).toNat)
  case atStart => exact ⟨0, _, by omega, rfl, rfl, Seen.begin _ _, hrow, hb1⟩
  case round =>
    clear hrow hb1
    obtain ⟨k, bs, hk, rfl, rfl, HS, hr, hb⟩ := hrel
    have d0 := box_cell hb 0
    have d1 := box_cell hb 1
    simp at d0 d1
    have hck : cnt f k ≤ k := by
      have := List.length_filter_le (fun v => rootF f v == v) (List.range k)
      simpa [cnt] using this
    by_cases hlt : k < n
    · have HROOT := hide (HS.out.root hU.out hlt hn)
      obtain ⟨bt, hbt⟩ : ∃ bt, bs[k]? = some bt := ⟨_, List.getElem?_eq_getElem (by rw [HS.out.len]; exact hlt)⟩
      have ct := hr.cell hbt
      have HBT := hide hbt
      clear hbt
      cases bt with
      | true =>
        have HC : Hid (cnt f (k + 1) = cnt f k) := cnt_no (HROOT.out.1 HBT.out)
        have HN := hide (HS.out.old hlt HBT.out)
        generalize cnt f k = p at hck HC
        go_wp2_with fail
        go_roundw
        case rel => exact ⟨k + 1, bs, by omega, by go_num, by rw [HC.out], HN, hr, hb⟩
        case measure => simp [intOf]; omega
      | false =>
        have hroot : rootF f k = k := Classical.byContradiction fun h => by
          have := HROOT.out.2 h
          rw [HBT.out] at this
          cases this
        have HC : Hid (cnt f (k + 1) = cnt f k + 1) := cnt_yes hroot
        have hcall := reached_any n hn es oe c F wr (hs.below edgR_ok (below_box hb)) hc hc2 k hlt
        clear hroot
        generalize cnt f k = p at hck HC
        go_wp2_with fail
        refine hcall.mono ?_
        rintro e w4 ⟨g, cs, rfl, hle, hrc, hg, hb4⟩
        have HLT := hide (leads_tied hV.out hle)
        have hcl : cs.length = n := hle.1
        have hr4 := hr.below hb4
        have hx4 := hb.trans (hb4.mono (box_lt hb))
        have hgne : w.heap.size + 1 < g := by have := hr.lt; omega
        have HM : Hid (Seen (eL es) n (k + 1) (mixB bs cs n)) := HS.out.more hcl HLT.out
        have hbl : bs.length = n := HS.out.len
        clear hb4 hr hb ct d0 d1 hle
        have d0 := box_cell hx4 0
        simp at d0
        have hz := mixB_zero bs cs
        go_wp2_with fail
        obtain ⟨wo, rfl⟩ : ∃ wo : World, wo = w4 := ⟨_, rfl⟩
        go_loopw [7] (fun iv wr => ∃ (j : Nat), j ≤ n ∧ iv = .int .i64 j ∧ Row1 Value.bool wr (w.heap.size + 1) 4 (mixB bs cs j) [] ∧ Row1 Value.bool wr g 4 cs [] ∧
          Below (w.heap.size + 1) (w.alloc (.cells #[.int .i64 n, .slice oe es.length c] 43)) wr) (fun iv _ => n - (intOf iv).toNat)
        case atStart => exact ⟨0, by omega, rfl, by rw [hz]; exact hr4, hrc, hx4⟩
        case round =>
          clear hr4 hrc hx4 d0 hz
          obtain ⟨j, hj, rfl, hr, hrc, hb⟩ := hrel
          have d0 := box_cell hb 0
          simp at d0
          by_cases hjl : j < n
          · have h1 : (mixB bs cs j)[j]? = some (bs.getD j false) := by rw [mixB_get (by omega), if_neg (by omega)]
            have h2 : cs[j]? = some (cs.getD j false) := by rw [List.getD_eq_getElem?_getD, List.getElem?_eq_getElem (by omega)]; rfl
            have c1 := hr.cell h1
            have c2 := hrc.cell h2
            have f1 := hr.free j
            have hp := hide (hr.put (i := j) (by rw [mixB_len]; omega) (bs.getD j false || cs.getD j false))
            have HMS := hide (mixB_step (a := bs) (b := cs) (j := j) (by omega))
            have HRC := hide (hrc.other (p := ⟨w.heap.size + 1, j, none⟩) (by simp; omega) (.bool (bs.getD j false || cs.getD j false)))
            have HB := hide (hb.setCell (p := ⟨w.heap.size + 1, j, none⟩) (by simp) (.bool (bs.getD j false || cs.getD j false)))
            clear h1 h2
            generalize bs.getD j false = b1 at *
            generalize cs.getD j false = b2 at *
            cases b1 with
            | true =>
              go_wp2_with fail
              go_roundw
              case rel => exact ⟨j + 1, by omega, by go_num, by rw [← HMS.out]; exact hp.out, HRC.out, HB.out⟩
              case measure => simp [intOf]; omega
            | false =>
              go_wp2_with fail
              go_roundw
              case rel => exact ⟨j + 1, by omega, by go_num, by rw [← HMS.out]; exact hp.out, HRC.out, HB.out⟩
              case measure => simp [intOf]; omega
          · have : j = n := by omega
            subst this
            go_wp2_with fail
            go_roundw
            case rel => exact ⟨k + 1, _, by omega, by go_num, by rw [HC.out]; go_num, HM, hr, hb⟩
            case measure => simp [intOf]; omega
    · have : k = n := by omega
      subst this
      go_wp2_with fail
      go_ret
      exact ⟨rfl, below_box hb⟩

end Go.Proofs.YtnigfddanoaonaaGreat

set_option linter.unusedVariables false
set_option linter.unusedSimpArgs false
namespace Go.Proofs.YtnigfddanoaonaaGreat
open Go.RowKit

set_option maxRecDepth 100000 in
theorem rconn_any (n : Nat) (es : List Edg) (oe : Option Addr) (c : Nat) (F : Foot) (w : World) (hs : SliceR edgR 3 F w oe es) (hc : es.length ≤ c) (hc2 : es.length ≤ 9223372036854775807)
    (hV : Hid (gErr n es = 0)) (f : List Nat) (hU : Hid (Uf f (eL es))) : Calls Tryz.prog 115 #[.agg #[.int .i64 n, .slice oe es.length c]] w fun e w' => e = .returned (.bool (cnt f n == 1)) ∧ Below w.heap.size w w' := by
  go_enter Tryz.func115, Tryz.ntmps115
  go_wp2_with fail
  have hb0 := box_refl w (.cells #[.int .i64 n, .slice oe es.length c] 43)
  refine (rparts_any n es oe c F _ (hs.below edgR_ok (below_box hb0)) hc hc2 hV f hU).mono ?_
  rintro e w2 ⟨rfl, hb2⟩
  have hx := hide (below_box (hb2.mono (B' := w.heap.size + 1) (by simp)))
  clear hb2 hb0
  go_wp2_with fail
  go_ret
  refine ⟨ret_bool ?_, hx.out⟩
  rw [Bool.eq_iff_iff]
  simp
  omega

set_option maxRecDepth 100000 in
set_option maxHeartbeats 1000000 in
theorem rjoined_any (n : Int) (es : List Edg) (oe : Option Addr) (c : Nat) (F : Foot) (w : World) (hs : SliceR edgR 3 F w oe es) (hc : es.length ≤ c) (hc2 : es.length ≤ 9223372036854775807)
    (f : List Nat) (hU : Hid (gErr n es = 0 → Uf f (eL es))) : Calls Tryz.prog 134 #[.agg #[.int .i64 n, .slice oe es.length c]] w (ErrPost w (jErr n es f)) := by
  go_enter Tryz.func134, Tryz.ntmps134
  go_wp2_with fail
  have hb0 := box_refl w (.cells #[.int .i64 n, .slice oe es.length c] 43)
  refine (rgcheck_any n es oe c F _ (hs.below edgR_ok (below_box hb0)) hc hc2).mono ?_
  rintro e w2 ⟨rfl, hb2⟩
  have hx2 := hb2.mono (B' := w.heap.size + 1) (by simp)
  have d0 := box_cell hx2 0
  have d1 := box_cell hx2 1
  simp at d0 d1
  clear hb2 hb0
  have hs2 := hs.below edgR_ok (below_box hx2)
  by_cases hV : gErr n es = 0
  · have HJ : Hid (jErr n es f = if partsN n es f = 1 then 0 else 13) := if_pos hV
    have HP : Hid (partsN n es f = cnt f n.toNat) := if_pos hV
    have HV := hide hV
    have hn := (gErr_zero hV).1
    rw [hV]
    clear hV
    obtain ⟨N, rfl⟩ := Int.eq_ofNat_of_zero_le (show 0 ≤ n by omega)
    have HUF := hide (hU.out HV.out)
    go_wp2_with fail
    refine (rconn_any N es oe c F _ hs2 hc hc2 HV f HUF).mono ?_
    rintro e w3 ⟨rfl, hb3⟩
    have HX := hide (below_box (hx2.trans (hb3.mono (box_lt hx2))))
    clear hb3 hs2 d0 d1 hx2
    by_cases hp : cnt f N = 1
    · have HJ2 : Hid (jErr (N : Int) es f = 0) := by show _ = _; rw [HJ.out, HP.out]; exact if_pos hp
      have hq : (cnt f N == 1) = true := by simpa using hp
      clear hp
      go_wp2_with fail
      go_ret
      exact ⟨ret_int HJ2.out.symm, HX.out⟩
    · have HJ2 : Hid (jErr (N : Int) es f = 13) := by show _ = _; rw [HJ.out, HP.out]; exact if_neg hp
      have hq : (cnt f N == 1) = false := by simpa using hp
      clear hp
      go_wp2_with fail
      go_ret
      exact ⟨ret_int HJ2.out.symm, HX.out⟩
  · have HJ : Hid (jErr n es f = gErr n es) := if_neg hV
    have hx := hide (below_box hx2)
    have hq : (gErr n es != 0) = true := by simpa using hV
    go_wp2_with fail
    go_ret
    exact ⟨ret_int HJ.out.symm, hx.out⟩

end Go.Proofs.YtnigfddanoaonaaGreat

set_option linter.unusedVariables false
set_option linter.unusedSimpArgs false
set_option linter.unnecessarySimpa false
namespace Go.Proofs.YtnigfddanoaonaaGreat
open Go.RowKit

set_option maxRecDepth 100000 in
set_option maxHeartbeats 1000000 in
theorem rbcheck_any (n : Int) (es : List Edg) (oe : Option Addr) (c : Nat) (ar : List (List Int)) (oa : Option Addr) (ca : Nat) (F G : Foot) (w : World) (hs : SliceR edgR 3 F w oe es) (hc : es.length ≤ c) (hc2 : es.length ≤ 1000)
    (ha : SliceR (slcR intR 1) 1 G w oa ar) (hac : ar.length ≤ ca) (hac2 : ar.length ≤ 9223372036854775807) (f : List Nat) (hU : Hid (gErr n es = 0 → Uf f (eL es))) :
    Calls Tryz.prog 101 #[.agg #[.int .i64 n, .slice oe es.length c, .slice oa ar.length ca]] w (ErrPost w (chkE n es f ar)) := by
  go_enter Tryz.func101, Tryz.ntmps101
  go_wp2_with fail
  have hb0 := box_refl w (.cells #[.int .i64 n, .slice oe es.length c, .slice oa ar.length ca] 52)
  refine (checked_any n es oe c ar oa ca F G _ (hs.below edgR_ok (below_box hb0)) hc hc2 (ha.below (slcR_ok intR_ok (by decide)) (below_box hb0)) hac hac2 f hU).mono ?_
  rintro e w2 ⟨v, rfl, ho, hb2⟩
  have hx := hide (below_box (hb2.mono (B' := w.heap.size + 1) (by simp)))
  clear ho hb2 hb0
  go_wp2_with fail
  go_ret
  exact ⟨rfl, hx.out⟩

set_option maxRecDepth 100000 in
set_option maxHeartbeats 4000000 in
theorem r44check_any (n : Int) (es : List Edg) (oe : Option Addr) (c : Nat) (ar : List (List Int)) (oa : Option Addr) (ca : Nat) (F G : Foot) (w : World) (hs : SliceR edgR 3 F w oe es) (hc : es.length ≤ c) (hc2 : es.length ≤ 1000)
    (ha : SliceR (slcR intR 1) 1 G w oa ar) (hac : ar.length ≤ ca) (hac2 : ar.length ≤ 9223372036854775807) (f : List Nat) (hU : Hid (gErr n es = 0 → Uf f (eL es))) :
    Calls Tryz.prog 108 #[.agg #[.int .i64 n, .slice oe es.length c, .slice oa ar.length ca]] w (ErrPost w (chkE n es f ar)) := by
  go_enter Tryz.func108, Tryz.ntmps108
  go_wp2_with fail
  have hb0 := box_refl w (.cells #[.int .i64 n, .slice oe es.length c, .slice oa ar.length ca] 52)
  refine (rjoined_any n es oe c F _ (hs.below edgR_ok (below_box hb0)) hc (by omega) f hU).mono ?_
  rintro e w2 ⟨rfl, hb2⟩
  have hx2 := hb2.mono (B' := w.heap.size + 1) (by simp)
  have d0 := box_cell hx2 0
  have d2 := box_cell hx2 2
  simp at d0 d2
  clear hb2 hb0
  by_cases hJ : jErr n es f = 0
  · have hV := jErr_zero hJ
    have HV := hide hV
    have HC : Hid (chkE n es f ar = if (ar.length : Int) = n then rowsE ar (halfs n es) else 8) := if_pos hJ
    rw [hJ]
    by_cases hn : (ar.length : Int) = n
    · have HC2 : Hid (chkE n es f ar = rowsE ar (halfs n es)) := by show _ = _; rw [HC.out, if_pos hn]
      have hn12 := (gErr_zero hV).1
      have hq : ((ar.length : Int) != n) = false := by simp [hn]
      obtain ⟨N, rfl⟩ := Int.eq_ofNat_of_zero_le (show 0 ≤ n by omega)
      have hNar : ar.length = N := by omega
      have HNA := hide hNar
      have HH : Hid (halfs (N : Int) es = halvesU N (endsL es) (2 * (endsL es).length)) := rfl
      clear hn hV hJ hNar
      go_wp2_with fail
      go_loopw [4] (fun iv wr => ∃ k : Nat, k ≤ N ∧ iv = .int .i64 k ∧ Hid (chkE (N : Int) es f ar = rowsE (ar.drop k) ((halfs (N : Int) es).drop k)) ∧ Below (w.heap.size + 1) (w.alloc (.cells #[.int .i64 N, .slice oe es.length c, .slice oa ar.length ca] 52)) wr) (fun iv _ => N - (intOf iv).toNat)
      case atStart => exact ⟨0, by omega, rfl, HC2, hx2⟩
      case round =>
        clear hx2 d0 d2
        obtain ⟨k, hk, rfl, HS, hxr⟩ := hrel
        have hbw := below_box hxr
        have d0 := box_cell hxr 0
        have d1 := box_cell hxr 1
        have d2 := box_cell hxr 2
        simp at d0 d1 d2
        by_cases hlt : k < N
        · obtain ⟨x, hd, hget, b, off, ol, cl, hoa, _, c0, hxl, hxl2, hsl⟩ := (ha.below (slcR_ok intR_ok (by decide)) hbw).slc_at (i := k) (by have := HNA.out; omega)
          subst hoa
          have HNB := HNA.out
          obtain ⟨own, hown⟩ : ∃ own, own = halfU (endsL es) (2 * (endsL es).length) k := ⟨_, rfl⟩
          have HS2 : Hid (chkE (N : Int) es f ar = if listE x own = 0 then rowsE (ar.drop (k + 1)) ((halfs (N : Int) es).drop (k + 1)) else listE x own) := by
            show _ = _
            have hho := halvesU_get (l := endsL es) (H := 2 * (endsL es).length) hlt
            have hd2 : (halfs (N : Int) es).drop k = own :: (halfs (N : Int) es).drop (k + 1) := by
              rw [HH.out]
              have hkl : k < (halvesU N (endsL es) (2 * (endsL es).length)).length := by simp [halvesU, hlt]
              rw [List.drop_eq_getElem_cons hkl]
              congr 1
              rw [List.getElem?_eq_getElem hkl] at hho
              injection hho with hho
              rw [hho, hown]
            rw [HS.out, hd, hd2, rowsE_cons]
          have HDEG : Hid (degU N es (k : Nat) = (own.length : Nat)) := by show _ = _; rw [hown]; exact deg_half HV.out k
          have HOWN := hide hown
          have hkar : k < ar.length := by omega
          clear hown hd hget HNB
          have hcall := fun W (h : Below w.heap.size w W) (h2 : SliceR intR 1 G W ol x) => raround_any N es oe c F W (hs.below edgR_ok h) hc hc2 HV k x ol cl G h2 hxl hxl2 own HOWN HDEG
          have hq1 : (k : Int) < ar.length := by omega
          by_cases hle : listE x own = 0
          · have HS3 : Hid (chkE (N : Int) es f ar = rowsE (ar.drop (k + 1)) ((halfs (N : Int) es).drop (k + 1))) := by show _ = _; rw [HS2.out, if_pos hle]
            go_wp2_with fail
            go_region_held3 (fun w' => w'.cell? ⟨w.heap.size, 0, none⟩ = some (.int .i64 N) ∧ w'.cell? ⟨w.heap.size, 1, none⟩ = some (.slice oe es.length c) ∧ w'.cell? ⟨w.heap.size, 2, none⟩ = some (.slice (some ⟨b, off, none⟩) ar.length ca) ∧ w'.cell? ⟨b, off + k, none⟩ = some (.slice ol x.length cl)) (first | exact ⟨d0, d1, d2, c0⟩) (first
              | (go_at_call 135; refine (hcall _ hbw.drew (hsl.drew1 intR_ok)).mono ?_; rintro e w5 ⟨rfl, h5⟩; rw [hle]; have d0 := (h5.cell (World.block_lt_of_cell? _ _ d0)).trans d0; have d1 := (h5.cell (World.block_lt_of_cell? _ _ d1)).trans d1; have d2 := (h5.cell (World.block_lt_of_cell? _ _ d2)).trans d2; have c0 := (h5.cell (World.block_lt_of_cell? _ _ c0)).trans c0; have hxr := box_then hxr.drew (by simp) h5))
            all_goals
              clear hle
              go_wp2_with fail
              go_roundw
              case rel => exact ⟨k + 1, by omega, by go_num, HS3, hxr⟩
              case measure => simp [intOf]; omega
          · have HS3 : Hid (chkE (N : Int) es f ar = listE x own) := by show _ = _; rw [HS2.out, if_neg hle]
            have hq2 : (listE x own != 0) = true := by simpa using hle
            have HLE := hide hle
            clear hle
            go_wp2_with fail
            go_region_held3 (fun w' => w'.cell? ⟨w.heap.size, 0, none⟩ = some (.int .i64 N) ∧ w'.cell? ⟨w.heap.size, 1, none⟩ = some (.slice oe es.length c) ∧ w'.cell? ⟨w.heap.size, 2, none⟩ = some (.slice (some ⟨b, off, none⟩) ar.length ca) ∧ w'.cell? ⟨b, off + k, none⟩ = some (.slice ol x.length cl)) (first | exact ⟨d0, d1, d2, c0⟩) (first
              | (go_at_call 135; refine (hcall _ hbw.drew (hsl.drew1 intR_ok)).mono ?_; rintro e w5 ⟨rfl, h5⟩; have d0 := (h5.cell (World.block_lt_of_cell? _ _ d0)).trans d0; have d1 := (h5.cell (World.block_lt_of_cell? _ _ d1)).trans d1; have d2 := (h5.cell (World.block_lt_of_cell? _ _ d2)).trans d2; have c0 := (h5.cell (World.block_lt_of_cell? _ _ c0)).trans c0; have hxr := box_then hxr.drew (by simp) h5))
            all_goals
              go_wp2_with fail
              go_ret
              exact ⟨ret_int HS3.out.symm, below_box hxr⟩
        · have HS3 : Hid (chkE (N : Int) es f ar = 0) := by
            show _ = _
            rw [HS.out, List.drop_of_length_le (by have := HNA.out; omega)]
            rfl
          go_wp2_with fail
          go_ret
          exact ⟨ret_int HS3.out.symm, hbw⟩
    · have HC2 : Hid (chkE n es f ar = 8) := by show _ = _; rw [HC.out, if_neg hn]
      have hq : ((ar.length : Int) != n) = true := by simpa using hn
      have HX := hide (below_box hx2)
      clear hn
      go_wp2_with fail
      go_ret
      exact ⟨ret_int HC2.out.symm, HX.out⟩
  · have HC : Hid (chkE n es f ar = jErr n es f) := if_neg hJ
    have hq : (jErr n es f != 0) = true := by simpa using hJ
    have HX := hide (below_box hx2)
    have HJ := hide hJ
    clear hJ
    go_wp2_with fail
    go_ret
    exact ⟨ret_int HC.out.symm, HX.out⟩

end Go.Proofs.YtnigfddanoaonaaGreat

set_option linter.unusedVariables false
set_option linter.unusedSimpArgs false
set_option linter.unnecessarySimpa false
namespace Go.Proofs.YtnigfddanoaonaaGreat
open Go.RowKit

def badR (q : Int) (v : Nat) (k : Int) (d : Nat) : Prop := k < 0 ∨ ((v : Int) = q ∧ k ≠ 0) ∨ ((v : Int) ≠ q ∧ (d : Int) ≤ k)
instance (q : Int) (v : Nat) (k : Int) (d : Nat) : Decidable (badR q v k d) := by unfold badR; infer_instance
/-- The error of the rotors, from the vertex v on. -/
def rotE (q : Int) : Nat → List (List Int) → List Int → Int
  | v, a :: ar, k :: r => if badR q v k a.length then 2 else rotE q (v + 1) ar r
  | _, _, _ => 0
theorem rotE_cons (q : Int) (v : Nat) (a : List Int) (ar : List (List Int)) (k : Int) (r : List Int) : rotE q v (a :: ar) (k :: r) = if badR q v k a.length then 2 else rotE q (v + 1) ar r := rfl
theorem rotE_nil (q : Int) (v : Nat) (r : List Int) : rotE q v [] r = 0 := by cases r <;> rfl
/-- The error of a rotor configuration. -/
def rtE (n : Int) (es : List Edg) (f : List Nat) (ar : List (List Int)) (q : Int) (rot : List Int) : Int :=
  if chkE n es f ar = 0 then (if vtxB n q = true then (if (rot.length : Int) = n then rotE q 0 ar rot else 8) else 2) else chkE n es f ar
theorem chkE_zero {n : Int} {es : List Edg} {f : List Nat} {ar : List (List Int)} (h : chkE n es f ar = 0) : jErr n es f = 0 ∧ (ar.length : Int) = n ∧ rowsE ar (halfs n es) = 0 := by
  unfold chkE at h
  split at h
  · rename_i h1
    split at h
    · rename_i h2; exact ⟨h1, h2, h⟩
    · cases h
  · rename_i h1; exact absurd h h1
theorem rtE_zero {n : Int} {es : List Edg} {f : List Nat} {ar : List (List Int)} {q : Int} {rot : List Int} (h : rtE n es f ar q rot = 0) :
    chkE n es f ar = 0 ∧ (0 ≤ q ∧ q < n) ∧ (rot.length : Int) = n ∧ rotE q 0 ar rot = 0 := by
  unfold rtE at h
  split at h
  · rename_i h1
    split at h
    · rename_i h2
      split at h
      · rename_i h3; exact ⟨h1, vtxB_iff.1 h2, h3, h⟩
      · cases h
    · cases h
  · rename_i h1; exact absurd h h1

set_option maxRecDepth 100000 in
set_option maxHeartbeats 8000000 in
theorem rotcheck_any (n : Int) (es : List Edg) (oe : Option Addr) (c : Nat) (ar : List (List Int)) (oa : Option Addr) (ca : Nat) (F G : Foot) (w : World) (hs : SliceR edgR 3 F w oe es) (hc : es.length ≤ c) (hc2 : es.length ≤ 1000)
    (ha : SliceR (slcR intR 1) 1 G w oa ar) (hac : ar.length ≤ ca) (hac2 : ar.length ≤ 9223372036854775807) (f : List Nat) (hU : Hid (gErr n es = 0 → Uf f (eL es)))
    (q : Int) (rot : List Int) (ot : Option Addr) (ct : Nat) (H : Foot) (hr : SliceR intR 1 H w ot rot) (hrc : rot.length ≤ ct) (hrl : rot.length ≤ 9223372036854775807) :
    Calls Tryz.prog 69 #[.agg #[.int .i64 n, .slice oe es.length c, .slice oa ar.length ca], .int .i64 q, .slice ot rot.length ct] w (ErrPost w (rtE n es f ar q rot)) := by
  go_enter Tryz.func69, Tryz.ntmps69
  go_wp2_with fail
  have hb0 := box_refl w (.cells #[.int .i64 n, .slice oe es.length c, .slice oa ar.length ca] 52)
  refine (rbcheck_any n es oe c ar oa ca F G _ (hs.below edgR_ok (below_box hb0)) hc hc2 (ha.below (slcR_ok intR_ok (by decide)) (below_box hb0)) hac hac2 f hU).mono ?_
  rintro e w2 ⟨rfl, hb2⟩
  have hx2 := hb2.mono (B' := w.heap.size + 1) (by simp)
  have d0 := box_cell hx2 0
  have d1 := box_cell hx2 1
  simp at d0 d1
  have HX := hide (below_box hx2)
  have HX2 := hide hx2
  clear hb2 hb0 hx2
  by_cases hJ : chkE n es f ar = 0
  · have HC : Hid (rtE n es f ar q rot = if vtxB n q = true then (if (rot.length : Int) = n then rotE q 0 ar rot else 8) else 2) := if_pos hJ
    have HN := hide (chkE_zero hJ).2.1
    rw [hJ]
    clear hJ
    by_cases hV : 0 ≤ q ∧ q < n
    · have HV := hide (vtxB_iff.2 hV)
      have q1 : decide (q < 0) = false := by simp; omega
      have q2 : decide (n ≤ q) = false := by simp; omega
      have q3 : decide (q < n) = true := by simp; omega
      have hqn : 0 ≤ q := hV.1
      clear hV
      by_cases hlen : (rot.length : Int) = n
      · have HC2 : Hid (rtE n es f ar q rot = rotE q 0 ar rot) := by show _ = _; rw [HC.out, if_pos HV.out, if_pos hlen]
        have q4 : ((rot.length : Int) != n) = false := by simp [hlen]
        have hra : Hid (ar.length = rot.length) := by have h1 := HN.out; show _ = _; omega
        have HLen := hide hlen
        clear hlen
        go_wp2_with fail
        go_loopw [32] (fun iv wr => ∃ k : Nat, k ≤ rot.length ∧ iv = .int .i64 k ∧ Hid (rtE n es f ar q rot = rotE q k (ar.drop k) (rot.drop k)) ∧ Below (w.heap.size + 1) (w.alloc (.cells #[.int .i64 n, .slice oe es.length c, .slice oa ar.length ca] 52)) wr) (fun iv _ => rot.length - (intOf iv).toNat)
        case atStart => exact ⟨0, by omega, rfl, HC2, HX2.out⟩
        case round =>
          clear d0 d1
          obtain ⟨k, hk, rfl, HS, hxr⟩ := hrel
          have hbw := below_box hxr
          have d0 := box_cell hxr 0
          have d1 := box_cell hxr 1
          simp at d0 d1
          by_cases hlt : k < rot.length
          · obtain ⟨x, hd, _, _, b, off, hot, _, c0⟩ := (hr.below intR_ok hbw).int_at hlt
            obtain ⟨a, hda, _, b2, off2, ol, cl, hoa, _, c1, hxl, hxl2, _⟩ := (ha.below (slcR_ok intR_ok (by decide)) hbw).slc_at (i := k) (by rw [hra.out]; exact hlt)
            subst hot hoa
            have d2 := box_cell hxr 2
            simp at d2
            have hka : k < ar.length := by rw [hra.out]; exact hlt
            have hkq1 : (k : Int) < ar.length := by omega
            have HS2 : Hid (rtE n es f ar q rot = if badR q k x a.length then 2 else rotE q (k + 1) (ar.drop (k + 1)) (rot.drop (k + 1))) := by
              show _ = _
              rw [HS.out, hd, hda, rotE_cons]
            clear hd hda
            have HB := hide hbw
            clear hbw
            by_cases h0 : x < 0
            · have p0 : decide (x < 0) = true := by simp [h0]
              have HR : Hid (rtE n es f ar q rot = 2) := by show _ = _; rw [HS2.out, if_pos (.inl h0)]
              clear h0
              go_wp2_with fail
              go_ret
              exact ⟨ret_int HR.out.symm, HB.out⟩
            · have p0 : decide (x < 0) = false := by simp; omega
              by_cases hv : (k : Int) = q
              · have p1 : ((k : Int) == q) = true := by simp [hv]
                have p2 : ((k : Int) != q) = false := by simp [hv]
                by_cases hx : x = 0
                · have p3 : (x != 0) = false := by simp [hx]
                  have HR : Hid (rtE n es f ar q rot = rotE q (k + 1) (ar.drop (k + 1)) (rot.drop (k + 1))) := by
                    show _ = _
                    rw [HS2.out, if_neg (by rintro (h | ⟨_, h⟩ | ⟨h, _⟩) <;> first | exact h0 h | exact h hx | exact h hv)]
                  have HXX := hide (And.intro h0 (And.intro hv hx))
                  clear h0 hv hx
                  go_wp2_with fail
                  go_roundw
                  case rel => exact ⟨k + 1, by omega, by go_num, HR, hxr⟩
                  case measure => simp [intOf]; omega
                · have p3 : (x != 0) = true := by simp [hx]
                  have HR : Hid (rtE n es f ar q rot = 2) := by show _ = _; rw [HS2.out, if_pos (.inr (.inl ⟨hv, hx⟩))]
                  have HXX := hide (And.intro h0 (And.intro hv hx))
                  clear h0 hv hx
                  go_wp2_with fail
                  go_ret
                  exact ⟨ret_int HR.out.symm, HB.out⟩
              · have p1 : ((k : Int) == q) = false := by simp [hv]
                have p2 : ((k : Int) != q) = true := by simp [hv]
                by_cases hx : (a.length : Int) ≤ x
                · have p3 : decide ((a.length : Int) ≤ x) = true := by simp [hx]
                  have p4 : decide (x < (a.length : Int)) = false := by simp; omega
                  have HR : Hid (rtE n es f ar q rot = 2) := by show _ = _; rw [HS2.out, if_pos (.inr (.inr ⟨hv, hx⟩))]
                  have HXX := hide (And.intro h0 (And.intro hv hx))
                  clear h0 hv hx
                  go_wp2_with fail
                  go_ret
                  exact ⟨ret_int HR.out.symm, HB.out⟩
                · have p3 : decide ((a.length : Int) ≤ x) = false := by simp; omega
                  have p4 : decide (x < (a.length : Int)) = true := by simp; omega
                  have HR : Hid (rtE n es f ar q rot = rotE q (k + 1) (ar.drop (k + 1)) (rot.drop (k + 1))) := by
                    show _ = _
                    rw [HS2.out, if_neg (by rintro (h | ⟨h, _⟩ | ⟨_, h⟩) <;> first | exact h0 h | exact hv h | exact hx h)]
                  have HXX := hide (And.intro h0 (And.intro hv hx))
                  clear h0 hv hx
                  go_wp2_with fail
                  go_roundw
                  case rel => exact ⟨k + 1, by omega, by go_num, HR, hxr⟩
                  case measure => simp [intOf]; omega
          · have HR : Hid (rtE n es f ar q rot = 0) := by
              show _ = _
              rw [HS.out, List.drop_of_length_le (by rw [hra.out]; omega), rotE_nil]
            have HB := hide hbw
            clear hbw
            go_wp2_with fail
            go_ret
            exact ⟨ret_int HR.out.symm, HB.out⟩
      · have HR : Hid (rtE n es f ar q rot = 8) := by show _ = _; rw [HC.out, if_pos HV.out, if_neg hlen]
        have q4 : ((rot.length : Int) != n) = true := by simp [hlen]
        have HLen := hide hlen
        clear hlen
        go_wp2_with fail
        go_ret
        exact ⟨ret_int HR.out.symm, HX.out⟩
    · have HR : Hid (rtE n es f ar q rot = 2) := by show _ = _; rw [HC.out, if_neg (fun h => hV (vtxB_iff.1 h))]
      by_cases hq : q < 0
      · have q1 : decide (q < 0) = true := by simp [hq]
        clear hV hq
        go_wp2_with fail
        go_ret
        exact ⟨ret_int HR.out.symm, HX.out⟩
      · have q1 : decide (q < 0) = false := by simp; omega
        have q2 : decide (n ≤ q) = true := by simp; omega
        have q3 : decide (q < n) = false := by simp; omega
        have HV := hide (And.intro hV hq)
        clear hV hq
        go_wp2_with fail
        go_ret
        exact ⟨ret_int HR.out.symm, HX.out⟩
  · have HR : Hid (rtE n es f ar q rot = chkE n es f ar) := if_neg hJ
    have hq : (chkE n es f ar != 0) = true := by simpa using hJ
    have HJ := hide hJ
    clear hJ
    go_wp2_with fail
    go_ret
    exact ⟨ret_int HR.out.symm, HX.out⟩

set_option maxRecDepth 100000 in
set_option maxHeartbeats 8000000 in
theorem r45check_any (n : Int) (es : List Edg) (oe : Option Addr) (c : Nat) (ar : List (List Int)) (oa : Option Addr) (ca : Nat) (F G : Foot) (w : World) (hs : SliceR edgR 3 F w oe es) (hc : es.length ≤ c) (hc2 : es.length ≤ 1000)
    (ha : SliceR (slcR intR 1) 1 G w oa ar) (hac : ar.length ≤ ca) (hac2 : ar.length ≤ 9223372036854775807) (f : List Nat) (hU : Hid (gErr n es = 0 → Uf f (eL es)))
    (q : Int) (rot : List Int) (ot : Option Addr) (ct : Nat) (H : Foot) (hr : SliceR intR 1 H w ot rot) (hrc : rot.length ≤ ct) (hrl : rot.length ≤ 9223372036854775807) :
    Calls Tryz.prog 75 #[.agg #[.int .i64 n, .slice oe es.length c, .slice oa ar.length ca], .int .i64 q, .slice ot rot.length ct] w (ErrPost w (rtE n es f ar q rot)) := by
  go_enter Tryz.func75, Tryz.ntmps75
  go_wp2_with fail
  have hb0 := box_refl w (.cells #[.int .i64 n, .slice oe es.length c, .slice oa ar.length ca] 52)
  refine (r44check_any n es oe c ar oa ca F G _ (hs.below edgR_ok (below_box hb0)) hc hc2 (ha.below (slcR_ok intR_ok (by decide)) (below_box hb0)) hac hac2 f hU).mono ?_
  rintro e w2 ⟨rfl, hb2⟩
  have hx2 := hb2.mono (B' := w.heap.size + 1) (by simp)
  have d0 := box_cell hx2 0
  have d1 := box_cell hx2 1
  simp at d0 d1
  have HX := hide (below_box hx2)
  have HX2 := hide hx2
  clear hb2 hb0 hx2
  by_cases hJ : chkE n es f ar = 0
  · have HC : Hid (rtE n es f ar q rot = if vtxB n q = true then (if (rot.length : Int) = n then rotE q 0 ar rot else 8) else 2) := if_pos hJ
    have HN := hide (chkE_zero hJ).2.1
    rw [hJ]
    clear hJ
    by_cases hV : 0 ≤ q ∧ q < n
    · have HV := hide (vtxB_iff.2 hV)
      have q1 : decide (q < 0) = false := by simp; omega
      have q2 : decide (n ≤ q) = false := by simp; omega
      have q3 : decide (q < n) = true := by simp; omega
      have hqn : 0 ≤ q := hV.1
      clear hV
      by_cases hlen : (rot.length : Int) = n
      · have HC2 : Hid (rtE n es f ar q rot = rotE q 0 ar rot) := by show _ = _; rw [HC.out, if_pos HV.out, if_pos hlen]
        have q4 : ((rot.length : Int) != n) = false := by simp [hlen]
        have hra : Hid (ar.length = rot.length) := by have h1 := HN.out; show _ = _; omega
        have HLen := hide hlen
        clear hlen
        go_wp2_with fail
        refine (rvertex_any n q oe es.length c _).mono ?_
        rintro e w3 ⟨rfl, hb3⟩
        rw [HV.out]
        have d0 := (hb3.cell (World.block_lt_of_cell? _ _ d0)).trans d0
        have d1 := (hb3.cell (World.block_lt_of_cell? _ _ d1)).trans d1
        have HX2 := hide (box_then HX2.out (by simp) hb3)
        clear hb3
        go_wp2_with fail
        go_loopw [8] (fun iv wr => ∃ k : Nat, k ≤ rot.length ∧ iv = .int .i64 k ∧ Hid (rtE n es f ar q rot = rotE q k (ar.drop k) (rot.drop k)) ∧ Below (w.heap.size + 1) (w.alloc (.cells #[.int .i64 n, .slice oe es.length c, .slice oa ar.length ca] 52)) wr) (fun iv _ => rot.length - (intOf iv).toNat)
        case atStart => exact ⟨0, by omega, rfl, HC2, HX2.out⟩
        case round =>
          clear d0 d1
          obtain ⟨k, hk, rfl, HS, hxr⟩ := hrel
          have hbw := below_box hxr
          have d0 := box_cell hxr 0
          have d1 := box_cell hxr 1
          simp at d0 d1
          by_cases hlt : k < rot.length
          · obtain ⟨x, hd, _, _, b, off, hot, _, c0⟩ := (hr.below intR_ok hbw).int_at hlt
            obtain ⟨a, hda, _, b2, off2, ol, cl, hoa, _, c1, hxl, hxl2, _⟩ := (ha.below (slcR_ok intR_ok (by decide)) hbw).slc_at (i := k) (by rw [hra.out]; exact hlt)
            subst hot hoa
            have d2 := box_cell hxr 2
            simp at d2
            have hka : k < ar.length := by rw [hra.out]; exact hlt
            have hkq1 : (k : Int) < ar.length := by omega
            have HS2 : Hid (rtE n es f ar q rot = if badR q k x a.length then 2 else rotE q (k + 1) (ar.drop (k + 1)) (rot.drop (k + 1))) := by
              show _ = _
              rw [HS.out, hd, hda, rotE_cons]
            clear hd hda
            have HB := hide hbw
            clear hbw
            by_cases h0 : x < 0
            · have p0 : decide (x < 0) = true := by simp [h0]
              have HR : Hid (rtE n es f ar q rot = 2) := by show _ = _; rw [HS2.out, if_pos (.inl h0)]
              clear h0
              go_wp2_with fail
              go_quiet (fail)
              go_wp2_with fail
              go_ret
              exact ⟨ret_int HR.out.symm, below_drewN HB.out _⟩
            · have p0 : decide (x < 0) = false := by simp; omega
              by_cases hv : (k : Int) = q
              · have p1 : ((k : Int) == q) = true := by simp [hv]
                have p2 : ((k : Int) != q) = false := by simp [hv]
                by_cases hx : x = 0
                · have p3 : (x != 0) = false := by simp [hx]
                  have HR : Hid (rtE n es f ar q rot = rotE q (k + 1) (ar.drop (k + 1)) (rot.drop (k + 1))) := by
                    show _ = _
                    rw [HS2.out, if_neg (by rintro (h | ⟨_, h⟩ | ⟨h, _⟩) <;> first | exact h0 h | exact h hx | exact h hv)]
                  have HXX := hide (And.intro h0 (And.intro hv hx))
                  clear h0 hv hx
                  go_wp2_with fail
                  go_quiet (fail)
                  go_wp2_with fail
                  go_roundw
                  case rel => exact ⟨k + 1, by omega, by go_num, HR, below_drewN hxr _⟩
                  case measure => simp [intOf]; omega
                · have p3 : (x != 0) = true := by simp [hx]
                  have HR : Hid (rtE n es f ar q rot = 2) := by show _ = _; rw [HS2.out, if_pos (.inr (.inl ⟨hv, hx⟩))]
                  have HXX := hide (And.intro h0 (And.intro hv hx))
                  clear h0 hv hx
                  go_wp2_with fail
                  go_quiet (fail)
                  go_wp2_with fail
                  go_ret
                  exact ⟨ret_int HR.out.symm, below_drewN HB.out _⟩
              · have p1 : ((k : Int) == q) = false := by simp [hv]
                have p2 : ((k : Int) != q) = true := by simp [hv]
                by_cases hx : (a.length : Int) ≤ x
                · have p3 : decide ((a.length : Int) ≤ x) = true := by simp [hx]
                  have p4 : decide (x < (a.length : Int)) = false := by simp; omega
                  have HR : Hid (rtE n es f ar q rot = 2) := by show _ = _; rw [HS2.out, if_pos (.inr (.inr ⟨hv, hx⟩))]
                  have HXX := hide (And.intro h0 (And.intro hv hx))
                  clear h0 hv hx
                  go_wp2_with fail
                  go_quiet (fail)
                  go_wp2_with fail
                  go_ret
                  exact ⟨ret_int HR.out.symm, below_drewN HB.out _⟩
                · have p3 : decide ((a.length : Int) ≤ x) = false := by simp; omega
                  have p4 : decide (x < (a.length : Int)) = true := by simp; omega
                  have HR : Hid (rtE n es f ar q rot = rotE q (k + 1) (ar.drop (k + 1)) (rot.drop (k + 1))) := by
                    show _ = _
                    rw [HS2.out, if_neg (by rintro (h | ⟨h, _⟩ | ⟨_, h⟩) <;> first | exact h0 h | exact hv h | exact hx h)]
                  have HXX := hide (And.intro h0 (And.intro hv hx))
                  clear h0 hv hx
                  go_wp2_with fail
                  go_quiet (fail)
                  go_wp2_with fail
                  go_roundw
                  case rel => exact ⟨k + 1, by omega, by go_num, HR, below_drewN hxr _⟩
                  case measure => simp [intOf]; omega
          · have HR : Hid (rtE n es f ar q rot = 0) := by
              show _ = _
              rw [HS.out, List.drop_of_length_le (by rw [hra.out]; omega), rotE_nil]
            have HB := hide hbw
            clear hbw
            go_wp2_with fail
            go_ret
            exact ⟨ret_int HR.out.symm, HB.out⟩
      · have HR : Hid (rtE n es f ar q rot = 8) := by show _ = _; rw [HC.out, if_pos HV.out, if_neg hlen]
        have q4 : ((rot.length : Int) != n) = true := by simp [hlen]
        have HLen := hide hlen
        clear hlen
        go_wp2_with fail
        refine (rvertex_any n q oe es.length c _).mono ?_
        rintro e w3 ⟨rfl, hb3⟩
        rw [HV.out]
        have d0 := (hb3.cell (World.block_lt_of_cell? _ _ d0)).trans d0
        have HX := hide (below_then HX.out hb3)
        clear hb3
        go_wp2_with fail
        go_ret
        exact ⟨ret_int HR.out.symm, HX.out⟩
    · have HR : Hid (rtE n es f ar q rot = 2) := by show _ = _; rw [HC.out, if_neg (fun h => hV (vtxB_iff.1 h))]
      have HV : Hid (vtxB n q = false) := by
        show _ = _
        cases h : vtxB n q with
        | false => rfl
        | true => exact absurd (vtxB_iff.1 h) hV
      clear hV
      go_wp2_with fail
      refine (rvertex_any n q oe es.length c _).mono ?_
      rintro e w3 ⟨rfl, hb3⟩
      rw [HV.out]
      have HX := hide (below_then HX.out hb3)
      clear hb3
      go_wp2_with fail
      go_ret
      exact ⟨ret_int HR.out.symm, HX.out⟩
  · have HR : Hid (rtE n es f ar q rot = chkE n es f ar) := if_neg hJ
    have hq : (chkE n es f ar != 0) = true := by simpa using hJ
    have HJ := hide hJ
    clear hJ
    go_wp2_with fail
    go_ret
    exact ⟨ret_int HR.out.symm, HX.out⟩

end Go.Proofs.YtnigfddanoaonaaGreat

set_option linter.unusedVariables false
set_option linter.unusedSimpArgs false
namespace Go.Proofs.YtnigfddanoaonaaGreat
open Go.RowKit

theorem iInfo : (Tryz.prog.info? 3).map (fun i => (i.zero, i.size, i.bytes)) = some (some (.int .i64 0), 1, 8) := by kernel_rfl


set_option maxHeartbeats 400000 in
theorem cloneI_any (l : List Int) (oa : Option Addr) (c : Nat) (F : Foot) (w : World) (hs : SliceR intR 1 F w oa l) (hc : l.length ≤ c) (hc2 : l.length ≤ 1000000000000) :
    Calls Tryz.prog 72 #[.slice oa l.length c] w fun e w' => ∃ v, e = .returned v ∧ OwnS intR 1 w.heap.size 3 Non w' v l ∧ Below w.heap.size w w' := by
  cases oa with
  | none =>
    have hl : l = [] := by
      cases l with
      | nil => rfl
      | cons x r => obtain ⟨b, off, cs, h, _⟩ := hs 0 x rfl; cases h
    subst hl
    have hq : ∀ w : World, (binOp .eql 23 (.slice none 0 c) (.slice none 0 0)).run Tryz.prog w = .ok (.bool true) w := fun w => Lib.run_eql_slice_nil w _ 3 none 0 c 0 0 Tryz.underlying23
    go_enter Tryz.func72, Tryz.ntmps72
    go_wp2_with fail
    go_ret
    exact ⟨_, rfl, OwnS.nil _ _ _ _ _ _, Below.refl _ _⟩
  | some ad =>
    have hq : ∀ w : World, (binOp .eql 23 (.slice (some ad) l.length c) (.slice none 0 0)).run Tryz.prog w = .ok (.bool false) w := fun w => Lib.run_eql_slice_nil w _ 3 (some ad) l.length c 0 0 Tryz.underlying23
    go_enter Tryz.func72, Tryz.ntmps72
    go_wp2_with (at_builtin; refine wpList_append_rep rfl (.tmp 5) (.tmp 6) 23 rfl w.heap.size 3 _ 1 8 Tryz.underlying23 iInfo rfl (by decide) intR_ok Non F (.slice (some ⟨w.heap.size, 0, none⟩) 0 0) [] rfl (OwnS.made _ _ _ _ _) (some ad) c l rfl (hs.below intR_ok (bnew (Below.refl _ _) _)) (fun _ _ h => h) (fun _ h => h.elim) (by simp; omega) (by simp; omega) (by simp) ?_; intro v' w1 ho hb1 hg)
    go_ret
    exact ⟨_, rfl, by simpa using ho, (bnew (Below.refl _ _) _).trans hb1⟩

set_option maxHeartbeats 400000 in
theorem cloneD_any (l : List Int) (oa : Option Addr) (c : Nat) (F : Foot) (w : World) (hs : SliceR intR 1 F w oa l) (hc : l.length ≤ c) (hc2 : l.length ≤ 1000000000000) :
    Calls Tryz.prog 112 #[.slice oa l.length c] w fun e w' => ∃ v, e = .returned v ∧ OwnS intR 1 w.heap.size 3 Non w' v l ∧ Below w.heap.size w w' := by
  cases oa with
  | none =>
    have hl : l = [] := by
      cases l with
      | nil => rfl
      | cons x r => obtain ⟨b, off, cs, h, _⟩ := hs 0 x rfl; cases h
    subst hl
    have hq : ∀ w : World, (binOp .eql 44 (.slice none 0 c) (.slice none 0 0)).run Tryz.prog w = .ok (.bool true) w := fun w => Lib.run_eql_slice_nil w _ 3 none 0 c 0 0 Tryz.underlying44
    go_enter Tryz.func112, Tryz.ntmps112
    go_wp2_with fail
    go_ret
    exact ⟨_, rfl, OwnS.nil _ _ _ _ _ _, Below.refl _ _⟩
  | some ad =>
    have hq : ∀ w : World, (binOp .eql 44 (.slice (some ad) l.length c) (.slice none 0 0)).run Tryz.prog w = .ok (.bool false) w := fun w => Lib.run_eql_slice_nil w _ 3 (some ad) l.length c 0 0 Tryz.underlying44
    go_enter Tryz.func112, Tryz.ntmps112
    go_wp2_with (at_builtin; refine wpList_append_rep rfl (.tmp 5) (.tmp 6) 44 rfl w.heap.size 3 _ 1 8 Tryz.underlying44 iInfo rfl (by decide) intR_ok Non F (.slice (some ⟨w.heap.size, 0, none⟩) 0 0) [] rfl (OwnS.made _ _ _ _ _) (some ad) c l rfl (hs.below intR_ok (bnew (Below.refl _ _) _)) (fun _ _ h => h) (fun _ h => h.elim) (by simp; omega) (by simp; omega) (by simp) ?_; intro v' w1 ho hb1 hg)
    go_ret
    exact ⟨_, rfl, by simpa using ho, (bnew (Below.refl _ _) _).trans hb1⟩

end Go.Proofs.YtnigfddanoaonaaGreat

set_option linter.unusedVariables false
set_option linter.unusedSimpArgs false
set_option linter.unnecessarySimpa false
namespace Go.Proofs.YtnigfddanoaonaaGreat
open Go.RowKit

/-- The pointer p leads to a board: its rotors lie in the row rg. -/
structure Brd (B : Nat) (w : World) (p rg cap : Nat) (tv : Value) (q : Int) (av : Value) (tl rot : List Int) (rest : List Value) : Prop where
  pB : B ≤ p
  box : Box w p [.int .i64 q, av, tv, .slice (some ⟨rg, 0, none⟩) rot.length cap] 177
  gB : B ≤ rg
  row : Row1 (Value.int .i64) w rg 3 rot rest
  len : cap = rot.length + rest.length
  max : cap ≤ maxLen
  tos : OwnS intR 1 B 3 Non w tv tl
  off : tv.ownBlock ≠ some rg

section
variable {B : Nat} {w w' : World} {p rg cap : Nat} {tv : Value} {q : Int} {av : Value} {tl rot : List Int} {rest : List Value}
theorem Brd.ne (h : Brd B w p rg cap tv q av tl rot rest) : p ≠ rg := by
  intro e
  have h1 := h.box
  have h2 := h.row
  unfold Box at h1
  unfold Row1 at h2
  rw [← e, h1] at h2
  injection h2 with h2
  injection h2 with _ h2
  exact absurd h2 (by decide)
/-- What a board keeps while its blocks lie. -/
theorem Brd.keep (h : Brd B w p rg cap tv q av tl rot rest) (hb : ∀ k, B ≤ k → k < w.heap.size → k = p ∨ k = rg ∨ tv.ownBlock = some k → w'.heap[k]? = w.heap[k]?) : Brd B w' p rg cap tv q av tl rot rest where
  pB := h.pB
  box := h.box.keep (hb p h.pB h.box.lt (.inl rfl))
  gB := h.gB
  row := h.row.keep (hb rg h.gB h.row.lt (.inr (.inl rfl)))
  len := h.len
  max := h.max
  tos := h.tos.keep intR_ok (fun g hg => hb g (h.tos.block g hg).1 (h.tos.block g hg).2 (.inr (.inr hg))) (fun _ hk _ => hk.elim)
  off := h.off
theorem Brd.below (h : Brd B w p rg cap tv q av tl rot rest) (hb : Below w.heap.size w w') : Brd B w' p rg cap tv q av tl rot rest := h.keep fun k _ hk _ => hb.block k hk
theorem Brd.rebase {B' : Nat} (h : Brd B w p rg cap tv q av tl rot rest) (hb : B' ≤ B) : Brd B' w p rg cap tv q av tl rot rest := ⟨Nat.le_trans hb h.pB, h.box, Nat.le_trans hb h.gB, h.row, h.len, h.max, h.tos.rebase hb, h.off⟩
/-- A rotor is turned. -/
theorem Brd.put (h : Brd B w p rg cap tv q av tl rot rest) {v : Nat} (hv : v < rot.length) (y : Int) : Brd B (w.setCell ⟨rg, v, none⟩ (.int .i64 y)) p rg cap tv q av tl (rot.set v y) rest where
  pB := h.pB
  box := by rw [List.length_set]; exact h.box.other h.ne _
  gB := h.gB
  row := h.row.put hv y
  len := by rw [List.length_set]; exact h.len
  max := h.max
  tos := h.tos.keep intR_ok (fun g hg => Below.heap_setCell w _ _ g (fun e => h.off (by rw [hg]; exact congrArg some e))) (fun _ hk _ => hk.elim)
  off := h.off
end

theorem grown_drewNR {w w' : World} {o : Option Nat} (h : w.grownBy w' o) (n : Nat) : w.grownBy (w'.drewN n) o := ⟨h.os, h.tape, h.output, h.size, h.block⟩

theorem grown_cell (W : World) (b i : Nat) (v : Value) : W.grownBy (W.setCell ⟨b, i, none⟩ v) (some b) :=
  ⟨rfl, rfl, rfl, (KeepsWalks.setCell W _ v).size, fun k _ hk => Below.heap_setCell _ _ _ k (fun e => hk (by rw [e]))⟩

def StepPost (B : Nat) (w : World) (p rg cap : Nat) (tv : Value) (q : Int) (av : Value) (tl rot : List Int) (rest : List Value) (v : Nat) (y t : Int) (e : Ending) (w' : World) : Prop :=
  e = .returned (.int .i64 t) ∧ Brd B w' p rg cap tv q av tl (rot.set v y) rest ∧ w.grownBy w' (some rg)

set_option maxRecDepth 100000 in
set_option maxHeartbeats 4000000 in
theorem step_any (B : Nat) (w : World) (p rg cap : Nat) (tv : Value) (q : Int) (tl rot : List Int) (rest : List Value) (oa : Option Addr) (ca : Nat) (ar : List (List Int))
    (hD : Brd B w p rg cap tv q (.slice oa ar.length ca) tl rot rest) (ha : SliceR (slcR intR 1) 1 (Lt B) w oa ar) (v : Nat) (hvr : v < rot.length) (hva : v < ar.length) (l : List Int) (hl : ar[v]? = some l) (k : Nat) (hk : rot[v]? = some (k : Int)) (hkl : k < l.length)
    (hll : l.length ≤ 1000000) (h : Nat) (hh : l[(k + 1) % l.length]? = some (h : Int)) (t : Int) (ht : tl[h]? = some t) :
    Calls Tryz.prog 113 #[.pointer (some ⟨p, 0, none⟩), .int .i64 v] w (StepPost B w p rg cap tv q (.slice oa ar.length ca) tl rot rest v ((k + 1) % l.length : Nat) t) := by
  obtain ⟨x, _, hx, b, off, ol, cl, hoa, hbB, c0, hxl, _, hsl⟩ := ha.slc_at hva
  rw [hl] at hx
  injection hx with hx
  subst hx
  subst hoa
  obtain ⟨j, hj⟩ : ∃ j, j = (k + 1) % l.length := ⟨_, rfl⟩
  rw [← hj] at hh ⊢
  have hjl : j < l.length := by rw [hj]; exact Nat.mod_lt _ (by omega)
  have hrem : ((k : Int) + 1).tmod (l.length : Int) = (j : Int) := by
    rw [hj, Int.tmod_eq_emod_of_nonneg (by omega)]
    rfl
  have HJ := hide hj
  have HD := hide hD
  obtain ⟨y, _, hy, iy, b2, off2, hol, hb2, e0⟩ := hsl.int_at hjl
  rw [hh] at hy
  injection hy with hy
  subst hy
  subst hol
  obtain ⟨ot, ct, rfl, htc, hst⟩ := hD.tos.slice intR_ok
  have htl : h < tl.length := (List.getElem?_eq_some_iff.1 ht).1
  obtain ⟨z, _, hz, iz, b3, off3, hot, _, t0⟩ := hst.int_at htl
  rw [ht] at hz
  injection hz with hz
  subst hz
  subst hot
  have d1 := hD.box.cell 1
  have d2 := hD.box.cell 2
  have d3 := hD.box.cell 3
  simp at d1 d2 d3
  have r0 := hD.row.cell hk
  have f0 := hD.row.free v
  have hrg : rot.length ≤ cap := by have := hD.len; omega
  have hgb : b ≠ rg := by have := hD.gB; have h2 : b < B := hbB; omega
  have hgb2 : b2 ≠ rg := by have := hD.gB; have h2 : b2 < B := hb2; omega
  have hgb3 : b3 ≠ rg := by
    have := hD.off
    simp only [Value.ownBlock] at this
    exact fun e => this (by rw [e])
  have hpg : p ≠ rg := hD.ne
  clear hj hl hk hh ht hD
  go_enter Tryz.func113, Tryz.ntmps113
  go_wp2_with fail
  go_region
  all_goals
    go_wp2_with fail
    go_quiet (fail)
    go_wp2_with fail
    go_ret
    exact ⟨rfl, (HD.out.put hvr _).keep (fun _ _ _ _ => rfl), grown_drewNR (grown_drewNR (grown_cell _ _ _ _) 1) _⟩

end Go.Proofs.YtnigfddanoaonaaGreat

set_option linter.unusedVariables false
set_option linter.unusedSimpArgs false
set_option linter.unnecessarySimpa false
namespace Go.Proofs.YtnigfddanoaonaaGreat
open Go.RowKit

/-- The vertices to which the half-edges lead. -/
def toL (l : List (Int × Int)) : List Int := l.flatMap fun p => [p.2, p.1]
theorem toL_len (l : List (Int × Int)) : (toL l).length = 2 * l.length := by
  induction l with
  | nil => rfl
  | cons x r ih => simp only [toL, List.flatMap_cons, List.length_append, List.length_cons, List.length_nil] at *; omega
theorem toL_snoc (l : List (Int × Int)) (p : Int × Int) : toL (l ++ [p]) = toL l ++ [p.2, p.1] := by simp [toL]
/-- The half-edge opposite. -/
def oppH (h : Nat) : Nat := if h % 2 = 0 then h + 1 else h - 1
theorem toL_get (l : List (Int × Int)) : ∀ h, h < 2 * l.length → (toL l)[h]? = some (hv l (oppH h)) := by
  induction l with
  | nil => intro h hh; simp at hh
  | cons x r ih =>
    intro h hh
    show ([x.2, x.1] ++ toL r)[h]? = _
    match h with
    | 0 => rfl
    | 1 => rfl
    | h + 2 =>
      have h1 := ih h (by simp at hh; omega)
      show (toL r)[h]? = _
      rw [h1]
      have h2 : oppH (h + 2) = oppH h + 2 := by unfold oppH; split <;> (split <;> omega)
      rw [h2]
      unfold hv
      have h3 : (oppH h + 2) % 2 = oppH h % 2 := by omega
      have h4 : (oppH h + 2) / 2 = oppH h / 2 + 1 := by omega
      rw [h3, h4]
      rfl

def BoardPost (w : World) (n : Int) (es : List Edg) (f : List Nat) (ar : List (List Int)) (oa : Option Addr) (ca : Nat) (q : Int) (rot : List Int) (e : Ending) (w' : World) : Prop :=
  ∃ p rg cap tv rest, e = .returned (.tuple #[.pointer (some ⟨p, 0, none⟩), .int .i64 0]) ∧ Brd w.heap.size w' p rg cap tv q (.slice oa ar.length ca) (toL (endsL es)) rot rest ∧ Below w.heap.size w w'
def BoardErr (w : World) (x : Int) (e : Ending) (w' : World) : Prop := e = .returned (.tuple #[.pointer none, .int .i64 x]) ∧ Below w.heap.size w w'

set_option maxRecDepth 100000 in
set_option maxHeartbeats 8000000 in
theorem boardOf_any (n : Int) (es : List Edg) (oe : Option Addr) (c : Nat) (ar : List (List Int)) (oa : Option Addr) (ca : Nat) (F G : Foot) (w : World) (hs : SliceR edgR 3 F w oe es) (hc : es.length ≤ c) (hc2 : es.length ≤ 1000)
    (ha : SliceR (slcR intR 1) 1 G w oa ar) (hac : ar.length ≤ ca) (hac2 : ar.length ≤ 9223372036854775807) (f : List Nat) (hU : Hid (gErr n es = 0 → Uf f (eL es)))
    (q : Int) (rot : List Int) (ot : Option Addr) (ct : Nat) (H : Foot) (hr : SliceR intR 1 H w ot rot) (hrc : rot.length ≤ ct) (hrl : rot.length ≤ 9223372036854775807) (hE : Hid (rtE n es f ar q rot = 0)) :
    Calls Tryz.prog 111 #[.agg #[.int .i64 n, .slice oe es.length c, .slice oa ar.length ca], .int .i64 q, .slice ot rot.length ct] w (BoardPost w n es f ar oa ca q rot) := by
  go_enter Tryz.func111, Tryz.ntmps111
  go_wp2_with fail
  have hb0 := box_refl w (.cells #[.int .i64 n, .slice oe es.length c, .slice oa ar.length ca] 52)
  refine (rotcheck_any n es oe c ar oa ca F G _ (hs.below edgR_ok (below_box hb0)) hc hc2 (ha.below (slcR_ok intR_ok (by decide)) (below_box hb0)) hac hac2 f hU q rot ot ct H (hr.below intR_ok (below_box hb0)) hrc hrl).mono ?_
  rintro e w2 ⟨rfl, hb2⟩
  have hx2 := hb2.mono (B' := w.heap.size + 1) (by simp)
  have d0 := box_cell hx2 0
  have d1 := box_cell hx2 1
  simp at d0 d1
  have HX2 := hide hx2
  rw [hE.out]
  clear hb2 hb0 hx2
  obtain ⟨z1, z2, z3, _⟩ := rtE_zero hE.out
  have HV : Hid (gErr n es = 0) := jErr_zero (chkE_zero z1).1
  have hn12 := (gErr_zero HV.out).1
  have hrot : rot.length ≤ 12 ∧ 0 < rot.length := by omega
  have HE : Hid (endsRes n es = (endsL es, 0)) := if_pos HV.out
  have hcap : (endsL es).length ≤ 50000 := by have := endsL_len fun x hx => ((gErr_zero HV.out).2.1 x hx).2.2.2.1; omega
  clear z1 z2 z3
  go_wp2_with fail
  refine (gends_any n es oe c F _ (hs.below edgR_ok (below_box HX2.out)) hc hc2).mono ?_
  rintro e w3 ⟨ev, rfl, hoE, hb3⟩
  rw [HE.out] at hoE ⊢
  have d0 := (hb3.cell (World.block_lt_of_cell? _ _ d0)).trans d0
  have d1 := (hb3.cell (World.block_lt_of_cell? _ _ d1)).trans d1
  have HX3 := hide (box_then HX2.out (by simp) hb3)
  have d2 := box_cell HX3.out 2
  simp at d2
  obtain ⟨oE, cE, rfl, hcE, hsE⟩ := hoE.slice prR_ok
  have HsE := hide (hsE.loc prR_ok (by decide))
  clear hsE hoE hb3
  go_wp2_with fail
  have hrD : SliceR intR 1 H w3.drew ot rot := (hr.below intR_ok (below_box HX3.out)).drew1 intR_ok
  have hne : rot ≠ [] := by intro h; rw [h] at hrot; simp at hrot
  go_region_held3 (fun w' => w'.cell? ⟨w.heap.size, 2, none⟩ = some (.slice oa ar.length ca)) (first | exact d2 | exact cell_next d2 _) (first
    | (go_at_call 72; refine (cloneI_any rot ot ct H _ hrD hrc (by omega)).mono ?_; rintro e w5 ⟨rv, rfl, hoR, hb5⟩; obtain ⟨rg, cap, rest, rfl, hgB, hcap2, hmax, hrow, h64⟩ := hoR.row hne; replace hcap2 := hide hcap2; have d2 := (hb5.cell (World.block_lt_of_cell? _ _ d2)).trans d2))
  all_goals
    obtain ⟨p, hp⟩ : ∃ p, p = w5.heap.size := ⟨_, rfl⟩
    have hbx := Box.new w5 [.int .i64 q, .slice oa ar.length ca, .slice none 0 0, .slice (some ⟨rg, 0, none⟩) rot.length cap] 177
    have hrow5 := hrow.new (.cells #[.int .i64 q, .slice oa ar.length ca, .slice none 0 0, .slice (some ⟨rg, 0, none⟩) rot.length cap] 177)
    have hrgp : rg < w5.heap.size := hrow.lt
    have hs3 : w3.heap.size ≤ w5.heap.size := hb5.size
    have hw3 := box_lt HX3.out
    have hB5 : Below w.heap.size w (w5.alloc (.cells #[.int .i64 q, .slice oa ar.length ca, .slice none 0 0, .slice (some ⟨rg, 0, none⟩) rot.length cap] 177)) := ((below_box HX3.out.drew).trans (hb5.mono (by simp; omega))).alloc (by omega) _
    have hE5 : SliceR prR 2 (Lt w3.heap.size) (w5.alloc (.cells #[.int .i64 q, .slice oa ar.length ca, .slice none 0 0, .slice (some ⟨rg, 0, none⟩) rot.length cap] 177)) oE (endsL es) := ((HsE.out.drew1 prR_ok).below prR_ok hb5).below prR_ok (bnew (Below.refl _ _) _)
    rw [← hp] at hbx hrgp hs3
    go_wp2_with fail
    have hgB2 : w.heap.size ≤ rg := by simp at hgB; omega
    rw [← hp]
    generalize hW5 : w5.alloc (.cells #[.int .i64 q, .slice oa ar.length ca, .slice none 0 0, .slice (some ⟨rg, 0, none⟩) rot.length cap] 177) = W5 at *
    have hsz5 : W5.heap.size = p + 1 := by rw [← hW5, hp]; simp
    clear hrow hoR d2 d0 d1 hb5 hgB hp hW5
    go_loopw [39] (fun iv wr => ∃ (k : Nat) (tv : Value), k ≤ (endsL es).length ∧ iv = .int .i64 k ∧ Box wr p [.int .i64 q, .slice oa ar.length ca, tv, .slice (some ⟨rg, 0, none⟩) rot.length cap] 177 ∧ OwnS intR 1 (p + 1) 3 Non wr tv (toL ((endsL es).take k)) ∧ Below p W5 wr) (fun iv _ => (endsL es).length - (intOf iv).toNat)
    case atStart => exact ⟨0, _, by omega, rfl, hbx, OwnS.nil _ _ _ _ _ _, Below.refl _ _⟩
    case round =>
      clear hbx
      obtain ⟨k, tv, hk, rfl, hbx, hown, hbW⟩ := hrel
      have hszW := hbW.size
      by_cases hlt : k < (endsL es).length
      · obtain ⟨a, b, _, hget, ia, ib, bl, off, hoE, _, c0, c1⟩ := (hE5.keep prR_ok fun j hj _ => hbW.block j (by have h2 : j < w3.heap.size := hj; omega)).pr_at hlt
        subst hoE
        have HA : Hid (toL ((endsL es).take (k + 1)) = toL ((endsL es).take k) ++ [b, a]) := by
          show _ = _
          rw [List.take_add_one, hget]
          exact toL_snoc _ (a, b)
        have htl : (toL ((endsL es).take k)).length ≤ 100000 := by rw [toL_len]; simp; omega
        obtain ⟨ov, cv, rfl, hcv, _⟩ := hown.slice intR_ok
        have b2 := hbx.cell 2
        have f2 := hbx.free 2
        simp at b2
        have hpl := hbx.lt
        have hszp : p ≤ wr.heap.size := by omega
        generalize toL ((endsL es).take k) = T at *
        have hlit : SliceR intR 1 All ((wr.alloc (.cells #[.int .i64 a, .int .i64 b] 80)).drew.alloc (.cells #[.int .i64 b, .int .i64 a] 3)) (some ⟨wr.heap.size + 1, 0, none⟩) [b, a] := by
          have := ints_lit (F := All) (G := All) (wr.alloc (.cells #[.int .i64 a, .int .i64 b] 80)).drew 3 [b, a] (by intro x hx; simp at hx; rcases hx with rfl | rfl <;> assumption) trivial
          simpa using this
        clear hget
        go_wp2_with fail
        go_region_law (refine step_append_rep rfl (.tmp 47) (.tmp 52) 23 rfl (p + 1) 3 _ 1 8 Tryz.underlying23 iInfo rfl (by decide) intR_ok Non All _ T (by simp [Act.eval, Act.put]) (((hown.new intR_ok _).draw intR_ok).new intR_ok _) (some ⟨wr.heap.size + 1, 0, none⟩) 2 [b, a] (by simp [Act.eval, Act.put]) hlit (fun _ _ h => h) (fun _ h => h.elim) (by simp; omega) (by simp; omega) (by simp; omega) ?_; intro v' w8 ho hb8 hg8; obtain ⟨o8, c8, rfl, hc8, _⟩ := ho.slice intR_ok; have hbx8 := (((hbx.next _).draw).next _).under hb8 (by omega); have f8 := hbx8.free 2; have e8 := hbx8.cell 2)
        all_goals
          have ho2 : OwnS intR 1 (p + 1) 3 Non w8 (.slice o8 (T.length + 2) c8) (T ++ [b, a]) := by simpa using ho
          go_wp2_with fail
          go_roundw
          case rel => exact ⟨k + 1, _, by omega, by go_num, by simpa using hbx8.put 2 _, by rw [HA.out]; exact ho2.keep intR_ok (fun g hg => Below.heap_setCell _ _ _ g (by have := (ho2.block g hg).1; simp; omega)) (fun _ hk _ => hk.elim), (((hbW.alloc hszp _).drew.alloc (by simp; omega) _).trans (hb8.mono (by omega))).setCell (by simp) _⟩
          case measure => simp [intOf]; omega
      · have : k = (endsL es).length := by omega
        subst this
        rw [List.take_length] at hown
        have HBX := hide hbx
        have HOWN := hide hown
        clear hbx hown
        go_wp2_with fail
        go_ret2
        exact ⟨p, rg, cap, tv, rest, rfl, ⟨by omega, HBX.out, hgB2, hrow5.keep (hbW.block rg (by omega)), hcap2.out, hmax, HOWN.out.rebase (by omega), fun e => by have := (HOWN.out.block _ e).1; omega⟩, hB5.trans (hbW.mono (by omega))⟩

end Go.Proofs.YtnigfddanoaonaaGreat

set_option linter.unusedVariables false
set_option linter.unusedSimpArgs false
set_option linter.unnecessarySimpa false
namespace Go.Proofs.YtnigfddanoaonaaGreat
open Go.RowKit

section
variable (n : Int) (es : List Edg) (oe : Option Addr) (c : Nat) (ar : List (List Int)) (oa : Option Addr) (ca : Nat) (F G : Foot) (w : World) (hs : SliceR edgR 3 F w oe es) (hc : es.length ≤ c) (hc2 : es.length ≤ 1000)
    (ha : SliceR (slcR intR 1) 1 G w oa ar) (hac : ar.length ≤ ca) (hac2 : ar.length ≤ 9223372036854775807) (f : List Nat) (hU : Hid (gErr n es = 0 → Uf f (eL es)))
    (q : Int) (rot : List Int) (ot : Option Addr) (ct : Nat) (H : Foot) (hr : SliceR intR 1 H w ot rot) (hrc : rot.length ≤ ct) (hrl : rot.length ≤ 9223372036854775807)
include hs hc hc2 ha hac hac2 hU hr hrc hrl

set_option maxRecDepth 100000 in
set_option maxHeartbeats 2000000 in
theorem boardOf_err (hE : Hid (rtE n es f ar q rot ≠ 0)) :
    Calls Tryz.prog 111 #[.agg #[.int .i64 n, .slice oe es.length c, .slice oa ar.length ca], .int .i64 q, .slice ot rot.length ct] w (BoardErr w (rtE n es f ar q rot)) := by
  go_enter Tryz.func111, Tryz.ntmps111
  go_wp2_with fail
  have hb0 := box_refl w (.cells #[.int .i64 n, .slice oe es.length c, .slice oa ar.length ca] 52)
  refine (rotcheck_any n es oe c ar oa ca F G _ (hs.below edgR_ok (below_box hb0)) hc hc2 (ha.below (slcR_ok intR_ok (by decide)) (below_box hb0)) hac hac2 f hU q rot ot ct H (hr.below intR_ok (below_box hb0)) hrc hrl).mono ?_
  rintro e w2 ⟨rfl, hb2⟩
  have HX := hide (below_box (hb2.mono (B' := w.heap.size + 1) (by simp)))
  have hq : (rtE n es f ar q rot != 0) = true := by simpa using hE.out
  clear hb2 hb0
  go_wp2_with fail
  go_ret2
  exact ⟨rfl, HX.out⟩

/-- The error of rotors and a vertex. -/
def stE (n : Int) (es : List Edg) (f : List Nat) (ar : List (List Int)) (q : Int) (rot : List Int) (v : Int) : Int := if rtE n es f ar q rot = 0 then (if vtxB n v = true then 0 else 2) else rtE n es f ar q rot

end

end Go.Proofs.YtnigfddanoaonaaGreat

set_option linter.unusedVariables false
set_option linter.unusedSimpArgs false
set_option linter.unnecessarySimpa false
namespace Go.Proofs.YtnigfddanoaonaaGreat
open Go.RowKit

def inChips (k : Int) : Bool := decide (-1048576 ≤ k ∧ k ≤ 1048576)
def dScan : List Int → Int
  | [] => 0
  | x :: r => if inChips x = true then dScan r else 2
/-- The error of a divisor on n vertices. -/
def dErr (n : Int) (d : List Int) : Int := if 1 ≤ n ∧ n ≤ 12 then (if (d.length : Int) = n then dScan d else 8) else 2
theorem dScan_zero : ∀ {d : List Int}, dScan d = 0 → ∀ x ∈ d, -1048576 ≤ x ∧ x ≤ 1048576
  | [], _, x, hx => by cases hx
  | y :: r, h, x, hx => by
    unfold dScan at h
    split at h
    · rename_i h1
      rcases List.mem_cons.1 hx with rfl | h2
      · simpa [inChips] using h1
      · exact dScan_zero h x h2
    · cases h
theorem dErr_zero {n : Int} {d : List Int} (h : dErr n d = 0) : (1 ≤ n ∧ n ≤ 12) ∧ (d.length : Int) = n ∧ ∀ x ∈ d, -1048576 ≤ x ∧ x ≤ 1048576 := by
  unfold dErr at h
  split at h
  · rename_i h1
    split at h
    · rename_i h2; exact ⟨h1, h2, dScan_zero h⟩
    · cases h
  · cases h

theorem within_any (k : Int) (w : World) : Calls Tryz.prog 103 #[.int .i64 k] w fun e w' => e = .returned (.bool (inChips k)) ∧ Below w.heap.size w w' := by
  by_cases h1 : -1048576 ≤ k
  · by_cases h2 : k ≤ 1048576
    · have HR : Hid (inChips k = true) := by show _ = _; simp [inChips, h1, h2]
      have q1 : decide ((-1048576 : Int) ≤ k) = true := by simp [h1]
      have q2 : decide (k ≤ (1048576 : Int)) = true := by simp [h2]
      clear h1 h2
      go_enter Tryz.func103, Tryz.ntmps103
      go_wp2_with fail
      go_ret
      exact ⟨ret_bool HR.out.symm, Below.refl _ _⟩
    · have HR : Hid (inChips k = false) := by show _ = _; simp [inChips]; omega
      have q1 : decide ((-1048576 : Int) ≤ k) = true := by simp [h1]
      have q2 : decide (k ≤ (1048576 : Int)) = false := by simp; omega
      clear h1 h2
      go_enter Tryz.func103, Tryz.ntmps103
      go_wp2_with fail
      go_ret
      exact ⟨ret_bool HR.out.symm, Below.refl _ _⟩
  · have HR : Hid (inChips k = false) := by show _ = _; simp [inChips]; omega
    have q1 : decide ((-1048576 : Int) ≤ k) = false := by simp; omega
    clear h1
    go_enter Tryz.func103, Tryz.ntmps103
    go_wp2_with fail
    go_ret
    exact ⟨ret_bool HR.out.symm, Below.refl _ _⟩

def vnE (n : Int) : Int := if 1 ≤ n ∧ n ≤ 12 then 0 else 2
theorem vertices_any (n : Int) (w : World) : Calls Tryz.prog 102 #[.int .i64 n] w (ErrPost w (vnE n)) := by
  by_cases h1 : 1 ≤ n
  · by_cases h2 : n ≤ 12
    · have HR : Hid (vnE n = 0) := if_pos ⟨h1, h2⟩
      have q1 : decide (n < (1 : Int)) = false := by simp; omega
      have q2 : decide ((12 : Int) < n) = false := by simp; omega
      clear h1 h2
      go_enter Tryz.func102, Tryz.ntmps102
      go_wp2_with fail
      go_ret
      exact ⟨ret_int HR.out.symm, Below.refl _ _⟩
    · have HR : Hid (vnE n = 2) := if_neg (by omega)
      have q1 : decide (n < (1 : Int)) = false := by simp; omega
      have q2 : decide ((12 : Int) < n) = true := by simp; omega
      clear h1 h2
      go_enter Tryz.func102, Tryz.ntmps102
      go_wp2_with fail
      go_ret
      exact ⟨ret_int HR.out.symm, Below.refl _ _⟩
  · have HR : Hid (vnE n = 2) := if_neg (by omega)
    have q1 : decide (n < (1 : Int)) = true := by simp; omega
    clear h1
    go_enter Tryz.func102, Tryz.ntmps102
    go_wp2_with fail
    go_ret
    exact ⟨ret_int HR.out.symm, Below.refl _ _⟩

set_option maxRecDepth 100000 in
set_option maxHeartbeats 2000000 in
theorem dcheck_any (n : Int) (d : List Int) (od : Option Addr) (cd : Nat) (F : Foot) (w : World) (hd : SliceR intR 1 F w od d) (hc : d.length ≤ cd) (hc2 : d.length ≤ 9223372036854775807) :
    Calls Tryz.prog 70 #[.slice od d.length cd, .int .i64 n] w (ErrPost w (dErr n d)) := by
  by_cases h1 : 1 ≤ n ∧ n ≤ 12
  · have HV : Hid (vnE n = 0) := if_pos h1
    by_cases h2 : (d.length : Int) = n
    · have HR : Hid (dErr n d = dScan d) := by show _ = _; unfold dErr; rw [if_pos h1, if_pos h2]
      have q1 : ((d.length : Int) != n) = false := by simp [h2]
      replace h2 := hide h2
      clear h1
      go_enter Tryz.func70, Tryz.ntmps70
      go_wp2_with fail
      refine (vertices_any n w).mono ?_
      rintro e w2 ⟨rfl, hb2⟩
      rw [HV.out]
      go_wp2_with fail
      go_loopw [19] (fun iv wr => ∃ k : Nat, k ≤ d.length ∧ iv = .int .i64 k ∧ Hid (dErr n d = dScan (d.drop k)) ∧ Below w.heap.size w wr) (fun iv _ => d.length - (intOf iv).toNat)
      case atStart => exact ⟨0, by omega, rfl, HR, hb2⟩
      case round =>
        clear hb2
        obtain ⟨k, hk, rfl, HS, hbW⟩ := hrel
        by_cases hlt : k < d.length
        · obtain ⟨x, hdr, _, ix, b, off, hod, _, c0⟩ := (hd.below intR_ok hbW).int_at hlt
          subst hod
          have HS2 : Hid (dErr n d = if inChips x = true then dScan (d.drop (k + 1)) else 2) := by show _ = _; rw [HS.out, hdr]; rfl
          clear hdr
          go_wp2_with fail
          refine (within_any x wr).mono ?_
          rintro e w3 ⟨rfl, hb3⟩
          have hb3' := hbW.trans (hb3.mono hbW.size)
          by_cases hx : inChips x = true
          · have HS3 : Hid (dErr n d = dScan (d.drop (k + 1))) := by show _ = _; rw [HS2.out, if_pos hx]
            rw [hx]
            clear hx
            go_wp2_with fail
            go_roundw
            case rel => exact ⟨k + 1, by omega, by go_num, HS3, hb3'⟩
            case measure => simp [intOf]; omega
          · have HS3 : Hid (dErr n d = 2) := by show _ = _; rw [HS2.out, if_neg hx]
            have hx2 : inChips x = false := by simpa using hx
            rw [hx2]
            clear hx hx2
            go_wp2_with fail
            go_ret
            exact ⟨ret_int HS3.out.symm, hb3'⟩
        · have hke : k = d.length := by omega
          have HS3 : Hid (dErr n d = 0) := by show _ = _; rw [HS.out, hke, List.drop_length]; rfl
          clear hke
          go_wp2_with fail
          go_ret
          exact ⟨ret_int HS3.out.symm, hbW⟩
    · have HR : Hid (dErr n d = 8) := by show _ = _; unfold dErr; rw [if_pos h1, if_neg h2]
      have q1 : ((d.length : Int) != n) = true := by simp [h2]
      clear h1 h2
      go_enter Tryz.func70, Tryz.ntmps70
      go_wp2_with fail
      refine (vertices_any n w).mono ?_
      rintro e w2 ⟨rfl, hb2⟩
      rw [HV.out]
      go_wp2_with fail
      go_ret
      exact ⟨ret_int HR.out.symm, hb2⟩
  · have HV : Hid (vnE n = 2) := if_neg h1
    have HR : Hid (dErr n d = 2) := if_neg h1
    clear h1
    go_enter Tryz.func70, Tryz.ntmps70
    go_wp2_with fail
    refine (vertices_any n w).mono ?_
    rintro e w2 ⟨rfl, hb2⟩
    rw [HV.out]
    go_wp2_with fail
    go_ret
    exact ⟨ret_int HR.out.symm, hb2⟩

/-- Chips that a vertex other than the sink lacks. -/
def gScan (q : Int) : Nat → List Int → Int
  | _, [] => 0
  | v, x :: r => if (v : Int) ≠ q ∧ x < 0 then 2 else gScan q (v + 1) r
/-- The error of rotors with chips. -/
def gvE (n : Int) (es : List Edg) (f : List Nat) (ar : List (List Int)) (q : Int) (rot d : List Int) : Int :=
  if rtE n es f ar q rot = 0 then (if dErr n d = 0 then gScan q 0 d else dErr n d) else rtE n es f ar q rot

section
variable (n : Int) (es : List Edg) (oe : Option Addr) (c : Nat) (ar : List (List Int)) (oa : Option Addr) (ca : Nat) (F G : Foot) (w : World) (hs : SliceR edgR 3 F w oe es) (hc : es.length ≤ c) (hc2 : es.length ≤ 1000)
    (ha : SliceR (slcR intR 1) 1 G w oa ar) (hac : ar.length ≤ ca) (hac2 : ar.length ≤ 9223372036854775807) (f : List Nat) (hU : Hid (gErr n es = 0 → Uf f (eL es)))
    (q : Int) (rot : List Int) (ot : Option Addr) (ct : Nat) (H : Foot) (hr : SliceR intR 1 H w ot rot) (hrc : rot.length ≤ ct) (hrl : rot.length ≤ 9223372036854775807)
    (d : List Int) (od : Option Addr) (cd : Nat) (D : Foot) (hd : SliceR intR 1 D w od d) (hdc : d.length ≤ cd) (hdl : d.length ≤ 9223372036854775807)
include hs hc hc2 ha hac hac2 hU hr hrc hrl hd hdc hdl

def GivenPost (w : World) (n : Int) (es : List Edg) (f : List Nat) (ar : List (List Int)) (oa : Option Addr) (ca : Nat) (q : Int) (rot d : List Int) (e : Ending) (w' : World) : Prop :=
  (gvE n es f ar q rot d = 0 ∧ BoardPost w n es f ar oa ca q rot e w') ∨ (gvE n es f ar q rot d ≠ 0 ∧ BoardErr w (gvE n es f ar q rot d) e w')

set_option maxRecDepth 100000 in
set_option maxHeartbeats 4000000 in
theorem given_any :
    Calls Tryz.prog 78 #[.agg #[.int .i64 n, .slice oe es.length c, .slice oa ar.length ca], .int .i64 q, .slice ot rot.length ct, .slice od d.length cd] w (GivenPost w n es f ar oa ca q rot d) := by
  go_enter Tryz.func78, Tryz.ntmps78
  go_wp2_with fail
  have hb0 := box_refl w (.cells #[.int .i64 n, .slice oe es.length c, .slice oa ar.length ca] 52)
  by_cases hR : rtE n es f ar q rot = 0
  · refine (boardOf_any n es oe c ar oa ca F G _ (hs.below edgR_ok (below_box hb0)) hc hc2 (ha.below (slcR_ok intR_ok (by decide)) (below_box hb0)) hac hac2 f hU q rot ot ct H (hr.below intR_ok (below_box hb0)) hrc hrl hR).mono ?_
    rintro e w2 ⟨p, rg, cap, tv, rest, rfl, hD, hb2⟩
    have hx2 := hb2.mono (B' := w.heap.size + 1) (by simp)
    have d0 := box_cell hx2 0
    simp at d0
    have HX := hide (below_box hx2)
    have HD := hide (hD.rebase (show w.heap.size ≤ _ by simp))
    have HG : Hid (gvE n es f ar q rot d = if dErr n d = 0 then gScan q 0 d else dErr n d) := if_pos hR
    replace hR := hide hR
    have hd2 := hd.below intR_ok HX.out
    clear hb2 hb0 hx2 hD
    go_wp2_with fail
    refine (dcheck_any n d od cd D w2 hd2 hdc hdl).mono ?_
    rintro e w3 ⟨rfl, hb3⟩
    have hb23 := HX.out.trans (hb3.mono HX.out.size)
    have HB3 := hide hb3
    have HX3 := hide hb23
    clear hb3 d0 hd2
    by_cases hE : dErr n d = 0
    · have HG2 : Hid (gvE n es f ar q rot d = gScan q 0 d) := by show _ = _; rw [HG.out, if_pos hE]
      rw [hE]
      clear hE hb23
      go_wp2_with fail
      go_loopw [35] (fun iv wr => ∃ k : Nat, k ≤ d.length ∧ iv = .int .i64 k ∧ Hid (gvE n es f ar q rot d = gScan q k (d.drop k)) ∧ wr = w3) (fun iv _ => d.length - (intOf iv).toNat)
      case atStart => exact ⟨0, by omega, rfl, HG2, rfl⟩
      case round =>
        obtain ⟨k, hk, rfl, HS, rfl⟩ := hrel
        by_cases hlt : k < d.length
        · obtain ⟨x, hdr, _, ix, b, off, hod, _, c0⟩ := (hd.below intR_ok HX3.out).int_at hlt
          subst hod
          have HS2 : Hid (gvE n es f ar q rot d = if (k : Int) ≠ q ∧ x < 0 then 2 else gScan q (k + 1) (d.drop (k + 1))) := by show _ = _; rw [HS.out, hdr]; rfl
          clear hdr
          by_cases hkq : (k : Int) = q
          · have q1 : ((k : Int) != q) = false := by simp [hkq]
            have HS3 : Hid (gvE n es f ar q rot d = gScan q (k + 1) (d.drop (k + 1))) := by show _ = _; rw [HS2.out, if_neg (by intro h; exact h.1 hkq)]
            clear hkq
            go_wp2_with fail
            go_roundw
            case rel => exact ⟨k + 1, by omega, by go_num, HS3, by first | rfl | trivial⟩
            case measure => simp [intOf]; omega
          · have q1 : ((k : Int) != q) = true := by simp [hkq]
            by_cases hx : x < 0
            · have q2 : decide (x < 0) = true := by simp [hx]
              have HS3 : Hid (gvE n es f ar q rot d = 2) := by show _ = _; rw [HS2.out, if_pos ⟨hkq, hx⟩]
              clear hkq hx
              go_wp2_with fail
              go_ret2
              exact .inr ⟨by rw [HS3.out]; decide, by rw [HS3.out]; rfl, HX3.out⟩
            · have q2 : decide (x < 0) = false := by simp; omega
              have HS3 : Hid (gvE n es f ar q rot d = gScan q (k + 1) (d.drop (k + 1))) := by show _ = _; rw [HS2.out, if_neg (by intro h; exact hx h.2)]
              clear hkq hx
              go_wp2_with fail
              go_roundw
              case rel => exact ⟨k + 1, by omega, by go_num, HS3, by first | rfl | trivial⟩
              case measure => simp [intOf]; omega
        · have hke : k = d.length := by omega
          have HS3 : Hid (gvE n es f ar q rot d = 0) := by show _ = _; rw [HS.out, hke, List.drop_length]; rfl
          clear hke
          go_wp2_with fail
          go_ret2
          exact .inl ⟨HS3.out, p, rg, cap, tv, rest, rfl, HD.out.below HB3.out, HX3.out⟩
    · have HG2 : Hid (gvE n es f ar q rot d = dErr n d) := by show _ = _; rw [HG.out, if_neg hE]
      have hq : (dErr n d != 0) = true := by simpa using hE
      replace hE := hide hE
      clear hb23
      go_wp2_with fail
      go_ret2
      exact .inr ⟨by rw [HG2.out]; exact hE.out, by rw [HG2.out]; rfl, HX3.out⟩
  · have HG : Hid (gvE n es f ar q rot d = rtE n es f ar q rot) := if_neg hR
    refine (boardOf_err n es oe c ar oa ca F G _ (hs.below edgR_ok (below_box hb0)) hc hc2 (ha.below (slcR_ok intR_ok (by decide)) (below_box hb0)) hac hac2 f hU q rot ot ct H (hr.below intR_ok (below_box hb0)) hrc hrl hR).mono ?_
    rintro e w2 ⟨rfl, hb2⟩
    have HX := hide (below_box (hb2.mono (B' := w.heap.size + 1) (by simp)))
    have hq : (rtE n es f ar q rot != 0) = true := by simpa using hR
    replace hR := hide hR
    clear hb2 hb0
    go_wp2_with fail
    go_ret2
    exact .inr ⟨by rw [HG.out]; exact hR.out, by rw [HG.out]; rfl, HX.out⟩
end

end Go.Proofs.YtnigfddanoaonaaGreat

set_option linter.unusedVariables false
set_option linter.unusedSimpArgs false
namespace Go.Proofs.YtnigfddanoaonaaGreat
open Go.RowKit

/-- The error of a connected graph with a sink; of a configuration. -/
def rootE (n : Int) (es : List Edg) (f : List Nat) (q : Int) : Int := if jErr n es f = 0 then (if vtxB n q = true then 0 else 2) else jErr n es f
def cfgE (n : Int) (es : List Edg) (f : List Nat) (q : Int) (d : List Int) : Int := if rootE n es f q = 0 then (if dErr n d = 0 then gScan q 0 d else dErr n d) else rootE n es f q

set_option maxRecDepth 100000 in
set_option maxHeartbeats 1000000 in
theorem srooted_any (n : Int) (es : List Edg) (oe : Option Addr) (c : Nat) (F : Foot) (w : World) (hs : SliceR edgR 3 F w oe es) (hc : es.length ≤ c) (hc2 : es.length ≤ 1000)
    (f : List Nat) (hU : Hid (gErr n es = 0 → Uf f (eL es))) (q : Int) : Calls Tryz.prog 96 #[.agg #[.int .i64 n, .slice oe es.length c], .int .i64 q] w (ErrPost w (rootE n es f q)) := by
  go_enter Tryz.func96, Tryz.ntmps96
  go_wp2_with fail
  have hb0 := box_refl w (.cells #[.int .i64 n, .slice oe es.length c] 43)
  refine (conn_any n es oe c F _ (hs.below edgR_ok (below_box hb0)) hc (by omega) f hU).mono ?_
  rintro e w3 ⟨rfl, hb3⟩
  have hx2 := hb3.mono (B' := w.heap.size + 1) (by simp)
  have d0 := box_cell hx2 0
  simp at d0
  have HX := hide (below_box hx2)
  clear hb3 hb0 hx2
  by_cases hV : gErr n es = 0
  · by_cases hp : partsN n es f = 1
    · have hJ : jErr n es f = 0 := by unfold jErr; rw [if_pos hV, if_pos hp]
      have HR : Hid (rootE n es f q = if vtxB n q = true then 0 else 2) := if_pos hJ
      have hq1 : (partsN n es f == 1) = true := by simpa using hp
      have hq2 : (gErr n es != 0) = false := by simp [hV]
      rw [hq1]
      clear hJ hp hV hq1
      by_cases h0 : q < 0
      · have HR2 : Hid (rootE n es f q = 2) := by show _ = _; rw [HR.out, if_neg (by rw [vtxB_iff]; omega)]
        have q1 : decide (q < 0) = true := by simp [h0]
        have q2 : decide (0 ≤ q) = false := by simp; omega
        clear h0
        go_wp2_with fail
        go_ret
        exact ⟨ret_int HR2.out.symm, HX.out⟩
      · have q1 : decide (q < 0) = false := by simp; omega
        have q2 : decide (0 ≤ q) = true := by simp; omega
        by_cases h1 : q < n
        · have HR2 : Hid (rootE n es f q = 0) := by show _ = _; rw [HR.out, if_pos (by rw [vtxB_iff]; omega)]
          have q3 : decide (n ≤ q) = false := by simp; omega
          have q4 : decide (q < n) = true := by simp; omega
          clear h0 h1
          go_wp2_with fail
          go_ret
          exact ⟨ret_int HR2.out.symm, HX.out⟩
        · have HR2 : Hid (rootE n es f q = 2) := by show _ = _; rw [HR.out, if_neg (by rw [vtxB_iff]; omega)]
          have q3 : decide (n ≤ q) = true := by simp; omega
          have q4 : decide (q < n) = false := by simp; omega
          clear h0 h1
          go_wp2_with fail
          go_ret
          exact ⟨ret_int HR2.out.symm, HX.out⟩
    · have hJ : jErr n es f = 13 := by unfold jErr; rw [if_pos hV, if_neg hp]
      have HR : Hid (rootE n es f q = 13) := by show _ = _; unfold rootE; rw [hJ]; rfl
      have hq1 : (partsN n es f == 1) = false := by simpa using hp
      have hq2 : (gErr n es != 0) = false := by simp [hV]
      rw [hq1]
      clear hJ hp hV hq1
      go_wp2_with fail
      go_ret
      exact ⟨ret_int HR.out.symm, HX.out⟩
  · have hJ : jErr n es f = gErr n es := if_neg hV
    have HR : Hid (rootE n es f q = gErr n es) := by show _ = _; unfold rootE; rw [hJ, if_neg hV]
    have hq2 : (gErr n es != 0) = true := by simpa using hV
    clear hJ hV
    go_wp2_with fail
    go_ret
    exact ⟨ret_int HR.out.symm, HX.out⟩

set_option maxRecDepth 100000 in
set_option maxHeartbeats 2000000 in
theorem scheck_any (n : Int) (es : List Edg) (oe : Option Addr) (c : Nat) (F : Foot) (w : World) (hs : SliceR edgR 3 F w oe es) (hc : es.length ≤ c) (hc2 : es.length ≤ 1000)
    (f : List Nat) (hU : Hid (gErr n es = 0 → Uf f (eL es))) (q : Int) (d : List Int) (od : Option Addr) (cd : Nat) (D : Foot) (hd : SliceR intR 1 D w od d) (hdc : d.length ≤ cd) (hdl : d.length ≤ 9223372036854775807) :
    Calls Tryz.prog 51 #[.agg #[.int .i64 n, .slice oe es.length c], .int .i64 q, .slice od d.length cd] w (ErrPost w (cfgE n es f q d)) := by
  go_enter Tryz.func51, Tryz.ntmps51
  go_wp2_with fail
  have hb0 := box_refl w (.cells #[.int .i64 n, .slice oe es.length c] 43)
  refine (srooted_any n es oe c F _ (hs.below edgR_ok (below_box hb0)) hc hc2 f hU q).mono ?_
  rintro e w2 ⟨rfl, hb2⟩
  have hx2 := hb2.mono (B' := w.heap.size + 1) (by simp)
  have d0 := box_cell hx2 0
  simp at d0
  have HX := hide (below_box hx2)
  clear hb2 hb0 hx2
  by_cases hR : rootE n es f q = 0
  · have HG : Hid (cfgE n es f q d = if dErr n d = 0 then gScan q 0 d else dErr n d) := if_pos hR
    have hd2 := hd.below intR_ok HX.out
    rw [hR]
    clear hR
    go_wp2_with fail
    refine (dcheck_any n d od cd D w2 hd2 hdc hdl).mono ?_
    rintro e w3 ⟨rfl, hb3⟩
    have hb23 := HX.out.trans (hb3.mono HX.out.size)
    have HX3 := hide hb23
    clear hb3 d0 hd2
    by_cases hE : dErr n d = 0
    · have HG2 : Hid (cfgE n es f q d = gScan q 0 d) := by show _ = _; rw [HG.out, if_pos hE]
      rw [hE]
      clear hE hb23
      go_wp2_with fail
      go_loopw [26] (fun iv wr => ∃ k : Nat, k ≤ d.length ∧ iv = .int .i64 k ∧ Hid (cfgE n es f q d = gScan q k (d.drop k)) ∧ wr = w3) (fun iv _ => d.length - (intOf iv).toNat)
      case atStart => exact ⟨0, by omega, rfl, HG2, rfl⟩
      case round =>
        obtain ⟨k, hk, rfl, HS, rfl⟩ := hrel
        by_cases hlt : k < d.length
        · obtain ⟨x, hdr, _, ix, b, off, hod, _, c0⟩ := (hd.below intR_ok HX3.out).int_at hlt
          subst hod
          have HS2 : Hid (cfgE n es f q d = if (k : Int) ≠ q ∧ x < 0 then 2 else gScan q (k + 1) (d.drop (k + 1))) := by show _ = _; rw [HS.out, hdr]; rfl
          clear hdr
          by_cases hkq : (k : Int) = q
          · have q1 : ((k : Int) != q) = false := by simp [hkq]
            have HS3 : Hid (cfgE n es f q d = gScan q (k + 1) (d.drop (k + 1))) := by show _ = _; rw [HS2.out, if_neg (by intro h; exact h.1 hkq)]
            clear hkq
            go_wp2_with fail
            go_roundw
            case rel => exact ⟨k + 1, by omega, by go_num, HS3, by first | rfl | trivial⟩
            case measure => simp [intOf]; omega
          · have q1 : ((k : Int) != q) = true := by simp [hkq]
            by_cases hx : x < 0
            · have q2 : decide (x < 0) = true := by simp [hx]
              have HS3 : Hid (cfgE n es f q d = 2) := by show _ = _; rw [HS2.out, if_pos ⟨hkq, hx⟩]
              clear hkq hx
              go_wp2_with fail
              go_ret
              exact ⟨ret_int HS3.out.symm, HX3.out⟩
            · have q2 : decide (x < 0) = false := by simp; omega
              have HS3 : Hid (cfgE n es f q d = gScan q (k + 1) (d.drop (k + 1))) := by show _ = _; rw [HS2.out, if_neg (by intro h; exact hx h.2)]
              clear hkq hx
              go_wp2_with fail
              go_roundw
              case rel => exact ⟨k + 1, by omega, by go_num, HS3, by first | rfl | trivial⟩
              case measure => simp [intOf]; omega
        · have hke : k = d.length := by omega
          have HS3 : Hid (cfgE n es f q d = 0) := by show _ = _; rw [HS.out, hke, List.drop_length]; rfl
          clear hke
          go_wp2_with fail
          go_ret
          exact ⟨ret_int HS3.out.symm, HX3.out⟩
    · have HG2 : Hid (cfgE n es f q d = dErr n d) := by show _ = _; rw [HG.out, if_neg hE]
      have hq : (dErr n d != 0) = true := by simpa using hE
      clear hE hb23
      go_wp2_with fail
      go_ret
      exact ⟨ret_int HG2.out.symm, HX3.out⟩
  · have HG : Hid (cfgE n es f q d = rootE n es f q) := if_neg hR
    have hq : (rootE n es f q != 0) = true := by simpa using hR
    clear hR
    go_wp2_with fail
    go_ret
    exact ⟨ret_int HG.out.symm, HX.out⟩

end Go.Proofs.YtnigfddanoaonaaGreat

set_option linter.unusedVariables false
set_option linter.unusedSimpArgs false
namespace Go.Proofs.YtnigfddanoaonaaGreat
open Go.RowKit

theorem mk_ints (T E : TypeId) (hT : Tryz.prog.underlying T = some (.slice E)) (hE : (Tryz.prog.info? E).map (fun i => (i.zero, i.size, i.bytes)) = some (some (.int .i64 0), 1, 8)) (n : Nat) (hn : n ≤ 1000000) :
    ∃ Z : Array Value, Z.toList = List.replicate n (.int .i64 0) ∧ ∀ w : World, (Instr.makeSlice T (.int .i64 (n : Int)) (.int .i64 (n : Int))).run Tryz.prog w = .ok (.slice (some ⟨w.heap.size, 0, none⟩) n n) (w.alloc (.cells Z E)) := by
  obtain ⟨i, hi, hz, hs, hb⟩ := info_parts hE
  refine ⟨madeCells #[.int .i64 0] n, toList_madeCells_one _ n, fun w => ?_⟩
  have h := run_make (P := Tryz.prog) w T E i (.int .i64 0) hT hi hz .i64 .i64 (n : Int) (n : Int) (by omega) (Int.le_refl _) (by rw [hb]; omega) (by omega)
  simp only [Int.toNat_natCast, hs, Nat.mul_one] at h
  exact h
theorem cell_set3 {w : World} {a i b : Nat} {v x y z : Value} (h : w.cell? ⟨a, i, none⟩ = some v) (hne : a ≠ b) : (((w.setCell ⟨b, 0, none⟩ x).setCell ⟨b, 1, none⟩ y).setCell ⟨b, 2, none⟩ z).cell? ⟨a, i, none⟩ = some v := by
  have e : ∀ (u : World) (j : Nat) (q : Value), (u.setCell ⟨b, j, none⟩ q).cell? ⟨a, i, none⟩ = u.cell? ⟨a, i, none⟩ := fun u j q => by
    unfold World.cell?
    rw [Below.heap_setCell u ⟨b, j, none⟩ q a hne]
  rw [e, e, e]
  exact h
/-- The processors of the first i vertices. -/
def pilesU (es : List Edg) (n : Nat) (q : Int) : Nat → Option (List Prc)
  | 0 => some []
  | v + 1 => (pilesU es n q v).bind fun l => if (v : Int) = q then some (l ++ [sinkP]) else if (nbrU es v n).length ≤ 16 then some (l ++ [topP (nbrU es v n)]) else none
def nwk0 : Nwk := ⟨[], [], []⟩
/-- What Sandpile comes to. -/
def sandR (n : Int) (es : List Edg) (f : List Nat) (q : Int) (d : List Int) : Nwk × Int :=
  if cfgE n es f q d = 0 then
    match pilesU es n.toNat q n.toNat with
    | some l => (⟨l, List.replicate n.toNat 0, waitD d q n.toNat⟩, 0)
    | none => (nwk0, 12)
  else (nwk0, cfgE n es f q d)
/-- A network in memory. -/
def NwAt (F : Foot) (w : World) (v : Value) (y : Nwk) : Prop := ∃ oq cq os cs ow cw, v = .agg #[.slice oq y.procs.length cq, .slice os y.state.length cs, .slice ow y.waiting.length cw] ∧ y.procs.length ≤ cq ∧ y.state.length ≤ cs ∧ y.waiting.length ≤ cw ∧ SliceR prcR 3 F w oq y.procs ∧ SliceR intR 1 F w os y.state ∧ SliceR (slcR intR 1) 1 F w ow y.waiting
def NwPost (w : World) (r : Nwk × Int) (e : Ending) (w' : World) : Prop := ∃ v, e = .returned (.tuple #[v, .int .i64 r.2]) ∧ NwAt All w' v r.1 ∧ Below w.heap.size w w'
theorem gErr_j {n : Int} {es : List Edg} {f : List Nat} {q : Int} {d : List Int} (h : cfgE n es f q d = 0) : gErr n es = 0 ∧ (1 ≤ n ∧ n ≤ 12) ∧ (d.length : Int) = n ∧ (∀ x ∈ d, -1048576 ≤ x ∧ x ≤ 1048576) := by
  have h1 : rootE n es f q = 0 := by
    unfold cfgE at h
    split at h
    · assumption
    · rename_i hx; exact absurd h hx
  have hd : dErr n d = 0 := by
    unfold cfgE at h
    rw [if_pos h1] at h
    split at h
    · assumption
    · rename_i hx; exact absurd h hx
  have hj : jErr n es f = 0 := by
    unfold rootE at h1
    split at h1
    · assumption
    · rename_i hx; exact absurd h1 hx
  have hg : gErr n es = 0 := by
    unfold jErr at hj
    split at hj
    · assumption
    · rename_i hx; exact absurd hj hx
  unfold dErr at hd
  split at hd
  · rename_i h12
    split at hd
    · rename_i hl
      exact ⟨hg, h12, hl, dScan_zero hd⟩
    · cases hd
  · cases hd

theorem wait_foot {W w4 : World} {v : Value} {ow : Option Addr} {l : List (List Int)} (h : SliceR (slcR intR 1) 1 (fun k => InF (fun k => W.heap.size ≤ k) v k ∨ W.heap.size ≤ k) w4 ow l) : SliceR (slcR intR 1) 1 (fun k => W.heap.size ≤ k ∧ k < w4.heap.size) w4 ow l :=
  h.wide (slcR_ok intR_ok (by decide)) (by decide) fun k hk hl => ⟨by rcases hk with h | h; exact h.1; exact h, hl⟩
theorem cell_drew {w : World} {a : Addr} {v : Value} (h : w.cell? a = some v) : w.drew.cell? a = some v := h
theorem drew_size (w : World) : w.drew.heap.size = w.heap.size := rfl
/-- The network that Sandpile begins with, in memory. -/
def SandBox (w3 W : World) (b N : Nat) (d : List Int) (q : Int) : Prop := ∃ rg ow cw, Box W b [.slice none 0 0, .slice (some ⟨rg, 0, none⟩) N N, .slice ow N cw] 26 ∧ Row1 (Value.int .i64) W rg 3 (List.replicate N 0) [] ∧
  SliceR (slcR intR 1) 1 (fun k => w3.heap.size ≤ k ∧ k ≠ b) W ow (waitD d q N) ∧ N ≤ cw ∧ w3.heap.size ≤ b ∧ w3.heap.size ≤ rg ∧ rg ≠ b ∧ Below w3.heap.size w3 W
theorem row_new {N : Nat} {Zs : Array Value} (hZ : Zs.toList = List.replicate N (.int .i64 0)) (w : World) : Row1 (Value.int .i64) (w.alloc (.cells Zs 3)) w.heap.size 3 (List.replicate N 0) [] := by
  have h := heap_alloc_new w (.cells Zs 3)
  unfold Row1
  rw [h]
  congr 2
  apply Array.toList_inj.1
  rw [hZ]
  simp
theorem sand_mk {w3 w4 W : World} {b rg N cw S0 : Nat} {ow : Option Addr} {d : List Int} {q : Int} (hS : w3.heap.size ≤ S0) (hsw : SliceR (slcR intR 1) 1 (fun k => S0 ≤ k ∧ k < w4.heap.size) w4 ow (waitD d q N)) (hcw : N ≤ cw)
    (hk : ∀ k, k < w4.heap.size → k ≠ b → W.heap[k]? = w4.heap[k]?) (hbx : Box W b [.slice none 0 0, .slice (some ⟨rg, 0, none⟩) N N, .slice ow N cw] 26) (hrow : Row1 (Value.int .i64) W rg 3 (List.replicate N 0) [])
    (hb : b < S0 ∨ w4.heap.size ≤ b) (hb3 : w3.heap.size ≤ b) (hrg : w3.heap.size ≤ rg) (hbl : Below w3.heap.size w3 W) : SandBox w3 W b N d q := by
  refine ⟨rg, ow, cw, hbx, hrow, (hsw.keep (slcR_ok intR_ok (by decide)) fun k hkk hkl => hk k hkl (by omega)).wide (slcR_ok intR_ok (by decide)) (by decide) fun k hkk _ => ⟨by omega, by omega⟩, hcw, hb3, hrg, ?_, hbl⟩
  exact fun e => ne_type hrow hbx (by decide) e
section
variable {w3 w4 : World} {N cw : Nat} {ow : Option Addr} {d : List Int} {q : Int} {Zs : Array Value}
theorem sbA {S0 : Nat} (hS : w3.heap.size ≤ S0) (hZ : Zs.toList = List.replicate N (.int .i64 0)) (hb : Below (w3.alloc (.cells Zs 3)).heap.size (w3.alloc (.cells Zs 3)) w4) (hsw : SliceR (slcR intR 1) 1 (fun k => S0 ≤ k ∧ k < w4.heap.size) w4 ow (waitD d q N)) (hcw : N ≤ cw) :
    SandBox w3 (w4.alloc (.cells #[.slice none 0 0, .slice (some ⟨w3.heap.size, 0, none⟩) N N, .slice ow N cw] 26)) w4.heap.size N d q := by
  have hs := hb.size
  rw [alloc_size'] at hs
  exact sand_mk hS hsw hcw (fun k hk _ => Below.heap_alloc _ _ k hk) (Box.new w4 [.slice none 0 0, .slice (some ⟨w3.heap.size, 0, none⟩) N N, .slice ow N cw] 26)
    (((row_new hZ w3).below hb).new _) (.inr (Nat.le_refl _)) (by omega) (Nat.le_refl _) (((bnew (Below.refl _ _) _).trans (hb.mono (by rw [alloc_size']; omega))).alloc (by omega) _)
theorem sbE {S0 : Nat} (hS : w3.heap.size ≤ S0) (hZ : Zs.toList = List.replicate N (.int .i64 0)) (hb : Below w3.heap.size w3 w4) (hsw : SliceR (slcR intR 1) 1 (fun k => S0 ≤ k ∧ k < w4.heap.size) w4 ow (waitD d q N)) (hcw : N ≤ cw) :
    SandBox w3 ((w4.alloc (.cells Zs 3)).alloc (.cells #[.slice none 0 0, .slice (some ⟨w4.heap.size, 0, none⟩) N N, .slice ow N cw] 26)) (w4.heap.size + 1) N d q := by
  have hs := hb.size
  have hbx := Box.new (w4.alloc (.cells Zs 3)) [.slice none 0 0, .slice (some ⟨w4.heap.size, 0, none⟩) N N, .slice ow N cw] 26
  rw [alloc_size'] at hbx
  exact sand_mk hS hsw hcw (fun k hk _ => (Below.heap_alloc _ _ k (by rw [alloc_size']; omega)).trans (Below.heap_alloc _ _ k hk)) hbx
    ((row_new hZ w4).new _) (.inr (by omega)) (by omega) (by omega) ((hb.alloc hs _).alloc (by rw [alloc_size']; omega) _)
theorem sbF {S0 : Nat} (hS : w3.heap.size ≤ S0) (hZ : Zs.toList = List.replicate N (.int .i64 0)) (hb : Below w3.heap.size w3 w4) (hsw : SliceR (slcR intR 1) 1 (fun k => S0 ≤ k ∧ k < w4.heap.size) w4 ow (waitD d q N)) (hcw : N ≤ cw) :
    SandBox w3 ((w4.alloc (.cells #[.slice none 0 0, .slice (some ⟨w4.heap.size + 1, 0, none⟩) N N, .slice ow N cw] 26)).alloc (.cells Zs 3)) w4.heap.size N d q := by
  have hs := hb.size
  have hbx := (Box.new w4 [.slice none 0 0, .slice (some ⟨w4.heap.size + 1, 0, none⟩) N N, .slice ow N cw] 26).next (.cells Zs 3)
  have hrw := row_new hZ (w4.alloc (.cells #[.slice none 0 0, .slice (some ⟨w4.heap.size + 1, 0, none⟩) N N, .slice ow N cw] 26))
  rw [alloc_size'] at hrw
  exact sand_mk hS hsw hcw (fun k hk _ => (Below.heap_alloc _ _ k (by rw [alloc_size']; omega)).trans (Below.heap_alloc _ _ k hk)) hbx hrw (.inr (Nat.le_refl _)) hs (by omega) ((hb.alloc hs _).alloc (by rw [alloc_size']; omega) _)
theorem set3_heap {w : World} {b k : Nat} {x y z : Value} (h : k ≠ b) : (((w.setCell ⟨b, 0, none⟩ x).setCell ⟨b, 1, none⟩ y).setCell ⟨b, 2, none⟩ z).heap[k]? = w.heap[k]? := by
  rw [Below.heap_setCell _ _ _ k h, Below.heap_setCell _ _ _ k h, Below.heap_setCell _ _ _ k h]
theorem sbBC {S0 b rg : Nat} (hz : Box w4 b [.slice none 0 0, .slice none 0 0, .slice none 0 0] 26) (hrow : Row1 (Value.int .i64) w4 rg 3 (List.replicate N 0) []) (hb : Below w3.heap.size w3 w4) (hS : w3.heap.size ≤ S0) (hsw : SliceR (slcR intR 1) 1 (fun k => S0 ≤ k ∧ k < w4.heap.size) w4 ow (waitD d q N)) (hcw : N ≤ cw) (hbS : b < S0) (hb3 : w3.heap.size ≤ b) (hrg : w3.heap.size ≤ rg) :
    SandBox w3 (((w4.setCell ⟨b, 0, none⟩ (.slice none 0 0)).setCell ⟨b, 1, none⟩ (.slice (some ⟨rg, 0, none⟩) N N)).setCell ⟨b, 2, none⟩ (.slice ow N cw)) b N d q := by
  have hfin := ((hz.put 0 (.slice none 0 0)).put 1 (.slice (some ⟨rg, 0, none⟩) N N)).put 2 (.slice ow N cw)
  simp only [List.set_cons_zero, List.set_cons_succ] at hfin
  exact sand_mk hS hsw hcw (fun k _ hne => set3_heap hne) hfin (hrow.keep (set3_heap fun e => ne_type hrow hz (by decide) e)) (.inl hbS) hb3 hrg (((hb.setCell hb3 _).setCell hb3 _).setCell hb3 _)
theorem sbD {b : Nat} {S0 : Nat} (hZ : Zs.toList = List.replicate N (.int .i64 0)) (hz : Box w4 b [.slice none 0 0, .slice none 0 0, .slice none 0 0] 26) (hb : Below w3.heap.size w3 w4) (hS : w3.heap.size ≤ S0) (hsw : SliceR (slcR intR 1) 1 (fun k => S0 ≤ k ∧ k < w4.heap.size) w4 ow (waitD d q N)) (hcw : N ≤ cw) (hbS : b < S0) (hb3 : w3.heap.size ≤ b) :
    SandBox w3 ((((w4.alloc (.cells Zs 3)).setCell ⟨b, 0, none⟩ (.slice none 0 0)).setCell ⟨b, 1, none⟩ (.slice (some ⟨w4.heap.size, 0, none⟩) N N)).setCell ⟨b, 2, none⟩ (.slice ow N cw)) b N d q := by
  have hs := hb.size
  have hl := hz.lt
  have hfin := (((hz.next (.cells Zs 3)).put 0 (.slice none 0 0)).put 1 (.slice (some ⟨w4.heap.size, 0, none⟩) N N)).put 2 (.slice ow N cw)
  simp only [List.set_cons_zero, List.set_cons_succ] at hfin
  exact sand_mk hS hsw hcw (fun k hk hne => (set3_heap hne).trans (Below.heap_alloc _ _ k hk)) hfin ((row_new hZ w4).keep (set3_heap (by omega))) (.inl hbS) hb3 (by omega) ((((hb.alloc hs _).setCell hb3 _).setCell hb3 _).setCell hb3 _)
end

end Go.Proofs.YtnigfddanoaonaaGreat

set_option linter.unusedVariables false
set_option linter.unusedSimpArgs false
namespace Go.Proofs.YtnigfddanoaonaaGreat
open Go.RowKit

theorem pilesU_none {es : List Edg} {n : Nat} {q : Int} {v : Nat} (h : pilesU es n q v = none) : ∀ m, v ≤ m → pilesU es n q m = none
  | 0, hm => by
    have : v = 0 := by omega
    subst this
    exact h
  | m + 1, hm => by
    by_cases he : v = m + 1
    · subst he; exact h
    · have h1 := pilesU_none h m (by omega)
      unfold pilesU
      rw [h1]
      rfl
theorem pilesU_len {es : List Edg} {n : Nat} {q : Int} : ∀ {v : Nat} {l : List Prc}, pilesU es n q v = some l → l.length = v
  | 0, l, h => by
    unfold pilesU at h
    injection h with h
    subst h
    rfl
  | v + 1, l, h => by
    unfold pilesU at h
    rw [Option.bind_eq_some_iff] at h
    obtain ⟨l0, h1, h2⟩ := h
    have h3 := pilesU_len h1
    split at h2
    · injection h2 with h2; subst h2; simp [h3]
    · split at h2
      · injection h2 with h2; subst h2; simp [h3]
      · cases h2
set_option maxRecDepth 100000 in
set_option maxHeartbeats 20000000 in
theorem nsand_any (n : Int) (es : List Edg) (oe : Option Addr) (c : Nat) (F : Foot) (w : World) (hs : SliceR edgR 3 F w oe es) (hc : es.length ≤ c) (hc2 : es.length ≤ 1000)
    (f : List Nat) (hU : Hid (gErr n es = 0 → Uf f (eL es))) (q : Int) (d : List Int) (od : Option Addr) (cd : Nat) (D : Foot) (hd : SliceR intR 1 D w od d) (hdc : d.length ≤ cd) (hdl : d.length ≤ 1000000) :
    Calls Tryz.prog 19 #[.agg #[.int .i64 n, .slice oe es.length c], .int .i64 q, .slice od d.length cd] w (NwPost w (sandR n es f q d)) := by
  obtain ⟨W1, e1⟩ : ∃ W1, w.alloc (.cells #[.int .i64 n, .slice oe es.length c] 43) = W1 := ⟨_, rfl⟩
  have bx1 : Box W1 w.heap.size [.int .i64 n, .slice oe es.length c] 43 := by rw [← e1]; exact Box.new w [.int .i64 n, .slice oe es.length c] 43
  have bb1 := bnew (Below.refl w.heap.size w) (.cells #[.int .i64 n, .slice oe es.length c] 43)
  rw [e1] at bb1
  obtain ⟨W2, e2⟩ : ∃ W2, W1.alloc (.cells #[.slice none 0 0, .slice none 0 0, .slice none 0 0] 26) = W2 := ⟨_, rfl⟩
  have bx2 : Box W2 W1.heap.size [.slice none 0 0, .slice none 0 0, .slice none 0 0] 26 := by rw [← e2]; exact Box.new W1 [.slice none 0 0, .slice none 0 0, .slice none 0 0] 26
  have bb2 := bnew (Below.refl W1.heap.size W1) (.cells #[.slice none 0 0, .slice none 0 0, .slice none 0 0] 26)
  rw [e2] at bb2
  have hz1 : w.heap.size ≤ W1.heap.size := bb1.size
  have hz2 : W1.heap.size < W2.heap.size := by rw [← e2, alloc_size']; omega
  have bx1 := bx1.below bb2
  have hb2 := bb1.trans (bb2.mono hz1)
  have HX1 := hide bx1
  have HX2 := hide bx2
  have HB2 := hide hb2
  have d0 := bx1.cell 0
  have d1 := bx1.cell 1
  have r0 := bx2.cell 0
  have r1 := bx2.cell 1
  have r2 := bx2.cell 2
  have rf := bx2.free
  simp only [List.getElem?_cons_zero, List.getElem?_cons_succ] at d0 d1 r0 r1 r2
  have HCK := hide (scheck_any n es oe c F W2 (hs.below edgR_ok hb2) hc hc2 f hU q d od cd D (hd.below intR_ok hb2) hdc (by omega))
  by_cases h0 : cfgE n es f q d = 0
  · obtain ⟨hg, h12, hdn, hdb⟩ := gErr_j h0
    obtain ⟨N, rfl⟩ := Int.eq_ofNat_of_zero_le (show 0 ≤ n by omega)
    have hdN : d.length = N := by omega
    have HS : Hid (sandR N es f q d = match pilesU es N q N with
      | some l => (⟨l, List.replicate N 0, waitD d q N⟩, 0)
      | none => (nwk0, 12)) := by
      show _ = _
      unfold sandR
      rw [if_pos h0]
      rfl
    rw [h0] at HCK
    obtain ⟨Zs, hZs, hmk⟩ := mk_ints 23 3 Tryz.underlying23 iInfo N (by omega)
    have HD := hide hd
    have HSS := hide hs
    have HG := hide hg
    have HDN := hide hdN
    have HDB := hide hdb
    have HZS := hide hZs
    clear hZs h0 bx1 bx2 bb1 bb2 hb2 hd hs hg hdn hdN hdb
    go_enter Tryz.func19, Tryz.ntmps19
    go_upto_region 4 with (go_at_call 51; refine HCK.out.mono ?_; rintro e w3 ⟨rfl, hb3⟩; have x1 := HX1.out.below hb3; have HX13 := hide x1; have HX23 := hide (HX2.out.below hb3); have HB3 := hide (HB2.out.trans (hb3.mono (by omega))); have HW3 := hide hb3.size; have y0 := x1.cell 0; have y1 := x1.cell 1; simp only [List.getElem?_cons_zero, List.getElem?_cons_succ] at y0 y1; clear hb3 x1)
    have HD3 := hide (HD.out.below intR_ok HB3.out)
    have hl3 : w.heap.size < w3.heap.size := World.block_lt_of_cell? _ _ y0
    have hn3 : w.heap.size ≠ w3.heap.size := by omega
    have hn4 : w.heap.size ≠ w3.heap.size + 1 := by omega
    go_cut [9] (fun s9 wx => ∃ b, s9 = .pointer (some ⟨b, 0, none⟩) ∧ Hid (SandBox w3 wx b N d q))
    case first =>
     go_region_held3 (fun w' => w'.cell? ⟨w.heap.size, 0, none⟩ = some (.int .i64 N)) (first | with_reducible exact y0 | with_reducible exact cell_drew (cell_next (cell_next y0 _) _) | with_reducible exact cell_drew (cell_next y0 _) | with_reducible exact cell_drew y0 | with_reducible exact cell_next y0 _ | with_reducible exact cell_next (cell_next y0 _) _ | with_reducible exact cell_set3 y0 (by assumption) | with_reducible exact cell_set3 (cell_next y0 _) (by assumption) | with_reducible exact cell_set3 (cell_next (cell_next y0 _) _) (by assumption) | exact y0) (first
      | (go_at_call 52; refine (nwaiting_any d q od cd D _ (by first | with_reducible exact HD3.out.below intR_ok (bnew (bnew (Below.refl _ _) _) _).drew | with_reducible exact HD3.out.below intR_ok (bnew (Below.refl _ _) _).drew | with_reducible exact HD3.out.below intR_ok (Below.refl _ _).drew) hdc hdl).mono ?_; rintro e w4 ⟨v4, rfl, h4, hb4⟩; obtain ⟨ow, cw, hv4, hcw, hsw⟩ := h4.slice (slcR_ok intR_ok (by decide)); rw [waitD_len] at hv4 hcw; subst hv4; rw [HDN.out] at hcw hsw; have hsw2 := wait_foot hsw; simp only [drew_size, World.size_alloc] at hsw2; have hb34 : Below w3.heap.size w3 w4 := (by first | with_reducible exact (bnew (bnew (Below.refl _ _) _) _).drew.trans (hb4.mono (by simp only [drew_size, World.size_alloc]; omega)) | with_reducible exact (bnew (Below.refl _ _) _).drew.trans (hb4.mono (by simp only [drew_size, World.size_alloc]; omega)) | exact (Below.refl _ _).drew.trans hb4 | exact hb4); (first | (have hz : Box w4 (w3.heap.size + 1) [.slice none 0 0, .slice none 0 0, .slice none 0 0] 26 := (by have h := Box.new (w3.alloc (.cells Zs 3)) [.slice none 0 0, .slice none 0 0, .slice none 0 0] 26; rw [alloc_size'] at h; first | exact h.draw.below hb4 | exact h.below hb4); have z0 := hz.cell 0; have z1 := hz.cell 1; have z2 := hz.cell 2; have zf := hz.free; have hzn := hz.next (.cells Zs 3); have n0 := hzn.cell 0; have n1 := hzn.cell 1; have n2 := hzn.cell 2; have nf := hzn.free; simp only [List.getElem?_cons_zero, List.getElem?_cons_succ] at z0 z1 z2 n0 n1 n2) | (have hz : Box w4 (w3.heap.size) [.slice none 0 0, .slice none 0 0, .slice none 0 0] 26 := (by have h := Box.new w3 [.slice none 0 0, .slice none 0 0, .slice none 0 0] 26; first | exact (h.next (.cells Zs 3)).draw.below hb4 | exact (h.next (.cells Zs 3)).below hb4 | exact h.draw.below hb4 | exact h.below hb4); have z0 := hz.cell 0; have z1 := hz.cell 1; have z2 := hz.cell 2; have zf := hz.free; have hzn := hz.next (.cells Zs 3); have n0 := hzn.cell 0; have n1 := hzn.cell 1; have n2 := hzn.cell 2; have nf := hzn.free; simp only [List.getElem?_cons_zero, List.getElem?_cons_succ] at z0 z1 z2 n0 n1 n2) | skip); have hzm := (Box.new w4 [.slice none 0 0, .slice none 0 0, .slice none 0 0] 26).next (.cells Zs 3); have m0 := hzm.cell 0; have m1 := hzm.cell 1; have m2 := hzm.cell 2; have mf := hzm.free; simp only [List.getElem?_cons_zero, List.getElem?_cons_succ] at m0 m1 m2; have y0 := (by first | exact (hb4.cell (World.block_lt_of_cell? _ _ (cell_next (cell_next y0 _) _))).trans (cell_next (cell_next y0 _) _) | exact (hb4.cell (World.block_lt_of_cell? _ _ (cell_next y0 _))).trans (cell_next y0 _) | exact (hb4.cell (World.block_lt_of_cell? _ _ y0)).trans y0 : w4.cell? ⟨w.heap.size, 0, none⟩ = some (.int .i64 N)); have hl4 : w.heap.size ≠ w4.heap.size := Nat.ne_of_lt (World.block_lt_of_cell? _ _ y0)))
     · go_wp2_with fail
       go_meet
       refine ⟨_, rfl, ?_⟩
       show SandBox _ _ _ _ _ _
       rw [HDN.out]
       exact sbA (by omega) HZS.out ((Below.refl _ _).drew.trans hb4) hsw2 hcw
     · go_wp2_with fail
       go_meet
       refine ⟨_, rfl, ?_⟩
       show SandBox _ _ _ _ _ _
       rw [HDN.out]
       exact sbBC (b := w3.heap.size + 1) (rg := w3.heap.size) hz (((row_new HZS.out w3).new (.cells #[.slice none 0 0, .slice none 0 0, .slice none 0 0] 26)).draw.below hb4) hb34 (by omega) hsw2 hcw (by omega) (by omega) (Nat.le_refl _)
     · go_wp2_with fail
       go_meet
       refine ⟨_, rfl, ?_⟩
       show SandBox _ _ _ _ _ _
       rw [HDN.out]
       exact sbE (by omega) HZS.out hb34 hsw2 hcw
     · go_wp2_with fail
       go_meet
       refine ⟨_, rfl, ?_⟩
       show SandBox _ _ _ _ _ _
       rw [HDN.out]
       exact sbF (by omega) HZS.out hb34 hsw2 hcw
     · go_wp2_with fail
       go_meet
       have h := row_new HZS.out (w3.alloc (.cells #[.slice none 0 0, .slice none 0 0, .slice none 0 0] 26))
       rw [alloc_size'] at h
       refine ⟨_, rfl, ?_⟩
       show SandBox _ _ _ _ _ _
       rw [HDN.out]
       exact sbBC (b := w3.heap.size) (rg := w3.heap.size + 1) hz (h.draw.below hb4) hb34 (by omega) hsw2 hcw (by omega) (Nat.le_refl _) (by omega)
     · go_wp2_with fail
       go_meet
       refine ⟨_, rfl, ?_⟩
       show SandBox _ _ _ _ _ _
       rw [HDN.out]
       exact sbD HZS.out hz hb34 (by omega) hsw2 hcw (by omega) (Nat.le_refl _)
    case rest =>
      obtain ⟨b, rfl, HSB⟩ := hcut
      obtain ⟨rg, ow, cw, hbx, hrow, hsw, hcw, hb3, hrg3, hrgb, hbl⟩ := HSB.out
      have hbl0 := hbx.lt
      have HW := hide (And.intro hrow (And.intro hsw hcw))
      have HBL := hide hbl
      have HBXc := hide hbx
      have x1 := HX13.out.below hbl
      have c0 := x1.cell 0
      have c1 := x1.cell 1
      simp only [List.getElem?_cons_zero, List.getElem?_cons_succ] at c0 c1
      have hw3c : w3.heap.size ≤ wc.heap.size := hbl.size
      have hW1 : W1.heap.size < w3.heap.size := by have := HW3.out; omega
      clear hbx hrow hsw hcw hbl x1 HSB
      go_wp2_with fail
      clear c0 c1 y0 y1 r0 r1 r2 rf
      go_loopg [30] N (fun gm iv wx => ∃ (v : Nat) (vp : Value) (l : List Prc), v ≤ N ∧ gm = N - v ∧ iv = .int .i64 v ∧ Hid (pilesU es N q v = some l) ∧ Hid (OwnS prcR 3 wc.heap.size 89 (InF (fun k => wc.heap.size ≤ k) vp) wx vp l) ∧ Hid (Box wx b [vp, .slice (some ⟨rg, 0, none⟩) N N, .slice ow N cw] 26) ∧ Hid (Below w3.heap.size w3 wx) ∧ Hid (wc.heap.size ≤ wx.heap.size ∧ ∀ k, k < wc.heap.size → k ≠ b → wx.heap[k]? = wc.heap[k]?))
      case atStart => exact ⟨0, _, [], by omega, by omega, rfl, rfl, OwnS.nil _ _ _ _ _ _, HBXc.out, HBL.out, Nat.le_refl _, fun k _ _ => rfl⟩
      case round =>
        obtain ⟨v, vp, l, hv, hgm, rfl, HPU, HO, HBX, HBW, HOFF⟩ := hrel
        have HGM := hide hgm
        have HLL : Hid (l.length = v) := pilesU_len HPU.out
        clear hgm
        have x1 := HX13.out.below HBW.out
        have y0 := x1.cell 0
        have y1 := x1.cell 1
        simp only [List.getElem?_cons_zero, List.getElem?_cons_succ] at y0 y1
        by_cases hlt : v < N
        · obtain ⟨oV, cV, hvp, hcV, _⟩ := HO.out.slice prcR_ok
          rw [HLL.out] at hvp hcV
          subst hvp
          have HSK := hide (nsink_any wr)
          have HOB := hide HO.out.block
          have hwr : wc.heap.size ≤ wr.heap.size := HOFF.out.1
          clear x1
          by_cases hvq : (v : Int) = q
          · have q1 : ((v : Int) != q) = false := by simp [hvq]
            have HN : Hid (pilesU es N q (v + 1) = some (l ++ [sinkP])) := by
              show _ = _
              unfold pilesU
              rw [HPU.out, Option.bind_some, if_pos hvq]
            clear hvq
            go_wp2_with (first
              | (go_at_call 53; refine HSK.out.mono ?_; rintro e w4 ⟨cs, rfl, ⟨oS, cS, hcs, iS, iL, hS1, hS2, hS3⟩, hb4⟩; have hcs' : cs = [.int .i64 1, .int .i64 1, .slice oS 1 cS] := hcs; subst hcs'; obtain ⟨W5, e5⟩ : ∃ W5, w4.alloc (.cells #[.int .i64 1, .int .i64 1, .slice oS 1 cS] 89) = W5 := ⟨_, rfl⟩; have bp : Box W5 w4.heap.size [.int .i64 1, .int .i64 1, .slice oS 1 cS] 89 := (by rw [← e5]; exact Box.new w4 [.int .i64 1, .int .i64 1, .slice oS 1 cS] 89); have bb5 : Below wr.heap.size wr W5 := (by rw [← e5]; exact hb4.alloc hb4.size _); have HREP : Hid (prcR (InF (fun k => wc.heap.size ≤ k) (.slice oV v cV)) W5 [.int .i64 1, .int .i64 1, .slice oS 1 cS] sinkP) := (by rw [← e5]; exact prcR_ok.keep (⟨oS, cS, rfl, iS, iL, hS1, hS2, hS3.wide rowR_ok (by decide) fun k hk _ => ⟨by omega, fun e => by have := (HOB.out k e.symm).2; omega⟩⟩) (SameOn.of_below (bnew (Below.refl _ _) _))); have HOW := hide (HO.out.below prcR_ok bb5); have HBXW := hide (HBX.out.below bb5); have HWS : Hid (wc.heap.size ≤ W5.heap.size) := Nat.le_trans hwr bb5.size; have HBWW : Hid (Below w3.heap.size w3 W5) := HBW.out.trans (bb5.mono (by omega)); have HOFW : Hid (∀ k, k < wc.heap.size → k ≠ b → W5.heap[k]? = wc.heap[k]?) := (fun k hk hkb => (bb5.block k (by omega)).trans (HOFF.out.2 k hk hkb)); have p0 := bp.cell 0; have p1 := bp.cell 1; have p2 := bp.cell 2; have b0 := HBXW.out.cell 0; have b0n := (HBXW.out.next (.cells #[.int .i64 1, .int .i64 1, .slice oS 1 cS] 89)).cell 0; simp only [List.getElem?_cons_zero, List.getElem?_cons_succ] at p0 p1 p2 b0 b0n; clear bp bb5 hb4 hS1 hS2 hS3 hcs iS iL)
              | (at_builtin; refine wpList_append_in rfl (.tmp 48) (.tmp 50) 22 rfl wc.heap.size 89 _ 3 40 Tryz.underlying22 prcInfoN rfl (by decide) prcR_ok (fun k => wc.heap.size ≤ k) (.slice oV v cV) l (by simp [Act.eval, Act.put]) (HOW.out.new prcR_ok _) ⟨_, 0, none⟩ 1 [.int .i64 1, .int .i64 1, .slice oS 1 cS] sinkP (by simp [Act.eval, Act.put]) (World.news_of_block (heap_alloc_new _ _)) (prcR_ok.keep HREP.out (SameOn.of_below (bnew (Below.refl _ _) _))) (by rw [HLL.out]; omega) (by rw [HLL.out]; unfold maxLen; omega) (by rw [alloc_size']; have := HWS.out; omega) (fun v' w8 ho hb8 hg8 hat => ?_); have hbx8 := (HBXW.out.next (.cells #[.int .i64 1, .int .i64 1, .slice oS 1 cS] 89)).grown hg8 (fun e => by have := (HOB.out b e.symm).1; omega); have m0 := hbx8.cell 0; have mf := hbx8.free 0; obtain ⟨o8, c8, hv8, _, _⟩ := ho.slice prcR_ok; rw [List.length_append, HLL.out] at hv8; simp only [List.length_cons, List.length_nil, Nat.zero_add] at hv8; subst hv8; simp only [List.getElem?_cons_zero] at m0; have HOW8 := hide ho; have HX8 := hide hbx8; have HB8 := hide hb8; have HG8 := hide hg8; clear ho hb8 hg8 hat hbx8))
            go_roundg (N - (v + 1))
            case measure => have := HGM.out; omega
            case rel =>
              have hput := HX8.out.put 0 (.slice o8 (v + 1) c8)
              simp only [List.set_cons_zero] at hput
              have hwsz := HWS.out
              have hw8 : wc.heap.size ≤ w8.heap.size := by
                have := HB8.out.size
                rw [alloc_size'] at this
                omega
              refine ⟨v + 1, .slice o8 (v + 1) c8, l ++ [sinkP], by omega, rfl, by go_num, HN.out, ?_, hput, ?_, ?_, ?_⟩
              · exact HOW8.out.keep prcR_ok (fun g hg => Below.heap_setCell _ _ _ g (by have := (HOW8.out.block g hg).1; simp only; omega)) (fun k hk _ => Below.heap_setCell _ _ _ k (by have := hk.1; simp only; omega))
              · show Below _ _ _
                refine Below.setCell (p := ⟨b, 0, none⟩) ?_ hb3 _
                exact (HBWW.out.alloc (by omega) _).trans (HB8.out.mono hw3c)
              · rw [World.size_setCell]; exact hw8
              · intro k hk hkb
                rw [Below.heap_setCell _ _ _ k (by simp only; omega), HB8.out.block k hk, Below.heap_alloc _ _ k (by omega)]
                exact HOFW.out k hk hkb
          · have q1 : ((v : Int) != q) = true := by simp [hvq]
            obtain ⟨sent, hsent⟩ : ∃ sent, sent = nbrU es v N := ⟨_, rfl⟩
            have HSE := hide hsent
            by_cases h16 : sent.length ≤ 16
            · have HN : Hid (pilesU es N q (v + 1) = some (l ++ [topP sent])) := by
                show _ = _
                unfold pilesU
                rw [HPU.out, Option.bind_some, if_neg hvq, ← hsent, if_pos h16]
              obtain ⟨k, hk⟩ : ∃ k, k = sent.length := ⟨_, rfl⟩
              have HK := hide hk
              have hk0 : (0 : Int) ≤ (k : Int) := by omega
              have hk16 : (k : Int) ≤ 16 := by omega
              clear hvq hsent hk
              go_wp2_with (first
                | (go_at_call 53; refine HSK.out.mono ?_; rintro e w4 ⟨cs, rfl, ⟨oS, cS, hcs, iS, iL, hS1, hS2, hS3⟩, hb4⟩; have hcs' : cs = [.int .i64 1, .int .i64 1, .slice oS 1 cS] := hcs; subst hcs'; obtain ⟨W5, e5⟩ : ∃ W5, w4.alloc (.cells #[.int .i64 1, .int .i64 1, .slice oS 1 cS] 89) = W5 := ⟨_, rfl⟩; have bp : Box W5 w4.heap.size [.int .i64 1, .int .i64 1, .slice oS 1 cS] 89 := (by rw [← e5]; exact Box.new w4 [.int .i64 1, .int .i64 1, .slice oS 1 cS] 89); have bb5 : Below wr.heap.size wr W5 := (by rw [← e5]; exact hb4.alloc hb4.size _); have HBP := hide bp; have HBB5 := hide bb5; have hw45 : wr.heap.size ≤ w4.heap.size := hb4.size; have HTOP := hide (ntoppler_any N es oe c F W5 (HSS.out.below edgR_ok (HB3.out.trans ((HBW.out.trans (bb5.mono (by omega))).mono (by omega)))) hc (by omega) HG.out v hlt); have g1 := (HX13.out.below (HBW.out.trans (bb5.mono (by omega)))).cell 0; have g2 := (HX13.out.below (HBW.out.trans (bb5.mono (by omega)))).cell 1; simp only [List.getElem?_cons_zero, List.getElem?_cons_succ] at g1 g2; clear bp bb5 hb4 hS1 hS2 hS3 hcs iS iL)
                | (go_at_call 54; refine HTOP.out.mono ?_; rintro e w6 ⟨hT, hb6⟩; rw [← HSE.out, if_pos h16] at hT; obtain ⟨cs, rfl, ⟨oT, cT, hcs, iS, iL, hT1, hT2, hT3⟩⟩ := hT; have hcs' : cs = [.int .i64 k, .int .i64 1, .slice oT k cT] := (by rw [hcs]; simp [topP, HK.out]); subst hcs'; have hbp := HBP.out.below hb6; have p0 := hbp.cell 0; have p1 := hbp.cell 1; have p2 := hbp.cell 2; have pf := hbp.free; simp only [List.getElem?_cons_zero, List.getElem?_cons_succ] at p0 p1 p2; obtain ⟨W7, e7⟩ : ∃ W7, ((w6.setCell ⟨w4.heap.size, 0, none⟩ (.int .i64 k)).setCell ⟨w4.heap.size, 1, none⟩ (.int .i64 1)).setCell ⟨w4.heap.size, 2, none⟩ (.slice oT k cT) = W7 := ⟨_, rfl⟩; have hbp7 : Box W7 w4.heap.size [.int .i64 k, .int .i64 1, .slice oT k cT] 89 := (by rw [← e7]; have h := ((hbp.put 0 (.int .i64 k)).put 1 (.int .i64 1)).put 2 (.slice oT k cT); simpa using h); have hb56 : Below wr.heap.size wr w6 := HBB5.out.trans (hb6.mono HBB5.out.size); have bb7 : Below wr.heap.size wr W7 := (by rw [← e7]; exact ((hb56.setCell hw45 _).setCell hw45 _).setCell hw45 _); have hl5 : w4.heap.size < W5.heap.size := HBP.out.lt; have HREP : Hid (prcR (InF (fun k => wc.heap.size ≤ k) (.slice oV v cV)) W7 [.int .i64 k, .int .i64 1, .slice oT k cT] (topP sent)) := (⟨oT, cT, by rw [← hcs], iS, iL, hT1, hT2, (hT3.keep rowR_ok fun j hj _ => (by rw [← e7]; exact set3_heap (by omega))).wide rowR_ok (by decide) fun j hj _ => ⟨by omega, fun e => by have := (HOB.out j e.symm).2; omega⟩⟩ : prcR _ _ _ _); have HOW := hide (HO.out.below prcR_ok bb7); have HBXW := hide (HBX.out.below bb7); have HWS : Hid (wc.heap.size ≤ W7.heap.size) := Nat.le_trans hwr bb7.size; have HBWW : Hid (Below w3.heap.size w3 W7) := HBW.out.trans (bb7.mono (by omega)); have HOFW : Hid (∀ k, k < wc.heap.size → k ≠ b → W7.heap[k]? = wc.heap[k]?) := (fun k hk hkb => (bb7.block k (by omega)).trans (HOFF.out.2 k hk hkb)); have s0 := hbp7.cell 0; have s1 := hbp7.cell 1; have s2 := hbp7.cell 2; have b0 := HBXW.out.cell 0; have b0n := (HBXW.out.next (.cells #[.int .i64 k, .int .i64 1, .slice oT k cT] 89)).cell 0; simp only [List.getElem?_cons_zero, List.getElem?_cons_succ] at s0 s1 s2 b0 b0n; clear hbp hbp7 hb56 bb7 hb6 hT1 hT2 hT3 hcs iS iL)
                | (at_builtin; refine wpList_append_in rfl (.tmp 48) (.tmp 50) 22 rfl wc.heap.size 89 _ 3 40 Tryz.underlying22 prcInfoN rfl (by decide) prcR_ok (fun k => wc.heap.size ≤ k) (.slice oV v cV) l (by simp [Act.eval, Act.put]) (HOW.out.new prcR_ok _) ⟨_, 0, none⟩ 1 [.int .i64 k, .int .i64 1, .slice oT k cT] (topP sent) (by simp [Act.eval, Act.put]) (World.news_of_block (heap_alloc_new _ _)) (prcR_ok.keep HREP.out (SameOn.of_below (bnew (Below.refl _ _) _))) (by rw [HLL.out]; omega) (by rw [HLL.out]; unfold maxLen; omega) (by rw [alloc_size']; have := HWS.out; omega) (fun v' w8 ho hb8 hg8 hat => ?_); have hbx8 := (HBXW.out.next (.cells #[.int .i64 k, .int .i64 1, .slice oT k cT] 89)).grown hg8 (fun e => by have := (HOB.out b e.symm).1; omega); have m0 := hbx8.cell 0; have mf := hbx8.free 0; obtain ⟨o8, c8, hv8, _, _⟩ := ho.slice prcR_ok; rw [List.length_append, HLL.out] at hv8; simp only [List.length_cons, List.length_nil, Nat.zero_add] at hv8; subst hv8; simp only [List.getElem?_cons_zero] at m0; have HOW8 := hide ho; have HX8 := hide hbx8; have HB8 := hide hb8; have HG8 := hide hg8; clear ho hb8 hg8 hat hbx8))
              go_roundg (N - (v + 1))
              case measure => have := HGM.out; omega
              case rel =>
                have hput := HX8.out.put 0 (.slice o8 (v + 1) c8)
                simp only [List.set_cons_zero] at hput
                have hwsz := HWS.out
                have hw8 : wc.heap.size ≤ w8.heap.size := by
                  have := HB8.out.size
                  rw [alloc_size'] at this
                  omega
                refine ⟨v + 1, .slice o8 (v + 1) c8, l ++ [(topP sent)], by omega, rfl, by go_num, HN.out, ?_, hput, ?_, ?_, ?_⟩
                · exact HOW8.out.keep prcR_ok (fun g hg => Below.heap_setCell _ _ _ g (by have := (HOW8.out.block g hg).1; simp only; omega)) (fun k hk _ => Below.heap_setCell _ _ _ k (by have := hk.1; simp only; omega))
                · show Below _ _ _
                  refine Below.setCell (p := ⟨b, 0, none⟩) ?_ hb3 _
                  exact (HBWW.out.alloc (by omega) _).trans (HB8.out.mono hw3c)
                · rw [World.size_setCell]; exact hw8
                · intro k hk hkb
                  rw [Below.heap_setCell _ _ _ k (by simp only; omega), HB8.out.block k hk, Below.heap_alloc _ _ k (by omega)]
                  exact HOFW.out k hk hkb
            · have HN : Hid (pilesU es N q (v + 1) = none) := by
                show _ = _
                unfold pilesU
                rw [HPU.out, Option.bind_some, if_neg hvq, ← hsent, if_neg h16]
              clear hvq hsent
              go_wp2_with (first
                | (go_at_call 53; refine HSK.out.mono ?_; rintro e w4 ⟨cs, rfl, ⟨oS, cS, hcs, iS, iL, hS1, hS2, hS3⟩, hb4⟩; have hcs' : cs = [.int .i64 1, .int .i64 1, .slice oS 1 cS] := hcs; subst hcs'; obtain ⟨W5, e5⟩ : ∃ W5, w4.alloc (.cells #[.int .i64 1, .int .i64 1, .slice oS 1 cS] 89) = W5 := ⟨_, rfl⟩; have bp : Box W5 w4.heap.size [.int .i64 1, .int .i64 1, .slice oS 1 cS] 89 := (by rw [← e5]; exact Box.new w4 [.int .i64 1, .int .i64 1, .slice oS 1 cS] 89); have bb5 : Below wr.heap.size wr W5 := (by rw [← e5]; exact hb4.alloc hb4.size _); have HBP := hide bp; have HBB5 := hide bb5; have hw45 : wr.heap.size ≤ w4.heap.size := hb4.size; have HTOP := hide (ntoppler_any N es oe c F W5 (HSS.out.below edgR_ok (HB3.out.trans ((HBW.out.trans (bb5.mono (by omega))).mono (by omega)))) hc (by omega) HG.out v hlt); have g1 := (HX13.out.below (HBW.out.trans (bb5.mono (by omega)))).cell 0; have g2 := (HX13.out.below (HBW.out.trans (bb5.mono (by omega)))).cell 1; simp only [List.getElem?_cons_zero, List.getElem?_cons_succ] at g1 g2; clear bp bb5 hb4 hS1 hS2 hS3 hcs iS iL)
                | (go_at_call 54; refine HTOP.out.mono ?_; rintro e w6 ⟨hT, hb6⟩; rw [← HSE.out, if_neg h16] at hT; subst hT; have hbp := HBP.out.below hb6; have p0 := hbp.cell 0; have p1 := hbp.cell 1; have p2 := hbp.cell 2; have pf := hbp.free; simp only [List.getElem?_cons_zero, List.getElem?_cons_succ] at p0 p1 p2; obtain ⟨W7, e7⟩ : ∃ W7, ((w6.setCell ⟨w4.heap.size, 0, none⟩ (.int .i64 0)).setCell ⟨w4.heap.size, 1, none⟩ (.int .i64 0)).setCell ⟨w4.heap.size, 2, none⟩ (.slice none 0 0) = W7 := ⟨_, rfl⟩; have hb56 : Below wr.heap.size wr w6 := HBB5.out.trans (hb6.mono HBB5.out.size); have bb7 : Below wr.heap.size wr W7 := (by rw [← e7]; exact ((hb56.setCell hw45 _).setCell hw45 _).setCell hw45 _); have HB7 := hide (HBW.out.trans (bb7.mono (by omega))); have hx2 := HX23.out.below HB7.out; have r0 := hx2.cell 0; have r1 := hx2.cell 1; have r2 := hx2.cell 2; have rf := hx2.free; simp only [List.getElem?_cons_zero, List.getElem?_cons_succ] at r0 r1 r2; have HX2w := hide hx2; clear hbp hb56 bb7 hb6 hx2))
              have hfin := ((HX2w.out.put 0 (.slice none 0 0)).put 1 (.slice none 0 0)).put 2 (.slice none 0 0)
              simp only [List.set_cons_zero, List.set_cons_succ] at hfin
              refine bodyPost_ret (results_cell_tmp_row rfl _ _ W1.heap.size 26 _ (0, 0) _ rfl hfin Tryz.underlying26 rfl (by kernel_rfl)) rfl ?_
              rw [HS.out, pilesU_none HN.out N (by omega)]
              have hbz : Below w.heap.size w W7 := HB3.out.trans (HB7.out.mono (by omega))
              exact ⟨_, rfl, ⟨none, 0, none, 0, none, 0, rfl, by simp [nwk0], by simp [nwk0], by simp [nwk0], SliceR.nil _ _ _ _ _, SliceR.nil _ _ _ _ _, SliceR.nil _ _ _ _ _⟩, ((hbz.setCell hz1 _).setCell hz1 _).setCell hz1 _⟩
        · have hve : v = N := by omega
          subst hve
          obtain ⟨oV, cV, hvp, hcV, hsV⟩ := HO.out.slice prcR_ok
          rw [HLL.out] at hvp hcV
          subst hvp
          have HSV := hide hsV
          have b0 := HBX.out.cell 0
          have b1 := HBX.out.cell 1
          have b2 := HBX.out.cell 2
          have hx2 := HX23.out.below HBW.out
          have r0 := hx2.cell 0
          have r1 := hx2.cell 1
          have r2 := hx2.cell 2
          have rf := hx2.free
          simp only [List.getElem?_cons_zero, List.getElem?_cons_succ] at b0 b1 b2 r0 r1 r2
          have HX2w := hide hx2
          clear x1 hx2 hsV
          go_wp2_with fail
          have hfin := ((HX2w.out.put 0 (.slice oV v cV)).put 1 (.slice (some ⟨rg, 0, none⟩) v v)).put 2 (.slice ow v cw)
          simp only [List.set_cons_zero, List.set_cons_succ] at hfin
          refine bodyPost_ret (results_cell_tmp_row rfl _ _ W1.heap.size 26 _ (0, 0) _ rfl hfin Tryz.underlying26 rfl (by kernel_rfl)) rfl ?_
          rw [HS.out, HPU.out]
          obtain ⟨hrow, hsw, hcw⟩ := HW.out
          obtain ⟨hoff1, hoff2⟩ := HOFF.out
          have hne : ∀ k, w3.heap.size ≤ k → (((wr.setCell ⟨W1.heap.size, 0, none⟩ (.slice oV v cV)).setCell ⟨W1.heap.size, 1, none⟩ (.slice (some ⟨rg, 0, none⟩) v v)).setCell ⟨W1.heap.size, 2, none⟩ (.slice ow v cw)).heap[k]? = wr.heap[k]? := fun k hk => set3_heap (by omega)
          refine ⟨_, rfl, ⟨oV, cV, some ⟨rg, 0, none⟩, v, ow, cw, ?_, ?_, ?_, ?_, ?_, ?_, ?_⟩, ?_⟩
          · simp only [HLL.out, List.length_replicate, waitD_len]
          · simp only [HLL.out]; exact hcV
          · simp
          · simp only [waitD_len]; exact hcw
          · exact (HSV.out.keep prcR_ok fun k hk _ => hne k (by rcases hk with h | h; exact Nat.le_trans hw3c h.1; exact Nat.le_trans hw3c h)).all prcR_ok (by decide)
          · have h1 := (hrow.keep (hoff2 rg hrow.lt hrgb)).keep (hne rg hrg3)
            exact h1.ints (fun k hk => by have := List.eq_of_mem_replicate hk; subst this; unfold I64; simp) trivial
          · exact ((hsw.keep (slcR_ok intR_ok (by decide)) fun k hk hkl => (hne k hk.1).trans (hoff2 k hkl hk.2)).all (slcR_ok intR_ok (by decide)) (by decide))
          · have hbz : Below w.heap.size w wr := HB3.out.trans (HBW.out.mono (by omega))
            exact ((hbz.setCell hz1 _).setCell hz1 _).setCell hz1 _
  · have HS : Hid (sandR n es f q d = (nwk0, cfgE n es f q d)) := if_neg h0
    have hq0 : (cfgE n es f q d != 0) = true := by simpa using h0
    clear h0 bx1 bx2 bb1 bb2 hb2 hd hs
    go_enter Tryz.func19, Tryz.ntmps19
    go_wp2_with (go_at_call 51; refine HCK.out.mono ?_; rintro e w3 ⟨rfl, hb3⟩; have hx2 := HX2.out.below hb3; have HX2w := hide hx2; have HB3 := hide (HB2.out.trans (hb3.mono (by omega))); have r0 := hx2.cell 0; have r1 := hx2.cell 1; have r2 := hx2.cell 2; have rf := hx2.free; simp only [List.getElem?_cons_zero, List.getElem?_cons_succ] at r0 r1 r2; clear hb3 hx2)
    have hfin := ((HX2w.out.put 0 (.slice none 0 0)).put 1 (.slice none 0 0)).put 2 (.slice none 0 0)
    simp only [List.set_cons_zero, List.set_cons_succ] at hfin
    refine bodyPost_ret (results_cell_tmp_row rfl _ _ W1.heap.size 26 _ (0, 0) _ rfl hfin Tryz.underlying26 rfl (by kernel_rfl)) rfl ?_
    rw [HS.out]
    exact ⟨_, rfl, ⟨none, 0, none, 0, none, 0, rfl, by simp [nwk0], by simp [nwk0], by simp [nwk0], SliceR.nil _ _ _ _ _, SliceR.nil _ _ _ _ _, SliceR.nil _ _ _ _ _⟩, ((HB3.out.setCell hz1 _).setCell hz1 _).setCell hz1 _⟩

end Go.Proofs.YtnigfddanoaonaaGreat

set_option linter.unusedVariables false
set_option linter.unusedSimpArgs false
namespace Go.Proofs.YtnigfddanoaonaaGreat
open Go.RowKit

theorem drew_sz (w : World) : w.drew.heap.size = w.heap.size := rfl
theorem litO {F : Foot} (w : World) (x y : Int) (hx : I64 x) (hy : I64 y) (hF : F w.heap.size) : SliceR outR 2 F (w.alloc (.cells #[.int .i64 x, .int .i64 y] 102)) (some ⟨w.heap.size, 0, none⟩) [⟨x, y⟩] :=
  SliceR.lit (F := F) outR_ok w 102 [[.int .i64 x, .int .i64 y]] [⟨x, y⟩] (fun k z hz => by match k, hz with | 0, hz => simp at hz; subst hz; exact ⟨_, rfl, rfl, hx, hy⟩) rfl (fun _ h => h) hF
def turnRow (to_ : List Int) (s : Nat) : List Rul := [⟨((s + 1) % to_.length : Nat), [⟨to_.getD ((s + 1) % to_.length) 0, 0⟩]⟩]
def turnP (to_ : List Int) : Prc := ⟨to_.length, 1, (List.range to_.length).map (turnRow to_)⟩
theorem turnRules_take (to_ : List Int) (s : Nat) : (List.range (s + 1)).map (turnRow to_) = (List.range s).map (turnRow to_) ++ [turnRow to_ s] := by rw [List.range_succ, List.map_append]; rfl
def TurnPost (w : World) (to_ : List Int) (e : Ending) (w' : World) : Prop :=
  (if to_.length ≤ 16 then ∃ cs, e = .returned (.tuple #[.agg cs.toArray, .int .i64 0]) ∧ prcR (fun k => w.heap.size ≤ k) w' cs (turnP to_)
    else e = .returned (.tuple #[.agg #[.int .i64 0, .int .i64 0, .slice none 0 0], .int .i64 12])) ∧ Below w.heap.size w w'
set_option maxRecDepth 100000 in
set_option maxHeartbeats 4000000 in
theorem nturner_any (to_ : List Int) (ot : Option Addr) (ct : Nat) (G : Foot) (w : World) (ht : SliceR intR 1 G w ot to_) (hct : to_.length ≤ ct) (hl6 : to_.length ≤ 1000000) :
    Calls Tryz.prog 73 #[.slice ot to_.length ct] w (TurnPost w to_) := by
  obtain ⟨W2, e2⟩ : ∃ W2, w.alloc (.cells #[.int .i64 0, .int .i64 0, .slice none 0 0] 89) = W2 := ⟨_, rfl⟩
  have bx2 : Box W2 w.heap.size [.int .i64 0, .int .i64 0, .slice none 0 0] 89 := by rw [← e2]; exact Box.new w [.int .i64 0, .int .i64 0, .slice none 0 0] 89
  have bb2 := bnew (Below.refl w.heap.size w) (.cells #[.int .i64 0, .int .i64 0, .slice none 0 0] 89)
  rw [e2] at bb2
  have hz2 : w.heap.size < W2.heap.size := by rw [← e2, alloc_size']; omega
  have HX2 := hide bx2
  have HB2 := hide bb2
  have HT := hide (ht.below intR_ok bb2)
  have r0 := bx2.cell 0
  have r1 := bx2.cell 1
  have r2 := bx2.cell 2
  have rf := bx2.free
  simp only [List.getElem?_cons_zero, List.getElem?_cons_succ] at r0 r1 r2
  obtain ⟨k, hk⟩ : ∃ k, k = to_.length := ⟨_, rfl⟩
  rw [← hk] at hct hl6 ⊢
  have HK := hide hk
  have hzz := Nat.le_refl w.heap.size
  clear bx2 bb2 ht hk
  by_cases hk16 : k ≤ 16
  · have q16 : decide ((16 : Int) < (k : Int)) = false := by simp; omega
    go_enter Tryz.func73, Tryz.ntmps73
    go_wp2_with fail
    obtain ⟨pb, hpb⟩ : ∃ pb, pb = W2.heap.size := ⟨_, rfl⟩
    obtain ⟨W3, e3⟩ : ∃ W3, W2.alloc (.cells #[.int .i64 k, .int .i64 1, .slice none 0 0] 89) = W3 := ⟨_, rfl⟩
    have HX3 : Hid (Box W3 pb [.int .i64 k, .int .i64 1, .slice none 0 0] 89) := by show Box _ _ _ _; rw [hpb, ← e3]; exact Box.new W2 [.int .i64 k, .int .i64 1, .slice none 0 0] 89
    have HB3 : Hid (Below pb W2 W3) := by show Below _ _ _; rw [hpb, ← e3]; exact bnew (Below.refl _ _) _
    rw [e3, ← hpb]
    rw [← hpb] at hz2
    have HPB := hide hpb
    clear e3 hpb r0 r1 r2 rf
    go_loopg [16] k (fun gm sv wx => ∃ (s : Nat) (vq : Value), s ≤ k ∧ gm = k - s ∧ sv = .int .i64 s ∧ Hid (OwnS (slcR ruleR 2) 1 (pb + 1) 100 (InF (fun q => pb < q) vq) wx vq ((List.range s).map (turnRow to_))) ∧ Hid (Box wx pb [.int .i64 k, .int .i64 1, vq] 89) ∧ Hid (Below pb W3 wx))
    case atStart => exact ⟨0, _, by omega, by omega, rfl, OwnS.nil _ _ _ _ _ _, HX3.out, Below.refl _ _⟩
    case round =>
      obtain ⟨s, vq, hs, hgm, rfl, HOq, HXq, HBq⟩ := hrel
      have HGM := hide hgm
      clear hgm
      have hpbl : pb < wr.heap.size := HXq.out.lt
      have hpw : Below pb W2 wr := HB3.out.trans HBq.out
      obtain ⟨oQ, cQ, hvq, hcQ, hsQ⟩ := HOq.out.slice rowR_ok
      rw [List.length_map, List.length_range] at hvq hcQ
      by_cases hls : s < k
      · obtain ⟨r, hr⟩ : ∃ r, r = (s + 1) % k := ⟨_, rfl⟩
        have hrem : ((s : Int) + 1).tmod (k : Int) = (r : Int) := by rw [hr, Int.tmod_eq_emod_of_nonneg (by omega)]; rfl
        have hr16 : r < k := by rw [hr]; exact Nat.mod_lt _ (by omega)
        obtain ⟨x, _, hxg, hx64, b1, off1, hot, _, cx⟩ := ((HT.out.loc intR_ok (by omega)).keep intR_ok fun q hq _ => hpw.block q (by rw [HPB.out]; exact hq)).int_at (i := r) (by rw [← HK.out]; exact hr16)
        subst hot
        have hr0 : (0 : Int) ≤ (r : Int) := by omega
        have hr1 : (r : Int) < (k : Int) := by omega
        subst hvq
        have hrow : turnRow to_ s = [⟨r, [⟨x, 0⟩]⟩] := by
          unfold turnRow
          rw [← HK.out, ← hr, getD_some hxg]
        have HT2 : Hid ((List.range (s + 1)).map (turnRow to_) = (List.range s).map (turnRow to_) ++ [turnRow to_ s]) := turnRules_take to_ s
        have HLS : Hid (((List.range s).map (turnRow to_)).length = s) := by show _ = _; rw [List.length_map, List.length_range]
        have HOB := hide HOq.out.block
        obtain ⟨A, hA⟩ : ∃ A : Obj, A = .cells #[.int .i64 x, .int .i64 0] 102 := ⟨_, rfl⟩
        obtain ⟨B, hB⟩ : ∃ B : Obj, B = .cells #[.int .i64 r, .slice (some ⟨wr.heap.size, 0, none⟩) 1 1] 99 := ⟨_, rfl⟩
        have HREP : Hid (slcR ruleR 2 (InF (fun q => pb < q) (.slice oQ s cQ)) ((wr.alloc (.cells #[.int .i64 x, .int .i64 0] 102)).alloc (.cells #[.int .i64 r, .slice (some ⟨wr.heap.size, 0, none⟩) 1 1] 99)) [.slice (some ⟨wr.heap.size + 1, 0, none⟩) 1 1] (turnRow to_ s)) := by
          show slcR ruleR 2 _ _ _ _
          rw [hrow]
          have h1' : SliceR outR 2 (InF (fun q => pb < q) (.slice oQ s cQ)) (wr.alloc (.cells #[.int .i64 x, .int .i64 0] 102)) (some ⟨wr.heap.size, 0, none⟩) [⟨x, 0⟩] :=
            litO (F := InF (fun q => pb < q) (.slice oQ s cQ)) wr x 0 hx64 (by unfold I64; simp) ⟨hpbl, fun e => by have := (HOB.out _ e.symm).2; exact absurd this (Nat.lt_irrefl _)⟩
          have h2 := ruleF_lit (F := InF (fun q => pb < q) (.slice oQ s cQ)) (wr.alloc (.cells #[.int .i64 x, .int .i64 0] 102)) [.int .i64 r, .slice (some ⟨wr.heap.size, 0, none⟩) 1 1] ⟨r, [⟨x, 0⟩]⟩ ⟨_, 1, rfl, by unfold I64; simp only; omega, by simp, by simp, h1'⟩ (by rw [alloc_size']; exact ⟨by omega, fun e => by have := (HOB.out _ e.symm).2; omega⟩)
          rw [alloc_size'] at h2
          exact ⟨_, 1, rfl, by simp, by simp, h2⟩
        have p2 := HXq.out.cell 2
        have pf := HXq.out.free
        simp only [List.getElem?_cons_zero, List.getElem?_cons_succ] at p2
        have p2a := cell_next p2 (.cells #[.int .i64 x, .int .i64 0] 102)
        have p2b := cell_next p2a (.cells #[.int .i64 r, .slice (some ⟨wr.heap.size, 0, none⟩) 1 1] 99)
        have p2c := cell_next p2b (.cells #[.slice (some ⟨wr.heap.size + 1, 0, none⟩) 1 1] 100)
        have cxa := cell_next cx
        clear hr hxg hrow hA hB hsQ
        go_wp2_with fail
        go_region_law (refine step_append_in rfl (.tmp 24) (.tmp 34) 87 rfl (pb + 1) 100 _ 1 24 Tryz.underlying87 rowInfoN rfl (by decide) rowR_ok (fun q => pb < q) (.slice oQ s cQ) ((List.range s).map (turnRow to_)) (by simp [Act.eval, Act.put]) ((((HOq.out.new rowR_ok _).new rowR_ok _).new rowR_ok _).draw rowR_ok) ⟨_, 0, none⟩ 1 [.slice (some ⟨wr.heap.size + 1, 0, none⟩) 1 1] (turnRow to_ s) (by simp [Act.eval, Act.put]) (World.news_of_block (heap_alloc_new _ _)) (rowR_ok.keep HREP.out (SameOn.of_below (bnew (Below.refl _ _) _).drew)) (by rw [HLS.out]; omega) (by rw [HLS.out]; unfold maxLen; omega) (by rw [drew_sz, alloc_size', alloc_size', alloc_size']; omega) ?_; intro v' w8 ho hb8 hg8 hat; have hbx8 := (((HXq.out.next (.cells #[.int .i64 x, .int .i64 0] 102)).next (.cells #[.int .i64 r, .slice (some ⟨wr.heap.size, 0, none⟩) 1 1] 99)).next (.cells #[.slice (some ⟨wr.heap.size + 1, 0, none⟩) 1 1] 100)).draw.grown hg8 (fun e => by have := (HOB.out pb e.symm).1; omega); have m2 := hbx8.cell 2; have mf := hbx8.free 2; obtain ⟨o8, c8, hv8, _, _⟩ := ho.slice rowR_ok; rw [List.length_append, HLS.out] at hv8; simp only [List.length_cons, List.length_nil, Nat.zero_add] at hv8; subst hv8; simp only [List.getElem?_cons_zero, List.getElem?_cons_succ] at m2; have HOW8 := hide ho; have HX8 := hide hbx8; have HB8 := hide hb8; clear ho hb8 hg8 hat hbx8)
        all_goals
          go_wp2_with fail
          go_roundg (k - (s + 1))
          case measure => have := HGM.out; omega
          case rel =>
            have hput := HX8.out.put 2 (.slice o8 (s + 1) c8)
            simp only [List.set_cons_zero, List.set_cons_succ] at hput
            refine ⟨s + 1, .slice o8 (s + 1) c8, by omega, rfl, by go_num, ?_, hput, ?_⟩
            · rw [HT2.out]
              exact HOW8.out.keep rowR_ok (fun g hg => Below.heap_setCell _ _ _ g (by have := (HOW8.out.block g hg).1; simp only; omega)) (fun q hq _ => Below.heap_setCell _ _ _ q (by have := hq.1; simp only; omega))
            · show Below _ _ _
              refine Below.setCell (p := ⟨pb, 2, none⟩) ?_ (Nat.le_refl pb) _
              have h3 := (((HBq.out.alloc (by omega) (.cells #[.int .i64 x, .int .i64 0] 102)).alloc (by rw [alloc_size']; omega) (.cells #[.int .i64 r, .slice (some ⟨wr.heap.size, 0, none⟩) 1 1] 99)).alloc (by rw [alloc_size', alloc_size']; omega) (.cells #[.slice (some ⟨wr.heap.size + 1, 0, none⟩) 1 1] 100)).drew
              exact h3.trans (HB8.out.mono (by omega))
      · have hse : s = k := by omega
        subst hse
        subst hvq
        have x2 := HX2.out.under hpw (by rw [HPB.out]; exact HX2.out.lt)
        have r0 := x2.cell 0
        have r1 := x2.cell 1
        have r2 := x2.cell 2
        have rf := x2.free
        have p0 := HXq.out.cell 0
        have p1 := HXq.out.cell 1
        have p2 := HXq.out.cell 2
        simp only [List.getElem?_cons_zero, List.getElem?_cons_succ] at r0 r1 r2 p0 p1 p2
        have HX2w := hide x2
        have HSQ := hide hsQ
        have hbz : Below w.heap.size w wr := HB2.out.trans (hpw.mono (by omega))
        have HBZ := hide hbz
        clear x2 hsQ hpw hbz
        go_wp2_with fail
        have hfin := ((HX2w.out.put 0 (.int .i64 s)).put 1 (.int .i64 1)).put 2 (.slice oQ s cQ)
        simp only [List.set_cons_zero, List.set_cons_succ] at hfin
        refine bodyPost_ret (results_cell_tmp_row rfl _ _ w.heap.size 89 _ (0, 0) _ rfl hfin Tryz.underlying89 rfl (by kernel_rfl)) rfl ?_
        refine ⟨?_, ((HBZ.out.setCell hzz _).setCell hzz _).setCell hzz _⟩
        rw [if_pos (by rw [← HK.out]; omega)]
        refine ⟨_, rfl, oQ, cQ, ?_, ?_, ?_, ?_, ?_, ?_⟩
        · simp only [turnP, List.length_map, List.length_range, ← HK.out]
        · unfold I64 turnP; simp only; rw [← HK.out]; omega
        · unfold I64 turnP; simp
        · simp only [turnP, List.length_map, List.length_range, ← HK.out]; exact hcQ
        · simp only [turnP, List.length_map, List.length_range, ← HK.out]; omega
        · show SliceR (slcR ruleR 2) 1 _ _ _ ((List.range to_.length).map (turnRow to_))
          rw [← HK.out]
          refine (HSQ.out.keep rowR_ok fun q hq _ => ?_).wide rowR_ok (by decide) fun q hq _ => ?_
          · have hq2 : w.heap.size < q := by
              rcases hq with h | h
              · have := h.1; omega
              · omega
            rw [Below.heap_setCell _ _ _ q (by simp only; omega), Below.heap_setCell _ _ _ q (by simp only; omega), Below.heap_setCell _ _ _ q (by simp only; omega)]
          · rcases hq with h | h
            · have := h.1; omega
            · omega
  · have q16 : decide ((16 : Int) < (k : Int)) = true := by simp; omega
    have hfin := ((HX2.out.put 0 (.int .i64 0)).put 1 (.int .i64 0)).put 2 (.slice none 0 0)
    simp only [List.set_cons_zero, List.set_cons_succ] at hfin
    have HF := hide hfin
    clear hfin
    go_enter Tryz.func73, Tryz.ntmps73
    go_wp2_with fail
    refine bodyPost_ret (results_cell_tmp_row rfl _ _ w.heap.size 89 _ (0, 0) _ rfl HF.out Tryz.underlying89 rfl (by kernel_rfl)) rfl ?_
    refine ⟨?_, ((HB2.out.setCell hzz _).setCell hzz _).setCell hzz _⟩
    rw [if_neg (by rw [← HK.out]; omega)]
    rfl

end Go.Proofs.YtnigfddanoaonaaGreat

set_option linter.unusedVariables false
set_option linter.unusedSimpArgs false
set_option linter.unnecessarySimpa false
namespace Go.Proofs.YtnigfddanoaonaaGreat
open Go.RowKit

/-- Right rotors of a right ribbon graph. -/
structure RtOk (n : Int) (es : List Edg) (ar : List (List Int)) (q : Nat) (rot : List Int) : Prop where
  nar : (ar.length : Int) = n
  nrot : rot.length = ar.length
  hq : q < ar.length
  n12 : ar.length ≤ 12
  cap : (endsL es).length ≤ 50000
  rng : ∀ h, h < 2 * (endsL es).length → 0 ≤ hv (endsL es) h ∧ hv (endsL es) h < n
  rows : ∀ (v : Nat) (l : List Int), ar[v]? = some l → l.length ≤ 2 * (endsL es).length ∧ ∀ x ∈ l, ∃ h : Nat, x = h ∧ h < 2 * (endsL es).length ∧ hv (endsL es) h = (v : Int)
  rots : ∀ (v : Nat) (k : Int) (l : List Int), rot[v]? = some k → ar[v]? = some l → 0 ≤ k ∧ (v = q → k = 0) ∧ (v ≠ q → k < l.length)

theorem rowsE_zero : ∀ {ar os : List (List Int)}, rowsE ar os = 0 → ∀ (v : Nat) (a o : List Int), ar[v]? = some a → os[v]? = some o → listE a o = 0
  | [], _, _, v, a, o, h, _ => by simp at h
  | _ :: _, [], _, v, a, o, _, h => by simp at h
  | x :: r, y :: s, hz, v, a, o, h1, h2 => by
    rw [rowsE_cons] at hz
    split at hz
    · rename_i h0
      cases v with
      | zero => simp at h1 h2; subst h1 h2; exact h0
      | succ v => exact rowsE_zero hz v a o (by simpa using h1) (by simpa using h2)
    · rename_i h0; exact absurd hz h0
theorem listE_zero {l own : List Int} (h : listE l own = 0) : l.length = own.length ∧ ∀ x ∈ l, x ∈ own := by
  unfold listE at h
  split at h
  · rename_i h1
    split at h
    · rename_i h2
      exact ⟨h1, (scanE_zero h2 (by simp) (by simp)).2⟩
    · rename_i h2; exact absurd h h2
  · cases h
theorem rotE_zero {q : Int} : ∀ {v0 : Nat} {ar : List (List Int)} {rot : List Int}, rotE q v0 ar rot = 0 → ∀ (v : Nat) (k : Int) (l : List Int), rot[v]? = some k → ar[v]? = some l → ¬ badR q (v0 + v) k l.length
  | v0, [], rot, _, v, k, l, _, h => by simp at h
  | v0, _ :: _, [], _, v, k, l, h, _ => by simp at h
  | v0, a :: ar, x :: rot, hz, v, k, l, h1, h2 => by
    rw [rotE_cons] at hz
    split at hz
    · cases hz
    · rename_i h0
      cases v with
      | zero => simp at h1 h2; subst h1 h2; exact h0
      | succ v =>
        have := rotE_zero hz v k l (by simpa using h1) (by simpa using h2)
        rw [show v0 + (v + 1) = v0 + 1 + v from by omega]
        exact this

theorem RtOk.of {n : Int} {es : List Edg} {f : List Nat} {ar : List (List Int)} {q : Int} {rot : List Int} (h : rtE n es f ar q rot = 0) (hc2 : es.length ≤ 1000) : ∃ q' : Nat, q = q' ∧ RtOk n es ar q' rot := by
  obtain ⟨h1, h2, h3, h4⟩ := rtE_zero h
  obtain ⟨j1, j2, j3⟩ := chkE_zero h1
  have hV := jErr_zero j1
  have hn12 := (gErr_zero hV).1
  obtain ⟨q', rfl⟩ := Int.eq_ofNat_of_zero_le h2.1
  refine ⟨q', rfl, ⟨j2, by omega, by omega, by omega, ?_, hv_range hV, ?_, ?_⟩⟩
  · have := endsL_len (es := es) fun x hx => ((gErr_zero hV).2.1 x hx).2.2.2.1
    omega
  · intro v l hl
    have hvl : v < ar.length := (List.getElem?_eq_some_iff.1 hl).1
    have ho : (halfs n es)[v]? = some (halfU (endsL es) (2 * (endsL es).length) v) := halvesU_get (by omega)
    obtain ⟨e1, e2⟩ := listE_zero (rowsE_zero j3 v l _ hl ho)
    refine ⟨by rw [e1]; exact halfU_len _ _ _, fun x hx => halfU_mem.1 (e2 x hx)⟩
  · intro v k l hk hl
    have := rotE_zero h4 v k l hk hl
    rw [Nat.zero_add] at this
    unfold badR at this
    refine ⟨by omega, fun e => ?_, fun e => ?_⟩
    · subst e; omega
    · omega

/-- The rotor behind a step at v, and where the chip goes. -/
def stpK (ar : List (List Int)) (rot : List Int) (v : Nat) : Nat := ((rot.getD v 0).toNat + 1) % (ar.getD v []).length
def stpR (ar : List (List Int)) (rot : List Int) (v : Nat) : List Int := rot.set v (stpK ar rot v : Nat)
def stpV (ar : List (List Int)) (E : List (Int × Int)) (rot : List Int) (v : Nat) : Nat := (hv E (oppH ((ar.getD v []).getD (stpK ar rot v) 0).toNat)).toNat

theorem oppH_lt {h m : Nat} (hh : h < 2 * m) : oppH h < 2 * m := by unfold oppH; split <;> omega
theorem getD_of {α : Type} {l : List α} {i : Nat} {x d : α} (h : l[i]? = some x) : l.getD i d = x := by rw [List.getD_eq_getElem?_getD, h]; rfl

theorem RtOk.step {n : Int} {es : List Edg} {ar : List (List Int)} {q : Nat} {rot : List Int} (h : RtOk n es ar q rot) {v : Nat} (hv' : v < ar.length) (hvq : v ≠ q) :
    (∃ (l : List Int) (k g : Nat), ar[v]? = some l ∧ rot[v]? = some (k : Int) ∧ k < l.length ∧ l.length ≤ 1000000 ∧ stpK ar rot v = (k + 1) % l.length ∧ l[(k + 1) % l.length]? = some (g : Int) ∧ (toL (endsL es))[g]? = some ((stpV ar (endsL es) rot v : Nat) : Int)) ∧
    RtOk n es ar q (stpR ar rot v) ∧ stpV ar (endsL es) rot v < ar.length := by
  have hl : ar[v]? = some ar[v] := List.getElem?_eq_getElem hv'
  have hk0 : rot[v]? = some (rot[v]'(by rw [h.nrot]; exact hv')) := List.getElem?_eq_getElem (by rw [h.nrot]; exact hv')
  obtain ⟨r1, _, r3⟩ := h.rots v _ _ hk0 hl
  generalize rot[v]'(by rw [h.nrot]; exact hv') = k at hk0 r1 r3
  generalize ar[v] = l at *
  obtain ⟨k, rfl⟩ := Int.eq_ofNat_of_zero_le r1
  have hkl : k < l.length := by have := r3 hvq; omega
  obtain ⟨w1, w2⟩ := h.rows v l hl
  have hK : stpK ar rot v = (k + 1) % l.length := by
    unfold stpK
    rw [getD_of hk0, getD_of hl]
    simp
  have hKl : (k + 1) % l.length < l.length := Nat.mod_lt _ (by omega)
  have hx : l[(k + 1) % l.length]? = some l[(k + 1) % l.length] := List.getElem?_eq_getElem hKl
  obtain ⟨g, hg, hg2, _⟩ := w2 _ (List.getElem_mem hKl)
  rw [hg] at hx
  have hV : stpV ar (endsL es) rot v = (hv (endsL es) (oppH g)).toNat := by
    unfold stpV
    rw [hK, getD_of hl, getD_of hx]
    simp
  have hr := h.rng _ (oppH_lt hg2)
  have hr2 := h.nar
  refine ⟨⟨l, k, g, hl, hk0, hkl, by have := h.cap; omega, hK, hx, ?_⟩, ⟨h.nar, ?_, h.hq, h.n12, h.cap, h.rng, h.rows, ?_⟩, by rw [hV]; omega⟩
  · rw [toL_get _ g hg2, hV]
    congr 1
    omega
  · unfold stpR; rw [List.length_set]; exact h.nrot
  · intro u y m hy hm
    unfold stpR at hy
    by_cases hu : v = u
    · subst hu
      rw [List.getElem?_set_self (by rw [h.nrot]; exact hv')] at hy
      injection hy with hy
      subst hy
      rw [hl] at hm
      injection hm with hm
      subst hm
      exact ⟨by omega, fun e => absurd e hvq, fun _ => by rw [hK]; omega⟩
    · rw [List.getElem?_set_ne hu] at hy
      exact h.rots u y m hy hm

/-- The way of a chip: the rotors behind it and the vertices, at most m steps. -/
def wlk (ar : List (List Int)) (E : List (Int × Int)) (q : Nat) : Nat → List Int → Nat → List Nat → Option (List Int × List Nat)
  | 0, rot, v, acc => if v = q then some (rot, acc ++ [v]) else none
  | m + 1, rot, v, acc => if v = q then some (rot, acc ++ [v]) else wlk ar E q m (stpR ar rot v) (stpV ar E rot v) (acc ++ [v])
/-- A step of the program, at right rotors. -/
theorem step_okR {B : Nat} {w : World} {p rg cap : Nat} {tv : Value} {n : Int} {es : List Edg} {ar : List (List Int)} {q : Nat} {rot : List Int} {rest : List Value} {oa : Option Addr} {ca : Nat}
    (hD : Brd B w p rg cap tv q (.slice oa ar.length ca) (toL (endsL es)) rot rest) (ha : SliceR (slcR intR 1) 1 (Lt B) w oa ar) (h : RtOk n es ar q rot) {v : Nat} (hv' : v < ar.length) (hvq : v ≠ q) :
    Calls Tryz.prog 113 #[.pointer (some ⟨p, 0, none⟩), .int .i64 v] w fun e w' => e = .returned (.int .i64 (stpV ar (endsL es) rot v : Nat)) ∧ Brd B w' p rg cap tv q (.slice oa ar.length ca) (toL (endsL es)) (stpR ar rot v) rest ∧ w.grownBy w' (some rg) := by
  obtain ⟨⟨l, k, g, h1, h2, h3, h4, h5, h6, h7⟩, _⟩ := h.step hv' hvq
  have := step_any B w p rg cap tv q (toL (endsL es)) rot rest oa ca ar hD ha v (by rw [h.nrot]; exact hv') hv' l h1 k h2 h3 h4 g h6 _ h7
  refine this.mono ?_
  rintro e w' ⟨e1, e2, e3⟩
  refine ⟨e1, ?_, e3⟩
  unfold stpR
  rw [h5]
  exact e2

end Go.Proofs.YtnigfddanoaonaaGreat

set_option linter.unusedVariables false
set_option linter.unusedSimpArgs false
namespace Go.Proofs.YtnigfddanoaonaaGreat
open Go.RowKit

def tgR (ar : List (List Int)) (E : List (Int × Int)) (v : Nat) : List Int := (ar.getD v []).map fun x => hv E (oppH x.toNat)
/-- The processors of the first i vertices. -/
def routU (ar : List (List Int)) (E : List (Int × Int)) (q : Int) : Nat → Option (List Prc)
  | 0 => some []
  | v + 1 => (routU ar E q v).bind fun l => if (v : Int) = q then some (l ++ [sinkP]) else if (tgR ar E v).length ≤ 16 then some (l ++ [turnP (tgR ar E v)]) else none
def routR (n : Int) (es : List Edg) (f : List Nat) (ar : List (List Int)) (q : Int) (rot d : List Int) : Nwk × Int :=
  if gvE n es f ar q rot d = 0 then
    match routU ar (endsL es) q ar.length with
    | some l => (⟨l, rot, waitD d q d.length⟩, 0)
    | none => (nwk0, 12)
  else (nwk0, gvE n es f ar q rot d)
theorem routU_none {ar : List (List Int)} {E : List (Int × Int)} {q : Int} {v : Nat} (h : routU ar E q v = none) : ∀ m, v ≤ m → routU ar E q m = none
  | 0, hm => by
    have : v = 0 := by omega
    subst this
    exact h
  | m + 1, hm => by
    by_cases he : v = m + 1
    · subst he; exact h
    · have h1 := routU_none h m (by omega)
      unfold routU
      rw [h1]
      rfl
theorem routU_len {ar : List (List Int)} {E : List (Int × Int)} {q : Int} : ∀ {v : Nat} {l : List Prc}, routU ar E q v = some l → l.length = v
  | 0, l, h => by
    unfold routU at h
    injection h with h
    subst h
    rfl
  | v + 1, l, h => by
    unfold routU at h
    rw [Option.bind_eq_some_iff] at h
    obtain ⟨l0, h1, h2⟩ := h
    have h3 := routU_len h1
    split at h2
    · injection h2 with h2; subst h2; simp [h3]
    · split at h2
      · injection h2 with h2; subst h2; simp [h3]
      · cases h2
section
variable (n : Int) (es : List Edg) (oe : Option Addr) (c : Nat) (ar : List (List Int)) (oa : Option Addr) (ca : Nat) (F G : Foot) (w : World) (hs : SliceR edgR 3 F w oe es) (hc : es.length ≤ c) (hc2 : es.length ≤ 1000)
  (ha : SliceR (slcR intR 1) 1 G w oa ar) (hac : ar.length ≤ ca) (hac2 : ar.length ≤ 9223372036854775807) (f : List Nat) (hU : Hid (gErr n es = 0 → Uf f (eL es)))
  (q : Int) (rot : List Int) (ot : Option Addr) (ct : Nat) (H : Foot) (hr : SliceR intR 1 H w ot rot) (hrc : rot.length ≤ ct) (hrl : rot.length ≤ 1000000)
  (d : List Int) (od : Option Addr) (cd : Nat) (D : Foot) (hd : SliceR intR 1 D w od d) (hdc : d.length ≤ cd) (hdl : d.length ≤ 1000000)
include hs hc hc2 ha hac hac2 hU hr hrc hrl hd hdc hdl
set_option maxRecDepth 100000 in
set_option maxHeartbeats 8000000 in
theorem nrout_any : Calls Tryz.prog 25 #[.agg #[.int .i64 n, .slice oe es.length c, .slice oa ar.length ca], .int .i64 q, .slice ot rot.length ct, .slice od d.length cd] w (NwPost w (routR n es f ar q rot d)) := by
  obtain ⟨W1, e1⟩ : ∃ W1, w.alloc (.cells #[.int .i64 n, .slice oe es.length c, .slice oa ar.length ca] 52) = W1 := ⟨_, rfl⟩
  have bx1 : Box W1 w.heap.size [.int .i64 n, .slice oe es.length c, .slice oa ar.length ca] 52 := by rw [← e1]; exact Box.new w [.int .i64 n, .slice oe es.length c, .slice oa ar.length ca] 52
  have bb1 := bnew (Below.refl w.heap.size w) (.cells #[.int .i64 n, .slice oe es.length c, .slice oa ar.length ca] 52)
  rw [e1] at bb1
  obtain ⟨W2, e2⟩ : ∃ W2, W1.alloc (.cells #[.slice none 0 0, .slice none 0 0, .slice none 0 0] 26) = W2 := ⟨_, rfl⟩
  have bx2 : Box W2 W1.heap.size [.slice none 0 0, .slice none 0 0, .slice none 0 0] 26 := by rw [← e2]; exact Box.new W1 [.slice none 0 0, .slice none 0 0, .slice none 0 0] 26
  have bb2 := bnew (Below.refl W1.heap.size W1) (.cells #[.slice none 0 0, .slice none 0 0, .slice none 0 0] 26)
  rw [e2] at bb2
  have hz1 : w.heap.size ≤ W1.heap.size := bb1.size
  have hz2 : W1.heap.size < W2.heap.size := by rw [← e2, alloc_size']; omega
  have bx1 := bx1.below bb2
  have hb2 := bb1.trans (bb2.mono hz1)
  have HX1 := hide bx1
  have HX2 := hide bx2
  have HB2 := hide hb2
  have d0 := bx1.cell 0
  have d1 := bx1.cell 1
  have d2 := bx1.cell 2
  have r0 := bx2.cell 0
  have r1 := bx2.cell 1
  have r2 := bx2.cell 2
  have rf := bx2.free
  simp only [List.getElem?_cons_zero, List.getElem?_cons_succ] at d0 d1 d2 r0 r1 r2
  have HCK := hide (rotcheck_any n es oe c ar oa ca F G W2 (hs.below edgR_ok hb2) hc hc2 (ha.below (slcR_ok intR_ok (by decide)) hb2) hac hac2 f hU q rot ot ct H (hr.below intR_ok hb2) hrc (by omega))
  have HFIN : Hid (∀ wr : World, Below W2.heap.size W2 wr → Box (((wr.setCell ⟨W1.heap.size, 0, none⟩ (.slice none 0 0)).setCell ⟨W1.heap.size, 1, none⟩ (.slice none 0 0)).setCell ⟨W1.heap.size, 2, none⟩ (.slice none 0 0)) W1.heap.size [.slice none 0 0, .slice none 0 0, .slice none 0 0] 26 ∧ Below w.heap.size w (((wr.setCell ⟨W1.heap.size, 0, none⟩ (.slice none 0 0)).setCell ⟨W1.heap.size, 1, none⟩ (.slice none 0 0)).setCell ⟨W1.heap.size, 2, none⟩ (.slice none 0 0))) := fun wr hb => by
    have hfin := (((bx2.below hb).put 0 (.slice none 0 0)).put 1 (.slice none 0 0)).put 2 (.slice none 0 0)
    simp only [List.set_cons_zero, List.set_cons_succ] at hfin
    exact ⟨hfin, (((hb2.trans (hb.mono (by omega))).setCell hz1 _).setCell hz1 _).setCell hz1 _⟩
  have HNW0 : Hid (∀ W : World, NwAt All W (.agg #[.slice none 0 0, .slice none 0 0, .slice none 0 0]) nwk0) := fun W => ⟨none, 0, none, 0, none, 0, rfl, by simp [nwk0], by simp [nwk0], by simp [nwk0], SliceR.nil _ _ _ _ _, SliceR.nil _ _ _ _ _, SliceR.nil _ _ _ _ _⟩
  by_cases h0 : rtE n es f ar q rot = 0
  · obtain ⟨q', rfl, hok⟩ := RtOk.of h0 hc2
    have hV : gErr n es = 0 := jErr_zero (chkE_zero (rtE_zero h0).1).1
    have HG : Hid (gvE n es f ar q' rot d = if dErr n d = 0 then gScan q' 0 d else dErr n d) := if_pos h0
    rw [h0] at HCK
    have HDC := hide (fun (u : World) (hu : Below w.heap.size w u) => dcheck_any n d od cd D u (hd.below intR_ok hu) hdc (by omega))
    have HGE := hide (fun (u : World) (hu : Below w.heap.size w u) => gends_any n es oe c F u (hs.below edgR_ok hu) hc hc2)
    have HD := hide hd
    have HA := hide ha
    have HRR := hide hr
    have HOK := hide hok
    have HV := hide hV
    have hnar : n = (ar.length : Int) := hok.nar.symm
    have hn12 : ar.length ≤ 12 := hok.n12
    have hrotl : rot.length = ar.length := by have := (rtE_zero h0).2.2.1; omega
    have HROTL := hide hrotl
    have HNAR := hide hnar
    have hcap := hok.cap
    clear bx1 bx2 bb1 bb2 hb2 hs ha hr hd hok hV h0 hrotl hnar
    by_cases hE : dErr n d = 0
    · have HG2 : Hid (gvE n es f ar q' rot d = gScan q' 0 d) := by show _ = _; rw [HG.out, if_pos hE]
      rw [hE] at HDC
      have hdl2 : (d.length : Int) = n := by
        unfold dErr at hE
        split at hE
        · split at hE
          · assumption
          · cases hE
        · cases hE
      have HDL := hide hdl2
      clear hE hdl2
      go_enter Tryz.func25, Tryz.ntmps25
      go_wp2_with (first
        | (go_at_call 69; refine HCK.out.mono ?_; rintro e w3 ⟨rfl, hb3⟩; have x1 := HX1.out.below hb3; have HX13 := hide x1; have HX23 := hide (HX2.out.below hb3); have HB3 := hide (HB2.out.trans (hb3.mono (by omega))); have HL3 := hide hb3; have y0 := x1.cell 0; have y1 := x1.cell 1; have y2 := x1.cell 2; simp only [List.getElem?_cons_zero, List.getElem?_cons_succ] at y0 y1 y2; clear hb3 x1)
        | (go_at_call 70; refine (HDC.out w3 HB3.out).mono ?_; rintro e w4 ⟨rfl, hb4⟩; have x1 := HX13.out.below hb4; have HX14 := hide x1; have HX24 := hide (HX23.out.below hb4); have HB4 := hide (HB3.out.trans (hb4.mono HB3.out.size)); have HL4 := hide (HL3.out.trans (hb4.mono HL3.out.size)); have y0 := x1.cell 0; have y1 := x1.cell 1; have y2 := x1.cell 2; have hx2 := HX24.out; have r0 := hx2.cell 0; have r1 := hx2.cell 1; have r2 := hx2.cell 2; have rf := hx2.free; simp only [List.getElem?_cons_zero, List.getElem?_cons_succ] at y0 y1 y2 r0 r1 r2; clear hb4 x1 hx2))
      go_loopw [42] (fun iv wr => ∃ k : Nat, k ≤ d.length ∧ iv = .int .i64 k ∧ Hid (gvE n es f ar q' rot d = gScan q' k (d.drop k)) ∧ wr = w4) (fun iv _ => d.length - (intOf iv).toNat)
      case atStart => exact ⟨0, by omega, rfl, HG2, rfl⟩
      case round =>
        obtain ⟨k, hk, rfl, HSC, rfl⟩ := hrel
        by_cases hlt : k < d.length
        · obtain ⟨x, hdr, _, ix, b, off, hod, _, c0⟩ := (HD.out.below intR_ok HB4.out).int_at hlt
          subst hod
          have HS2 : Hid (gvE n es f ar q' rot d = if (k : Int) ≠ q' ∧ x < 0 then 2 else gScan q' (k + 1) (d.drop (k + 1))) := by show _ = _; rw [HSC.out, hdr]; rfl
          clear hdr
          by_cases hkq : (k : Int) = q'
          · have q1 : ((k : Int) != (q' : Int)) = false := by simp; omega
            have HS3 : Hid (gvE n es f ar q' rot d = gScan q' (k + 1) (d.drop (k + 1))) := by show _ = _; rw [HS2.out, if_neg (by intro h; exact h.1 hkq)]
            clear hkq
            go_wp2_with fail
            go_roundw
            case rel => exact ⟨k + 1, by omega, by go_num, HS3, by first | rfl | trivial⟩
            case measure => simp [intOf]; omega
          · have q1 : ((k : Int) != (q' : Int)) = true := by simp; omega
            by_cases hx : x < 0
            · have q2 : decide (x < 0) = true := by simp [hx]
              have HS : Hid (routR n es f ar q' rot d = (nwk0, 2)) := by
                show _ = _
                have h3 : gvE n es f ar q' rot d = 2 := by rw [HS2.out, if_pos ⟨hkq, hx⟩]
                unfold routR
                rw [h3]
                rfl
              clear hkq hx
              go_wp2_with fail
              refine bodyPost_ret (results_cell_tmp_row rfl _ _ W1.heap.size 26 _ (0, 0) _ rfl (HFIN.out _ HL4.out).1 Tryz.underlying26 rfl (by kernel_rfl)) rfl ?_
              rw [HS.out]
              exact ⟨_, rfl, HNW0.out _, (HFIN.out _ HL4.out).2⟩
            · have q2 : decide (x < 0) = false := by simp; omega
              have HS3 : Hid (gvE n es f ar q' rot d = gScan q' (k + 1) (d.drop (k + 1))) := by show _ = _; rw [HS2.out, if_neg (by intro h; exact hx h.2)]
              clear hkq hx
              go_wp2_with fail
              go_roundw
              case rel => exact ⟨k + 1, by omega, by go_num, HS3, by first | rfl | trivial⟩
              case measure => simp [intOf]; omega
        · have hke : k = d.length := by omega
          have HS : Hid (routR n es f ar q' rot d = match routU ar (endsL es) q' ar.length with
              | some l => (⟨l, rot, waitD d q' d.length⟩, 0)
              | none => (nwk0, 12)) := by
            show _ = _
            have h3 : gvE n es f ar q' rot d = 0 := by rw [HSC.out, hke, List.drop_length]; rfl
            unfold routR
            rw [if_pos h3]
          have HGW := hide (HGE.out wr HB4.out)
          rw [show endsRes n es = (endsL es, 0) from if_pos HV.out] at HGW
          clear hke
          go_wp2_with (first
            | (go_at_call 71; refine HGW.out.mono ?_; rintro e w5 ⟨v5, rfl, h5, hb5⟩; obtain ⟨oE, cE, hv5, hcE, hsE⟩ := h5.slice prR_ok; subst hv5; have HSE := hide (hsE.loc prR_ok (by decide)); have HB5 := hide (HB4.out.trans (hb5.mono HB4.out.size)); have HL5 := hide (HL4.out.trans (hb5.mono HL4.out.size)); have HX15 := hide (HX14.out.below hb5); clear h5 hb5 hsE)
            | (go_at_call 72; refine (cloneI_any rot ot ct H _ (HRR.out.below intR_ok HB5.out) hrc (by omega)).mono ?_; rintro e w6 ⟨v6, rfl, h6, hb6⟩; obtain ⟨o6, c6, hv6, hc6, hs6⟩ := h6.slice intR_ok; rw [HROTL.out] at hv6 hc6; subst hv6; have HS6 := hide (hs6.wide intR_ok (by decide) (F' := fun k => w5.heap.size ≤ k ∧ k < w6.heap.size) (fun k hk hl => ⟨by rcases hk with h | h; exact h.elim; exact h, hl⟩)); have HB6 := hide (HB5.out.trans (hb6.mono HB5.out.size)); have HL6 := hide (HL5.out.trans (hb6.mono HL5.out.size)); have HSE6 := hide (HSE.out.below prR_ok hb6); have HX16 := hide (HX15.out.below hb6); have hE56 := hb6.size; clear h6 hb6 hs6)
            | (go_at_call 52; refine (nwaiting_any d q' od cd D _ (HD.out.below intR_ok HB6.out) hdc hdl).mono ?_; rintro e w7 ⟨v7, rfl, h7, hb7⟩; obtain ⟨o7, c7, hv7, hc7, hs7⟩ := h7.slice (slcR_ok intR_ok (by decide)); rw [waitD_len] at hv7 hc7; subst hv7; have HS7 := hide (wait_foot hs7); have h25 : W2.heap.size ≤ w5.heap.size := HL5.out.size; have h26 : W2.heap.size ≤ w6.heap.size := HL6.out.size; have h67 : w6.heap.size ≤ w7.heap.size := hb7.size; have HB7 := hide (HB6.out.trans (hb7.mono HB6.out.size)); have HL7 := hide (HL6.out.trans (hb7.mono HL6.out.size)); have HSE7 := hide (HSE6.out.below prR_ok hb7); have HSZ57 : w5.heap.size ≤ w7.heap.size := Nat.le_trans hE56 hb7.size; have HS67 := hide (HS6.out.below intR_ok hb7); have HX17 := hide (HX16.out.below hb7); have y1 := HX17.out.cell 1; have y2 := HX17.out.cell 2; have y2n := (HX17.out.next (.cells #[.slice none 0 0, .slice o6 ar.length c6, .slice o7 d.length c7] 26)).cell 2; simp only [List.getElem?_cons_zero, List.getElem?_cons_succ] at y1 y2 y2n; clear h7 hb7 hs7))
          obtain ⟨b, hb⟩ : ∃ b, b = w7.heap.size := ⟨_, rfl⟩
          obtain ⟨wc, hwc⟩ : ∃ wc, w7.alloc (.cells #[.slice none 0 0, .slice o6 ar.length c6, .slice o7 d.length c7] 26) = wc := ⟨_, rfl⟩
          have hbx : Box wc b [.slice none 0 0, .slice o6 ar.length c6, .slice o7 d.length c7] 26 := by rw [hb, ← hwc]; exact Box.new w7 [.slice none 0 0, .slice o6 ar.length c6, .slice o7 d.length c7] 26
          have hwcs : wc.heap.size = b + 1 := by rw [← hwc, alloc_size', hb]
          have hb7' : w7.heap.size = b := hb.symm
          have hwcb : Below w7.heap.size w7 wc := by rw [← hwc]; exact bnew (Below.refl _ _) _
          have HBXc := hide hbx
          have HBL := hide (HL7.out.trans (hwcb.mono HL7.out.size))
          have HSEc := hide (HSE7.out.below prR_ok hwcb)
          have HS6c := hide (HS67.out.below intR_ok hwcb)
          have HS7c := hide (HS7.out.below (slcR_ok intR_ok (by decide)) hwcb)
          have h5b : w5.heap.size ≤ b := by
            rw [hb]
            exact HSZ57
          have hbW : W2.heap.size ≤ b := by rw [hb]; exact HL7.out.size
          have hW2c : W2.heap.size ≤ wc.heap.size := by omega
          rw [hwc, ← hb]
          clear hbx hwcb hb hwc y1 y2 y2n r0 r1 r2 rf
          go_loopg [75] ar.length (fun gm iv wx => ∃ (v : Nat) (vp : Value) (l : List Prc), v ≤ ar.length ∧ gm = ar.length - v ∧ iv = .int .i64 v ∧ Hid (routU ar (endsL es) q' v = some l) ∧ Hid (OwnS prcR 3 wc.heap.size 89 (InF (fun k => wc.heap.size ≤ k) vp) wx vp l) ∧ Hid (Box wx b [vp, .slice o6 ar.length c6, .slice o7 d.length c7] 26) ∧ Hid (Below W2.heap.size W2 wx) ∧ Hid (wc.heap.size ≤ wx.heap.size ∧ ∀ k, k < wc.heap.size → k ≠ b → wx.heap[k]? = wc.heap[k]?))
          case atStart => exact ⟨0, _, [], by omega, by omega, rfl, rfl, OwnS.nil _ _ _ _ _ _, HBXc.out, HBL.out, Nat.le_refl _, fun k _ _ => rfl⟩
          case round =>
            obtain ⟨v, vp, l, hvn, hgm, rfl, HPU, HO, HBX, HBW, HOFF⟩ := hrel
            have HGM := hide hgm
            have HLL : Hid (l.length = v) := routU_len HPU.out
            clear hgm
            by_cases hlt : v < ar.length
            · obtain ⟨wo, hwo⟩ : ∃ wo : World, wo = wr := ⟨_, rfl⟩
              subst hwo
              obtain ⟨oV, cV, hvp, hcV, _⟩ := HO.out.slice prcR_ok
              rw [HLL.out] at hvp hcV
              subst hvp
              have HSK := hide (nsink_any wo)
              have HOB := hide HO.out.block
              have hwr : wc.heap.size ≤ wo.heap.size := HOFF.out.1
              have hblw : Below w.heap.size w wo := HB2.out.trans (HBW.out.mono (by omega))
              obtain ⟨row, _, hrow, b9, off9, ol, cl, hoR, _, a9, hrcl, _, hsrow⟩ := (HA.out.below (slcR_ok intR_ok (by decide)) hblw).slc_at hlt
              have hra := hoR
              subst hra
              have HROW := hide hrow
              have HSROW := hide hsrow
              have hlx := (HOK.out.rows v row hrow)
              have HLX := hide hlx.2
              have hrl9 : row.length ≤ 200000 := by have := hlx.1; omega
              clear hrow hsrow hlx hblw
              by_cases hvq : (v : Int) = q'
              · have q1 : ((v : Int) != (q' : Int)) = false := by simp; omega
                have HN : Hid (routU ar (endsL es) q' (v + 1) = some (l ++ [sinkP])) := by
                  show _ = _
                  unfold routU
                  rw [HPU.out, Option.bind_some, if_pos hvq]
                clear hvq
                go_wp2_with (first
                  | (go_at_call 53; refine HSK.out.mono ?_; rintro e w10 ⟨cs, rfl, ⟨oS, cS, hcs, iS, iL, hS1, hS2, hS3⟩, hb4⟩; have hcs' : cs = [.int .i64 1, .int .i64 1, .slice oS 1 cS] := hcs; subst hcs'; obtain ⟨W11, e11⟩ : ∃ W11, w10.alloc (.cells #[.int .i64 1, .int .i64 1, .slice oS 1 cS] 89) = W11 := ⟨_, rfl⟩; have bp : Box W11 w10.heap.size [.int .i64 1, .int .i64 1, .slice oS 1 cS] 89 := (by rw [← e11]; exact Box.new w10 [.int .i64 1, .int .i64 1, .slice oS 1 cS] 89); have bb5 : Below wo.heap.size wo W11 := (by rw [← e11]; exact hb4.alloc hb4.size _); have HREP : Hid (prcR (InF (fun k => wc.heap.size ≤ k) (.slice oV v cV)) W11 [.int .i64 1, .int .i64 1, .slice oS 1 cS] sinkP) := (by rw [← e11]; exact prcR_ok.keep (⟨oS, cS, rfl, iS, iL, hS1, hS2, hS3.wide rowR_ok (by decide) fun k hk _ => ⟨by omega, fun e => by have := (HOB.out k e.symm).2; omega⟩⟩) (SameOn.of_below (bnew (Below.refl _ _) _))); have HOW := hide (HO.out.below prcR_ok bb5); have HBXW := hide (HBX.out.below bb5); have HWS : Hid (wc.heap.size ≤ W11.heap.size) := Nat.le_trans hwr bb5.size; have HBWW : Hid (Below W2.heap.size W2 W11) := HBW.out.trans (bb5.mono (by omega)); have HOFW : Hid (∀ k, k < wc.heap.size → k ≠ b → W11.heap[k]? = wc.heap[k]?) := (fun k hk hkb => (bb5.block k (by omega)).trans (HOFF.out.2 k hk hkb)); have p0 := bp.cell 0; have p1 := bp.cell 1; have p2 := bp.cell 2; have b0 := HBXW.out.cell 0; have b0n := (HBXW.out.next (.cells #[.int .i64 1, .int .i64 1, .slice oS 1 cS] 89)).cell 0; simp only [List.getElem?_cons_zero, List.getElem?_cons_succ] at p0 p1 p2 b0 b0n; clear bp bb5 hb4 hS1 hS2 hS3 hcs iS iL)
                  | (at_builtin; refine wpList_append_in rfl (.tmp 113) (.tmp 115) 22 rfl wc.heap.size 89 _ 3 40 Tryz.underlying22 prcInfoN rfl (by decide) prcR_ok (fun k => wc.heap.size ≤ k) (.slice oV v cV) l (by simp [Act.eval, Act.put]) (HOW.out.new prcR_ok _) ⟨_, 0, none⟩ 1 [.int .i64 1, .int .i64 1, .slice oS 1 cS] sinkP (by simp [Act.eval, Act.put]) (World.news_of_block (heap_alloc_new _ _)) (prcR_ok.keep HREP.out (SameOn.of_below (bnew (Below.refl _ _) _))) (by rw [HLL.out]; omega) (by rw [HLL.out]; unfold maxLen; omega) (by rw [alloc_size']; have := HWS.out; omega) (fun v' w8 ho hb8 hg8 hat => ?_); have hbx8 := (HBXW.out.next (.cells #[.int .i64 1, .int .i64 1, .slice oS 1 cS] 89)).grown hg8 (fun e => by have := (HOB.out b e.symm).1; omega); have m0 := hbx8.cell 0; have mf := hbx8.free 0; obtain ⟨o8, c8, hv8, _, _⟩ := ho.slice prcR_ok; rw [List.length_append, HLL.out] at hv8; simp only [List.length_cons, List.length_nil, Nat.zero_add] at hv8; subst hv8; simp only [List.getElem?_cons_zero] at m0; have HOW8 := hide ho; have HX8 := hide hbx8; have HB8 := hide hb8; have HG8 := hide hg8; clear ho hb8 hg8 hat hbx8))
                go_roundg (ar.length - (v + 1))
                case measure => have := HGM.out; omega
                case rel =>
                  have hput := HX8.out.put 0 (.slice o8 (v + 1) c8)
                  simp only [List.set_cons_zero] at hput
                  have hwsz := HWS.out
                  have hw8 : wc.heap.size ≤ w8.heap.size := by
                    have := HB8.out.size
                    rw [alloc_size'] at this
                    omega
                  refine ⟨v + 1, .slice o8 (v + 1) c8, l ++ [sinkP], by omega, rfl, by go_num, HN.out, ?_, hput, ?_, ?_, ?_⟩
                  · exact HOW8.out.keep prcR_ok (fun g hg => Below.heap_setCell _ _ _ g (by have := (HOW8.out.block g hg).1; simp only; omega)) (fun k hk _ => Below.heap_setCell _ _ _ k (by have := hk.1; simp only; omega))
                  · show Below _ _ _
                    refine Below.setCell (p := ⟨b, 0, none⟩) ?_ hbW _
                    exact (HBWW.out.alloc (by omega) _).trans (HB8.out.mono hW2c)
                  · rw [World.size_setCell]; exact hw8
                  · intro k hk hkb
                    rw [Below.heap_setCell _ _ _ k (by simp only; omega), HB8.out.block k hk, Below.heap_alloc _ _ k (by omega)]
                    exact HOFW.out k hk hkb
              · have q1 : ((v : Int) != (q' : Int)) = true := by simp; omega
                obtain ⟨T, hT⟩ : ∃ T, T = row.map fun x => hv (endsL es) (oppH x.toNat) := ⟨_, rfl⟩
                have hTg : tgR ar (endsL es) v = T := by unfold tgR; rw [getD_some HROW.out, hT]
                have hTl : T.length = row.length := by rw [hT, List.length_map]
                have HT := hide hT
                have HTL := hide hTl
                have HTG := hide hTg
                have HVQ := hide hvq
                clear hT hTg hTl hvq
                go_wp2_with (go_at_call 53; refine HSK.out.mono ?_; rintro e w10 ⟨cs, rfl, ⟨oS, cS, hcs, iS, iL, hS1, hS2, hS3⟩, hb4⟩; have hcs' : cs = [.int .i64 1, .int .i64 1, .slice oS 1 cS] := hcs; subst hcs'; obtain ⟨W11, e11⟩ : ∃ W11, w10.alloc (.cells #[.int .i64 1, .int .i64 1, .slice oS 1 cS] 89) = W11 := ⟨_, rfl⟩; have bp : Box W11 w10.heap.size [.int .i64 1, .int .i64 1, .slice oS 1 cS] 89 := (by rw [← e11]; exact Box.new w10 [.int .i64 1, .int .i64 1, .slice oS 1 cS] 89); have bb5 : Below wo.heap.size wo W11 := (by rw [← e11]; exact hb4.alloc hb4.size _); have HBP := hide bp; have HBB5 := hide bb5; have hw45 : wo.heap.size ≤ w10.heap.size := hb4.size; clear bp bb5 hb4 hS1 hS2 hS3 hcs iS iL)
                go_loopg [20, 86] row.length (fun gm tv jv wx => ∃ j : Nat, j ≤ row.length ∧ gm = row.length - j ∧ jv = .int .i64 j ∧ Hid (OwnS intR 1 W11.heap.size 3 Non wx tv (T.take j)) ∧ Hid (Below W11.heap.size W11 wx))
                case atStart => exact ⟨0, by omega, by omega, rfl, OwnS.nil _ _ _ _ _ _, Below.refl _ _⟩
                case round =>
                  obtain ⟨j, hj, hgm2, rfl, HOt, HBt⟩ := hrel
                  have HGM2 := hide hgm2
                  clear hgm2
                  have hbwo : Below wo.heap.size wo wr := HBB5.out.trans (HBt.out.mono HBB5.out.size)
                  have hw11 : W11.heap.size ≤ wr.heap.size := HBt.out.size
                  by_cases hjl : j < row.length
                  · obtain ⟨y, _, hy, _, b2, off2, hol, _, e0⟩ := (HSROW.out.below intR_ok hbwo).int_at hjl
                    subst hol
                    obtain ⟨g, rfl, hg2, _⟩ := HLX.out y (List.mem_of_getElem? hy)
                    obtain ⟨qq, hqq⟩ : ∃ qq, qq = g / 2 := ⟨_, rfl⟩
                    have hq1 : ((g : Int)).tdiv 2 = (qq : Int) := by rw [Int.tdiv_eq_ediv_of_nonneg (by omega)]; omega
                    have hql : qq < (endsL es).length := by omega
                    have hse : SliceR prR 2 (Lt w5.heap.size) wr oE (endsL es) := HSEc.out.keep prR_ok fun k hk _ => by
                      have hk' : k < w5.heap.size := hk
                      rw [hbwo.block k (by omega)]
                      exact HOFF.out.2 k (by omega) (by omega)
                    obtain ⟨A, B, _, hget, iA, iB, bl, of3, hoE, _, f1, f2⟩ := hse.pr_at hql
                    have hoE' := hoE
                    subst hoE'
                    have hgd : (endsL es).getD qq (0, 0) = (A, B) := by rw [List.getD_eq_getElem?_getD, hget]; rfl
                    have hc5 : (endsL es).length ≤ cE := hcE
                    have HTJ : Hid (T.take (j + 1) = T.take j ++ [hv (endsL es) (oppH g)]) := by
                      show _ = _
                      rw [List.take_add_one, HT.out, List.getElem?_map, hy]
                      simp
                    have HTJL : Hid ((T.take j).length = j) := by show _ = _; rw [List.length_take, HTL.out]; omega
                    have hi1 : (0 : Int) ≤ (qq : Int) := by omega
                    have hi2 : (qq : Int) < ((endsL es).length : Int) := by omega
                    clear hse hget hy
                    by_cases hp : g % 2 = 0
                    · have HV2 : Hid (hv (endsL es) (oppH g) = B) := by
                        show _ = _
                        unfold hv oppH
                        rw [if_pos hp, if_neg (by omega), show (g + 1) / 2 = qq by omega, hgd]
                      have hr1 : ((g : Int)).tmod 2 = 0 := by rw [Int.tmod_eq_emod_of_nonneg (by omega)]; omega
                      clear hp hqq hgd
                      go_wp2_with (at_builtin; refine wpList_append_rep rfl (.tmp 90) (.tmp 100) 23 rfl W11.heap.size 3 _ 1 8 Tryz.underlying23 iInfo rfl (by decide) intR_ok Non All u20 (T.take j) (by simp [Act.eval, Act.put]) (HOt.out.new intR_ok _) (some ⟨wr.heap.size, 0, none⟩) 1 [B] (by simp [Act.eval, Act.put]) (intlF wr B iB trivial) (fun _ _ h => h) (fun _ h => h.elim) (by rw [HTJL.out]; simp; omega) (by rw [HTJL.out]; simp; omega) (by rw [alloc_size']; omega) ?_; intro v' w14 ho hb5 hg5; have HO5 := hide ho; have HB5' := hide hb5; clear ho hb5 hg5)
                      go_roundg (row.length - (j + 1))
                      case measure => have := HGM2.out; omega
                      case rel => exact ⟨j + 1, by omega, rfl, by go_num, by rw [HTJ.out, HV2.out]; exact HO5.out, (HBt.out.alloc hw11 _).trans HB5'.out⟩
                    · have HV2 : Hid (hv (endsL es) (oppH g) = A) := by
                        show _ = _
                        unfold hv oppH
                        rw [if_neg hp, if_pos (by omega), show (g - 1) / 2 = qq by omega, hgd]
                      have hr1 : ((g : Int)).tmod 2 = 1 := by rw [Int.tmod_eq_emod_of_nonneg (by omega)]; omega
                      clear hp hqq hgd
                      go_wp2_with (at_builtin; refine wpList_append_rep rfl (.tmp 90) (.tmp 100) 23 rfl W11.heap.size 3 _ 1 8 Tryz.underlying23 iInfo rfl (by decide) intR_ok Non All u20 (T.take j) (by simp [Act.eval, Act.put]) (HOt.out.new intR_ok _) (some ⟨wr.heap.size, 0, none⟩) 1 [A] (by simp [Act.eval, Act.put]) (intlF wr A iA trivial) (fun _ _ h => h) (fun _ h => h.elim) (by rw [HTJL.out]; simp; omega) (by rw [HTJL.out]; simp; omega) (by rw [alloc_size']; omega) ?_; intro v' w14 ho hb5 hg5; have HO5 := hide ho; have HB5' := hide hb5; clear ho hb5 hg5)
                      go_roundg (row.length - (j + 1))
                      case measure => have := HGM2.out; omega
                      case rel => exact ⟨j + 1, by omega, rfl, by go_num, by rw [HTJ.out, HV2.out]; exact HO5.out, (HBt.out.alloc hw11 _).trans HB5'.out⟩
                  · have hje : j = row.length := by omega
                    obtain ⟨oT, cT, htv, hcT, hsT⟩ := HOt.out.slice intR_ok
                    rw [List.take_of_length_le (by rw [HTL.out]; omega)] at htv hcT hsT
                    subst htv
                    obtain ⟨wt, hwt0⟩ : ∃ wt : World, wt = wr := ⟨_, rfl⟩
                    subst hwt0
                    have HTT := hide hsT
                    have HBPt := hide (HBP.out.below HBt.out)
                    have HBBt := hide hbwo
                    have hTle : T.length ≤ 200000 := by rw [HTL.out]; exact hrl9
                    clear hje hsT hbwo
                    by_cases h16 : T.length ≤ 16
                    · have HN : Hid (routU ar (endsL es) q' (v + 1) = some (l ++ [turnP T])) := by
                        show _ = _
                        unfold routU
                        rw [HPU.out, Option.bind_some, if_neg HVQ.out, HTG.out, if_pos h16]
                      go_wp2_with (first
                        | (go_at_call 73; refine (nturner_any T oT cT _ wt HTT.out hcT (by omega)).mono ?_; rintro e w12 ⟨hT, hb6⟩; rw [if_pos (by omega)] at hT; obtain ⟨cs, rfl, ⟨oP, cP, hcs, iS, iL, hT1, hT2, hT3⟩⟩ := hT; have hcs' : cs = [.int .i64 T.length, .int .i64 1, .slice oP T.length cP] := (by rw [hcs]; simp [turnP]); subst hcs'; have hbp := HBPt.out.below hb6; have p0 := hbp.cell 0; have p1 := hbp.cell 1; have p2 := hbp.cell 2; have pf := hbp.free; simp only [List.getElem?_cons_zero, List.getElem?_cons_succ] at p0 p1 p2; obtain ⟨W13, e13⟩ : ∃ W13, ((w12.setCell ⟨w10.heap.size, 0, none⟩ (.int .i64 T.length)).setCell ⟨w10.heap.size, 1, none⟩ (.int .i64 1)).setCell ⟨w10.heap.size, 2, none⟩ (.slice oP T.length cP) = W13 := ⟨_, rfl⟩; have hbp7 : Box W13 w10.heap.size [.int .i64 T.length, .int .i64 1, .slice oP T.length cP] 89 := (by rw [← e13]; have h := ((hbp.put 0 (.int .i64 T.length)).put 1 (.int .i64 1)).put 2 (.slice oP T.length cP); simpa using h); have hb56 : Below wo.heap.size wo w12 := HBBt.out.trans (hb6.mono HBBt.out.size); have bb7 : Below wo.heap.size wo W13 := (by rw [← e13]; exact ((hb56.setCell hw45 _).setCell hw45 _).setCell hw45 _); have hl5 : w10.heap.size < wt.heap.size := HBPt.out.lt; have hwt : wo.heap.size ≤ wt.heap.size := HBBt.out.size; have HREP : Hid (prcR (InF (fun k => wc.heap.size ≤ k) (.slice oV v cV)) W13 [.int .i64 T.length, .int .i64 1, .slice oP T.length cP] (turnP T)) := (⟨oP, cP, by rw [← hcs], iS, iL, hT1, hT2, (hT3.keep rowR_ok fun j hj _ => (by rw [← e13]; exact set3_heap (by omega))).wide rowR_ok (by decide) fun j hj _ => ⟨by omega, fun e => by have := (HOB.out j e.symm).2; omega⟩⟩ : prcR _ _ _ _); have HOW := hide (HO.out.below prcR_ok bb7); have HBXW := hide (HBX.out.below bb7); have HWS : Hid (wc.heap.size ≤ W13.heap.size) := Nat.le_trans hwr bb7.size; have HBWW : Hid (Below W2.heap.size W2 W13) := HBW.out.trans (bb7.mono (by omega)); have HOFW : Hid (∀ k, k < wc.heap.size → k ≠ b → W13.heap[k]? = wc.heap[k]?) := (fun k hk hkb => (bb7.block k (by omega)).trans (HOFF.out.2 k hk hkb)); have s0 := hbp7.cell 0; have s1 := hbp7.cell 1; have s2 := hbp7.cell 2; have b0 := HBXW.out.cell 0; have b0n := (HBXW.out.next (.cells #[.int .i64 T.length, .int .i64 1, .slice oP T.length cP] 89)).cell 0; simp only [List.getElem?_cons_zero, List.getElem?_cons_succ] at s0 s1 s2 b0 b0n; clear hbp hbp7 hb56 bb7 hb6 hT1 hT2 hT3 hcs iS iL)
                        | (at_builtin; refine wpList_append_in rfl (.tmp 113) (.tmp 115) 22 rfl wc.heap.size 89 _ 3 40 Tryz.underlying22 prcInfoN rfl (by decide) prcR_ok (fun k => wc.heap.size ≤ k) (.slice oV v cV) l (by simp [Act.eval, Act.put]) (HOW.out.new prcR_ok _) ⟨_, 0, none⟩ 1 [.int .i64 T.length, .int .i64 1, .slice oP T.length cP] (turnP T) (by simp [Act.eval, Act.put]) (World.news_of_block (heap_alloc_new _ _)) (prcR_ok.keep HREP.out (SameOn.of_below (bnew (Below.refl _ _) _))) (by rw [HLL.out]; omega) (by rw [HLL.out]; unfold maxLen; omega) (by rw [alloc_size']; have := HWS.out; omega) (fun v' w8 ho hb8 hg8 hat => ?_); have hbx8 := (HBXW.out.next (.cells #[.int .i64 T.length, .int .i64 1, .slice oP T.length cP] 89)).grown hg8 (fun e => by have := (HOB.out b e.symm).1; omega); have m0 := hbx8.cell 0; have mf := hbx8.free 0; obtain ⟨o8, c8, hv8, _, _⟩ := ho.slice prcR_ok; rw [List.length_append, HLL.out] at hv8; simp only [List.length_cons, List.length_nil, Nat.zero_add] at hv8; subst hv8; simp only [List.getElem?_cons_zero] at m0; have HOW8 := hide ho; have HX8 := hide hbx8; have HB8 := hide hb8; have HG8 := hide hg8; clear ho hb8 hg8 hat hbx8))
                      go_roundg (ar.length - (v + 1))
                      case measure => have := HGM.out; omega
                      case rel =>
                        have hput := HX8.out.put 0 (.slice o8 (v + 1) c8)
                        simp only [List.set_cons_zero] at hput
                        have hwsz := HWS.out
                        have hw8 : wc.heap.size ≤ w8.heap.size := by
                          have := HB8.out.size
                          rw [alloc_size'] at this
                          omega
                        refine ⟨v + 1, .slice o8 (v + 1) c8, l ++ [(turnP T)], by omega, rfl, by go_num, HN.out, ?_, hput, ?_, ?_, ?_⟩
                        · exact HOW8.out.keep prcR_ok (fun g hg => Below.heap_setCell _ _ _ g (by have := (HOW8.out.block g hg).1; simp only; omega)) (fun k hk _ => Below.heap_setCell _ _ _ k (by have := hk.1; simp only; omega))
                        · show Below _ _ _
                          refine Below.setCell (p := ⟨b, 0, none⟩) ?_ hbW _
                          exact (HBWW.out.alloc (by omega) _).trans (HB8.out.mono hW2c)
                        · rw [World.size_setCell]; exact hw8
                        · intro k hk hkb
                          rw [Below.heap_setCell _ _ _ k (by simp only; omega), HB8.out.block k hk, Below.heap_alloc _ _ k (by omega)]
                          exact HOFW.out k hk hkb
                    · have HN : Hid (routU ar (endsL es) q' (v + 1) = none) := by
                        show _ = _
                        unfold routU
                        rw [HPU.out, Option.bind_some, if_neg HVQ.out, HTG.out, if_neg h16]
                      go_wp2_with (go_at_call 73; refine (nturner_any T oT cT _ wt HTT.out hcT (by omega)).mono ?_; rintro e w12 ⟨hT, hb6⟩; rw [if_neg (by omega)] at hT; subst hT; have hbp := HBPt.out.below hb6; have p0 := hbp.cell 0; have p1 := hbp.cell 1; have p2 := hbp.cell 2; have pf := hbp.free; simp only [List.getElem?_cons_zero, List.getElem?_cons_succ] at p0 p1 p2; obtain ⟨W13, e13⟩ : ∃ W13, ((w12.setCell ⟨w10.heap.size, 0, none⟩ (.int .i64 0)).setCell ⟨w10.heap.size, 1, none⟩ (.int .i64 0)).setCell ⟨w10.heap.size, 2, none⟩ (.slice none 0 0) = W13 := ⟨_, rfl⟩; have hb56 : Below wo.heap.size wo w12 := HBBt.out.trans (hb6.mono HBBt.out.size); have bb7 : Below wo.heap.size wo W13 := (by rw [← e13]; exact ((hb56.setCell hw45 _).setCell hw45 _).setCell hw45 _); have HL13 := hide (HBW.out.trans (bb7.mono (by omega))); have hx2 := HX2.out.below HL13.out; have r0 := hx2.cell 0; have r1 := hx2.cell 1; have r2 := hx2.cell 2; have rf := hx2.free; simp only [List.getElem?_cons_zero, List.getElem?_cons_succ] at r0 r1 r2; clear hbp hb56 bb7 hb6 hx2)
                      refine bodyPost_ret (results_cell_tmp_row rfl _ _ W1.heap.size 26 _ (0, 0) _ rfl (HFIN.out _ HL13.out).1 Tryz.underlying26 rfl (by kernel_rfl)) rfl ?_
                      rw [HS.out, routU_none HN.out ar.length (by omega)]
                      exact ⟨_, rfl, HNW0.out _, (HFIN.out _ HL13.out).2⟩
            · have hve : v = ar.length := by omega
              subst hve
              obtain ⟨oV, cV, hvp, hcV, hsV⟩ := HO.out.slice prcR_ok
              rw [HLL.out] at hvp hcV
              subst hvp
              have HSV := hide hsV
              have b0 := HBX.out.cell 0
              have b1 := HBX.out.cell 1
              have b2 := HBX.out.cell 2
              have hx2 := HX2.out.below HBW.out
              have r0 := hx2.cell 0
              have r1 := hx2.cell 1
              have r2 := hx2.cell 2
              have rf := hx2.free
              simp only [List.getElem?_cons_zero, List.getElem?_cons_succ] at b0 b1 b2 r0 r1 r2
              have HX2w := hide hx2
              clear hx2 hsV
              go_wp2_with fail
              have hfin := ((HX2w.out.put 0 (.slice oV ar.length cV)).put 1 (.slice o6 ar.length c6)).put 2 (.slice o7 d.length c7)
              simp only [List.set_cons_zero, List.set_cons_succ] at hfin
              refine bodyPost_ret (results_cell_tmp_row rfl _ _ W1.heap.size 26 _ (0, 0) _ rfl hfin Tryz.underlying26 rfl (by kernel_rfl)) rfl ?_
              rw [HS.out, HPU.out]
              obtain ⟨hoff1, hoff2⟩ := HOFF.out
              have hne : ∀ k, W1.heap.size < k → (((wr.setCell ⟨W1.heap.size, 0, none⟩ (.slice oV ar.length cV)).setCell ⟨W1.heap.size, 1, none⟩ (.slice o6 ar.length c6)).setCell ⟨W1.heap.size, 2, none⟩ (.slice o7 d.length c7)).heap[k]? = wr.heap[k]? := fun k hk => set3_heap (by omega)
              refine ⟨_, rfl, ⟨oV, cV, o6, c6, o7, c7, ?_, ?_, ?_, ?_, ?_, ?_, ?_⟩, ?_⟩
              · simp only [HLL.out, HROTL.out, waitD_len]
              · simp only [HLL.out]; exact hcV
              · simp only [HROTL.out]; exact hc6
              · simp only [waitD_len]; exact hc7
              · exact (HSV.out.keep prcR_ok fun k hk _ => hne k (by rcases hk with h | h; have := h.1; omega; omega)).all prcR_ok (by decide)
              · exact ((HS6c.out.keep intR_ok fun k hk _ => (hne k (by have := hk.1; omega)).trans (hoff2 k (by have := hk.2; omega) (by have := hk.2; omega))).all intR_ok (by decide))
              · exact ((HS7c.out.keep (slcR_ok intR_ok (by decide)) fun k hk _ => (hne k (by have := hk.1; omega)).trans (hoff2 k (by have := hk.2; omega) (by have := hk.2; omega))).all (slcR_ok intR_ok (by decide)) (by decide))
              · have hbz : Below w.heap.size w wr := HB2.out.trans (HBW.out.mono (by omega))
                exact ((hbz.setCell hz1 _).setCell hz1 _).setCell hz1 _
    · have HS : Hid (routR n es f ar q' rot d = (nwk0, dErr n d)) := by
        show _ = _
        have h3 : gvE n es f ar q' rot d = dErr n d := by rw [HG.out, if_neg hE]
        unfold routR
        rw [h3, if_neg hE]
      have hq0 : (dErr n d != 0) = true := by simpa using hE
      clear hE
      go_enter Tryz.func25, Tryz.ntmps25
      go_wp2_with (first
        | (go_at_call 69; refine HCK.out.mono ?_; rintro e w3 ⟨rfl, hb3⟩; have x1 := HX1.out.below hb3; have HX13 := hide x1; have HX23 := hide (HX2.out.below hb3); have HB3 := hide (HB2.out.trans (hb3.mono (by omega))); have HL3 := hide hb3; have y0 := x1.cell 0; have y1 := x1.cell 1; have y2 := x1.cell 2; simp only [List.getElem?_cons_zero, List.getElem?_cons_succ] at y0 y1 y2; clear hb3 x1)
        | (go_at_call 70; refine (HDC.out w3 HB3.out).mono ?_; rintro e w4 ⟨rfl, hb4⟩; have x1 := HX13.out.below hb4; have HX14 := hide x1; have HX24 := hide (HX23.out.below hb4); have HB4 := hide (HB3.out.trans (hb4.mono HB3.out.size)); have HL4 := hide (HL3.out.trans (hb4.mono HL3.out.size)); have y0 := x1.cell 0; have y1 := x1.cell 1; have y2 := x1.cell 2; have hx2 := HX24.out; have r0 := hx2.cell 0; have r1 := hx2.cell 1; have r2 := hx2.cell 2; have rf := hx2.free; simp only [List.getElem?_cons_zero, List.getElem?_cons_succ] at y0 y1 y2 r0 r1 r2; clear hb4 x1 hx2))
      refine bodyPost_ret (results_cell_tmp_row rfl _ _ W1.heap.size 26 _ (0, 0) _ rfl (HFIN.out _ HL4.out).1 Tryz.underlying26 rfl (by kernel_rfl)) rfl ?_
      rw [HS.out]
      exact ⟨_, rfl, HNW0.out _, (HFIN.out _ HL4.out).2⟩
  · have HS : Hid (routR n es f ar q rot d = (nwk0, rtE n es f ar q rot)) := by
      show _ = _
      have : gvE n es f ar q rot d = rtE n es f ar q rot := if_neg h0
      unfold routR
      rw [this, if_neg h0]
    have hq0 : (rtE n es f ar q rot != 0) = true := by simpa using h0
    clear h0 bx1 bx2 bb1 bb2 hb2 hs ha hr hd
    go_enter Tryz.func25, Tryz.ntmps25
    go_wp2_with (go_at_call 69; refine HCK.out.mono ?_; rintro e w3 ⟨rfl, hb3⟩; have HL3 := hide hb3; have hx2 := HX2.out.below hb3; have r0 := hx2.cell 0; have r1 := hx2.cell 1; have r2 := hx2.cell 2; have rf := hx2.free; simp only [List.getElem?_cons_zero, List.getElem?_cons_succ] at r0 r1 r2; clear hb3 hx2)
    refine bodyPost_ret (results_cell_tmp_row rfl _ _ W1.heap.size 26 _ (0, 0) _ rfl (HFIN.out _ HL3.out).1 Tryz.underlying26 rfl (by kernel_rfl)) rfl ?_
    rw [HS.out]
    exact ⟨_, rfl, HNW0.out _, (HFIN.out _ HL3.out).2⟩
end

end Go.Proofs.YtnigfddanoaonaaGreat

set_option linter.unusedVariables false
set_option linter.unusedSimpArgs false
namespace Go.Proofs.YtnigfddanoaonaaGreat
open Go.RowKit

def picksErr (l : List Int) : Int := if 4096 < l.length then 5 else if l.length = 0 then 14 else if negB l then 2 else 0

set_option maxHeartbeats 1000000 in
theorem picked_any (l : List Int) (oa : Option Addr) (c : Nat) (F : Foot) (w : World) (hs : SliceR intR 1 F w oa l) (hc : l.length ≤ c) (hc2 : l.length ≤ 9223372036854775807) :
    Calls Tryz.prog 44 #[.slice oa l.length c] w fun e w' => e = .returned (.int .i64 (picksErr l)) ∧ w = w' := by
  by_cases h1 : 4096 < l.length
  · have HR : Hid (picksErr l = 5) := if_pos h1
    have k1 : (4096 : Int) < l.length := by omega
    clear hs h1
    go_enter Tryz.func44, Tryz.ntmps44
    go_wp2_with fail
    go_ret
    exact ⟨ret_int (by rw [HR.out]), rfl⟩
  have k1 : ¬ (4096 : Int) < l.length := by omega
  by_cases h2 : l.length = 0
  · have HR : Hid (picksErr l = 14) := by show _ = _; unfold picksErr; rw [if_neg h1, if_pos h2]
    have k2 : ((l.length : Int) == 0) = true := by simp; exact List.eq_nil_of_length_eq_zero h2
    clear hs h1 h2
    go_enter Tryz.func44, Tryz.ntmps44
    go_wp2_with fail
    go_ret
    exact ⟨ret_int (by rw [HR.out]), rfl⟩
  have k2 : ((l.length : Int) == 0) = false := by simp; intro e; rw [e] at h2; simp at h2
  have HM := hide (min_any l oa c F w hs hc hc2 (by omega))
  have HR : Hid (picksErr l = if negB l then 2 else 0) := by show _ = _; unfold picksErr; rw [if_neg h1, if_neg h2]
  obtain ⟨n, hn⟩ : ∃ n, n = l.length := ⟨_, rfl⟩
  rw [← hn] at k1 k2 HM hc2 ⊢
  clear hs h1 h2 hn hc
  go_enter Tryz.func44, Tryz.ntmps44
  go_wp2_with fail
  refine HM.out.mono ?_
  rintro e w' ⟨m, rfl, hm, rfl⟩
  by_cases hneg : m < 0
  · have HB : Hid (negB l = true) := by show _ = _; rw [← hm]; simp [hneg]
    clear hm
    go_wp2_with fail
    go_ret
    exact ⟨ret_int (by rw [HR.out, HB.out]; rfl), rfl⟩
  · have HB : Hid (negB l = false) := by show _ = _; rw [← hm]; simp; omega
    clear hm
    go_wp2_with fail
    go_ret
    exact ⟨ret_int (by rw [HR.out, HB.out]; rfl), rfl⟩

end Go.Proofs.YtnigfddanoaonaaGreat

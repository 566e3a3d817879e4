/-
  The reference of networks: Check.
  A slice that the call has just made, and that holds nothing yet.
  The order of outputs, and sorting: plain Lean.
  The closures that compare outputs.
  A row of outputs that is sorted in place: the insertion sort.
  Reading a word: the program and the reference.
  slices.Clone of outputs; sorting a small list.
  sorted: a copy of a list of outputs, in order; here for lists of fewer than 20 elements, whose sort is one insertion sort.
  What the reference's Order comes to is the list in order.
  The reference's Order.
  Two lists of outputs, two lists of ints: SameOutputs, SameInts.
  slices.Equal of ints.
  slices.Equal of outputs and of ints.
  Slices that a literal lays.
  Unary, state: the program and the reference.
  Unary, state: the reference.
  letters: the program and the reference; Few.
  Run: the program and the reference.
  Step: the program and the reference.
  commute, Commuting.
  Abelian: the program and the reference.
  The reference of networks: Few, Small, Commutes.
  network.copied: a network that shares no memory with the given one.
  A network that runs, in memory: start, network, moves.
  Rows of outputs: swapping two parts of the same length, and rotating two parts.
  Merging two sorted lists: plain Lean.
  The merge of two sorted parts of a row: one part has one element.
  The merge of two sorted parts of a row: the second part has one element.
-/
import Derived.Test.YtnigfddanoaonaaGreatNl1
import Derived.StillTailTactics
import Derived.Test.YtnigfddanoaonaaGreatProg
import Derived.Deep.QuietTactic
import Derived.BigQuiet
import Derived.Deep.RegionHeld3
import Derived.Deep.LoopGhost
import Derived.Deep.DeepCutAuto
import Derived.Laws.ResultCell

set_option linter.unusedVariables false
set_option linter.unusedSimpArgs false
namespace Go.Proofs.YtnigfddanoaonaaGreat
open Go.RowKit

set_option maxRecDepth 100000 in
set_option maxHeartbeats 4000000 in
theorem rnetCheck_any (procs : List Prc) (op : Option Addr) (cp : Nat) (st : List Int) (os : Option Addr) (cs : Nat) (wt : List (List Int)) (ow : Option Addr) (cw : Nat) (F : Foot) (w : World)
    (hp : SliceR prcR 3 F w op procs) (hp2 : procs.length ≤ 9223372036854775807) (hs : SliceR intR 1 F w os st) (hs2 : st.length ≤ 9223372036854775807) (ht : SliceR (slcR intR 1) 1 F w ow wt) (ht2 : wt.length ≤ 9223372036854775807) :
    Calls Tryz.prog 36 #[.agg #[.slice op procs.length cp, .slice os st.length cs, .slice ow wt.length cw]] w fun e w' => e = .returned (.int .i64 (netErr ⟨procs, st, wt⟩)) ∧ Below w.heap.size w w' := by
  have HP := hide hp
  have HS := hide hs
  have HT := hide ht
  clear hp hs ht
  obtain ⟨W1, e1⟩ : ∃ W1, w.alloc (.cells #[.slice op procs.length cp, .slice os st.length cs, .slice ow wt.length cw] 26) = W1 := ⟨_, rfl⟩
  have bx1 : Box W1 w.heap.size [.slice op procs.length cp, .slice os st.length cs, .slice ow wt.length cw] 26 := by rw [← e1]; exact Box.new w [.slice op procs.length cp, .slice os st.length cs, .slice ow wt.length cw] 26
  have bb1 := bnew (Below.refl w.heap.size w) (.cells #[.slice op procs.length cp, .slice os st.length cs, .slice ow wt.length cw] 26)
  rw [e1] at bb1
  have c0 := bx1.cell 0
  simp only [List.getElem?_cons_zero, List.getElem?_cons_succ] at c0
  have HB := hide bb1
  have HX := hide bx1
  clear bx1 bb1
  obtain ⟨n, hn⟩ : ∃ n, n = procs.length := ⟨_, rfl⟩
  have HN := hide hn
  by_cases hr : procs.length < 1 ∨ 12 < procs.length
  · have HR : Hid (netErr ⟨procs, st, wt⟩ = 2) := by show _ = _; unfold netErr; exact if_pos hr
    rw [← hn] at c0 hp2 hr e1 ⊢
    clear hn
    by_cases h1 : n < 1
    · have hr1 : (n : Int) < 1 := by omega
      clear hr
      go_enter Tryz.func36, Tryz.ntmps36
      go_wp2_with fail
      go_ret
      exact ⟨ret_int (by rw [HR.out]), HB.out⟩
    · have hr1 : ¬ (n : Int) < 1 := by omega
      have hr2 : (12 : Int) < n := by omega
      clear hr
      go_enter Tryz.func36, Tryz.ntmps36
      go_wp2_with fail
      go_ret
      exact ⟨ret_int (by rw [HR.out]), HB.out⟩
  have hr1 : ¬ (n : Int) < 1 := by omega
  have hr2 : ¬ (12 : Int) < n := by omega
  have HR : Hid (netErr ⟨procs, st, wt⟩ = if procsErr procs.length procs = 0 then
    if procsOk procs procs = true then
      if st.length = procs.length then
        if statesErr st procs = 0 then waitsErr ⟨procs, st, wt⟩ else statesErr st procs
      else 8
    else 6
  else procsErr procs.length procs) := by show _ = _; unfold netErr; exact if_neg hr
  rw [← hn] at c0 hp2 hr e1 HX ⊢
  clear hn hr
  go_enter Tryz.func36, Tryz.ntmps36
  go_wp2_with fail
  clear c0
  go_loopw [4] (fun iv wr => ∃ i : Nat, i ≤ n ∧ iv = .int .i64 i ∧ Hid (procsErr procs.length procs = procsErr procs.length (procs.drop i)) ∧ Hid (Below W1.heap.size W1 wr)) (fun iv _ => n - (intOf iv).toNat)
  case atStart => exact ⟨0, by omega, rfl, rfl, Below.refl _ _⟩
  case round =>
    obtain ⟨i, hi, rfl, HE, HBi⟩ := hrel
    have c0 := (HX.out.below HBi.out).cell 0
    simp only [List.getElem?_cons_zero, List.getElem?_cons_succ] at c0
    by_cases hlt : i < n
    · obtain ⟨S5, Le5, rs5, b7, off7, oa7, c7, hd7, _, rfl, _, y0, y1, y2, _, il5, hrc, hrc2, hrs⟩ := ((HP.out.below prcR_ok HB.out).below prcR_ok HBi.out).prc_at (i := i) (by have := HN.out; omega)
      have HD : Hid (procsErr procs.length (procs.drop i) = if checkErr ⟨S5, Le5, rs5⟩ n = 0 then procsErr procs.length (procs.drop (i + 1)) else checkErr ⟨S5, Le5, rs5⟩ n) := by show _ = _; rw [hd7, HN.out]; rfl
      have HC := hide (rcheck_any S5 Le5 n rs5 oa7 c7 _ wr hrs hrc hrc2)
      clear hd7 hrs hrc hrc2
      by_cases hz : checkErr ⟨S5, Le5, rs5⟩ n = 0
      · have q1 := is_err hz
        have HZ := hide hz
        clear hz
        go_wp2_with (go_at_call 85; refine HC.out.mono ?_; rintro e w5 ⟨rfl, h5⟩; have HB5 := hide (HBi.out.trans (h5.mono HBi.out.size)); clear h5)
        go_roundw
        case rel => exact ⟨i + 1, by omega, by go_num, by show _ = _; rw [HE.out, HD.out, if_pos HZ.out], HB5⟩
        case measure => simp [intOf]; omega
      · have q1 := not_err hz
        have HRR : Hid (netErr ⟨procs, st, wt⟩ = checkErr ⟨S5, Le5, rs5⟩ n) := by
          show _ = _
          rw [HR.out, HE.out, HD.out, if_neg hz, if_neg hz]
        clear hz
        go_wp2_with (go_at_call 85; refine HC.out.mono ?_; rintro e w5 ⟨rfl, h5⟩; have HB5 := hide (HBi.out.trans (h5.mono HBi.out.size)); clear h5)
        go_ret
        exact ⟨ret_int (by rw [HRR.out]), HB.out.trans (HB5.out.mono HB.out.size)⟩
    · have HPE : Hid (procsErr procs.length procs = 0) := by show _ = _; rw [HE.out, List.drop_eq_nil_of_le (by have := HN.out; omega)]; rfl
      have HVA : Hid (∀ (j : Nat) (p : Prc), procs[j]? = some p → checkErr p procs.length = 0) := fun j p hp => procsErr_zero HPE.out p (List.mem_of_getElem? hp)
      go_wp2_with fail
      clear c0
      go_loopw [6] (fun iv wr => ∃ i : Nat, i ≤ n ∧ iv = .int .i64 i ∧ Hid (procsOk procs procs = procsOk procs (procs.drop i)) ∧ Hid (Below W1.heap.size W1 wr)) (fun iv _ => n - (intOf iv).toNat)
      case atStart => exact ⟨0, by omega, rfl, rfl, HBi⟩
      case round =>
        obtain ⟨i2, hi2, rfl, HE2, HB2⟩ := hrel
        have z0 := (HX.out.below HB2.out).cell 0
        have z1 := (HX.out.below HB2.out).cell 1
        have z2 := (HX.out.below HB2.out).cell 2
        simp only [List.getElem?_cons_zero, List.getElem?_cons_succ] at z0 z1 z2
        by_cases hlt2 : i2 < n
        · obtain ⟨S5, Le5, rs5, b7, off7, oa7, c7, hd7, hpr, rfl, _, y0, y1, y2, _, il5, hrc, hrc2, hrs⟩ := ((HP.out.below prcR_ok HB.out).below prcR_ok HB2.out).prc_at (i := i2) (by have := HN.out; omega)
          have hv := HVA.out _ _ hpr
          have HD : Hid (procsOk procs (procs.drop i2) = if rowsOk procs rs5 = true then procsOk procs (procs.drop (i2 + 1)) else false) := by show _ = _; rw [hd7]; rfl
          have hcall := runderstood_any procs (some ⟨b7, off7, none⟩) cp os st.length cs ow wt.length cw S5 Le5 rs5 oa7 c7 _ _ wr.drew (((HP.out.below prcR_ok HB.out).below prcR_ok HB2.out).keep (w' := wr.drew) prcR_ok (fun _ _ _ => rfl)) (by have := HN.out; omega) (hrs.keep (w' := wr.drew) rowR_ok (fun _ _ _ => rfl)) hrc hrc2 hv
          rw [← HN.out] at hcall
          have HC := hide hcall
          clear hd7 hrs hrc hrc2 hv hpr hcall
          obtain ⟨bo, hbo⟩ : ∃ bo, bo = rowsOk procs rs5 := ⟨_, rfl⟩
          rw [← hbo] at HC HD
          clear hbo
          cases bo
          · have HRR : Hid (netErr ⟨procs, st, wt⟩ = 6) := by
              show _ = _
              rw [HR.out, if_pos HPE.out, HE2.out, HD.out]
              rfl
            go_wp2_with fail
            go_still_tail 6, (by kernel_rfl)
            change wpList _ _ _ _ _ wr.drew
            go_wp2_with (go_at_call 86; refine HC.out.mono ?_; rintro e w5 ⟨rfl, h5⟩; have HB5 := hide (HB2.out.trans ((Below.refl _ _).drew.trans h5 |>.mono HB2.out.size)); clear h5)
            go_ret
            exact ⟨ret_int (by rw [HRR.out]), HB.out.trans (HB5.out.mono HB.out.size)⟩
          · go_wp2_with fail
            go_still_tail 6, (by kernel_rfl)
            change wpList _ _ _ _ _ wr.drew
            go_wp2_with (go_at_call 86; refine HC.out.mono ?_; rintro e w5 ⟨rfl, h5⟩; have HB5 := hide (HB2.out.trans ((Below.refl _ _).drew.trans h5 |>.mono HB2.out.size)); clear h5)
            go_roundw
            case rel => exact ⟨i2 + 1, by omega, by go_num, by show _ = _; rw [HE2.out, HD.out]; rfl, HB5⟩
            case measure => simp [intOf]; omega
        · have HPO : Hid (procsOk procs procs = true) := by show _ = _; rw [HE2.out, List.drop_eq_nil_of_le (by have := HN.out; omega)]; rfl
          by_cases hsl : st.length = n
          case neg =>
            have q0 : (((st.length : Nat) : Int) != ((n : Nat) : Int)) = true := by simp; omega
            have HRR : Hid (netErr ⟨procs, st, wt⟩ = 8) := by
              show _ = _
              rw [HR.out, if_pos HPE.out, if_pos HPO.out, if_neg (by rw [← HN.out]; exact hsl)]
            clear hsl
            go_wp2_with fail
            go_ret
            exact ⟨ret_int (by rw [HRR.out]), HB.out.trans (HB2.out.mono HB.out.size)⟩
          have q0 : (((st.length : Nat) : Int) != ((n : Nat) : Int)) = false := by simp; omega
          have HRR : Hid (netErr ⟨procs, st, wt⟩ = if statesErr st procs = 0 then waitsErr ⟨procs, st, wt⟩ else statesErr st procs) := by
            show _ = _
            rw [HR.out, if_pos HPE.out, if_pos HPO.out, if_pos (by rw [← HN.out]; exact hsl)]
          obtain ⟨sl, hsl2⟩ : ∃ sl, sl = st.length := ⟨_, rfl⟩
          rw [← hsl2] at z1 q0 hsl e1 HX hs2
          have HSL2 := hide hsl2
          have HSL := hide hsl
          clear hsl HR HE HBi HE2 hsl2
          have hstl : sl ≤ 12 := by have := HSL.out; omega
          go_wp2_with fail
          clear z0 z1 z2
          go_loopw [7] (fun iv wr => ∃ i : Nat, i ≤ n ∧ iv = .int .i64 i ∧ Hid (statesErr st procs = statesErr (st.drop i) (procs.drop i)) ∧ Hid (Below W1.heap.size W1 wr)) (fun iv _ => n - (intOf iv).toNat)
          case atStart => exact ⟨0, by omega, rfl, rfl, HB2⟩
          case round =>
            obtain ⟨i3, hi3, rfl, HE3, HB3⟩ := hrel
            have z0 := (HX.out.below HB3.out).cell 0
            have z1 := (HX.out.below HB3.out).cell 1
            have z2 := (HX.out.below HB3.out).cell 2
            simp only [List.getElem?_cons_zero, List.getElem?_cons_succ] at z0 z1 z2
            by_cases hlt3 : i3 < n
            · obtain ⟨sv, hds, _, isv, b8, off8, rfl, _, s0⟩ := ((HS.out.below intR_ok HB.out).below intR_ok HB3.out).int_at (i := i3) (by have := HSL.out; have := HSL2.out; omega)
              obtain ⟨S5, Le5, rs5, b7, off7, oa7, c7, hd7, _, rfl, _, y0, _, _, iS5, _, _, _, _⟩ := ((HP.out.below prcR_ok HB.out).below prcR_ok HB3.out).prc_at (i := i3) (by have := HN.out; omega)
              have HD : Hid (statesErr (st.drop i3) (procs.drop i3) = if belowB sv S5 then statesErr (st.drop (i3 + 1)) (procs.drop (i3 + 1)) else 2) := by show _ = _; rw [hds, hd7]; rfl
              have hin : i3 < sl := by have := HSL.out; omega
              clear hds hd7
              by_cases hneg : sv < 0
              · have HRE : Hid (netErr ⟨procs, st, wt⟩ = 2) := by
                  show _ = _
                  have hb : belowB sv S5 = false := by unfold belowB; simp; omega
                  rw [HRR.out, HE3.out, HD.out, hb]
                  rfl
                have q5 : decide (sv < 0) = true := by simp [hneg]
                clear hneg
                go_wp2_with fail
                go_quiet (fail)
                go_wp2_with fail
                go_ret
                exact ⟨ret_int (by rw [HRE.out]), HB.out.trans ((below_drewN HB3.out _).mono HB.out.size)⟩
              · have q5 : decide (sv < 0) = false := by simp; omega
                by_cases hge : S5 ≤ sv
                · have HRE : Hid (netErr ⟨procs, st, wt⟩ = 2) := by
                    show _ = _
                    have hb : belowB sv S5 = false := by unfold belowB; simp; omega
                    rw [HRR.out, HE3.out, HD.out, hb]
                    rfl
                  have q6 : decide (S5 ≤ sv) = true := by simp [hge]
                  clear hneg hge
                  go_wp2_with fail
                  go_quiet (fail)
                  go_wp2_with fail
                  go_ret
                  exact ⟨ret_int (by rw [HRE.out]), HB.out.trans ((below_drewN HB3.out _).mono HB.out.size)⟩
                · have HD2 : Hid (statesErr (st.drop i3) (procs.drop i3) = statesErr (st.drop (i3 + 1)) (procs.drop (i3 + 1))) := by
                    show _ = _
                    have hb : belowB sv S5 = true := by unfold belowB; simp; omega
                    rw [HD.out, hb]
                    rfl
                  have q6 : decide (S5 ≤ sv) = false := by simp; omega
                  clear hneg hge
                  go_wp2_with fail
                  go_quiet (fail)
                  go_wp2_with fail
                  go_roundw
                  case rel => exact ⟨i3 + 1, by omega, by go_num, by show _ = _; rw [HE3.out, HD2.out], below_drewN HB3.out _⟩
                  case measure => simp [intOf]; omega
            · have HSE : Hid (statesErr st procs = 0) := by show _ = _; rw [HE3.out, List.drop_eq_nil_of_le (show st.length ≤ i3 by have := HSL.out; have := HSL2.out; omega)]; rfl
              have HRW : Hid (netErr ⟨procs, st, wt⟩ = waitsErr ⟨procs, st, wt⟩) := by
                show _ = _
                rw [HRR.out, if_pos HSE.out]
              have hcall := rwaits_any procs op cp os st.length cs st wt ow cw _ _ wr ((HP.out.below prcR_ok HB.out).below prcR_ok HB3.out) (by have := HN.out; omega) ((HT.out.below (slcR_ok intR_ok (by decide)) HB.out).below (slcR_ok intR_ok (by decide)) HB3.out) ht2
              rw [← HN.out, ← HSL2.out] at hcall
              have HC := hide hcall
              clear hcall HRR
              go_wp2_with (go_at_call 87; refine HC.out.mono ?_; rintro e w5 ⟨rfl, h5⟩)
              go_ret
              exact ⟨ret_int (by rw [HRW.out]), HB.out.trans ((HB3.out.trans (h5.mono HB3.out.size)).mono HB.out.size)⟩

end Go.Proofs.YtnigfddanoaonaaGreat

namespace Go.Proofs.YtnigfddanoaonaaGreat
open Go.RowKit

/-- An empty slice that the call has just made owns nothing. -/
theorem OwnS.made {α : Type} (R : Rep α) (sz : Nat) (e : TypeId) (F : Foot) (w : World) : OwnS R sz w.heap.size e F (w.alloc (.cells #[] e)) (.slice (some ⟨w.heap.size, 0, none⟩) 0 0) [] :=
  ⟨[], World.ownsRow_made w #[] 0 (Nat.le_refl _) (by unfold maxLen; omega) (by simp), by simp, by simp⟩

end Go.Proofs.YtnigfddanoaonaaGreat

namespace Go.Proofs.YtnigfddanoaonaaGreat
open Go.RowKit

def cmpIo (x y : Int) : Int := if x < y then -1 else if y < x then 1 else 0
def cmpO (a b : Out) : Int := if cmpIo a.dst b.dst = 0 then cmpIo a.letter b.letter else cmpIo a.dst b.dst
def leO (a b : Out) : Prop := a.dst < b.dst ∨ (a.dst = b.dst ∧ a.letter ≤ b.letter)
instance (a b : Out) : Decidable (leO a b) := by unfold leO; infer_instance

theorem cmpO_neg {a b : Out} : cmpO a b < 0 ↔ ¬ leO b a := by
  unfold cmpO cmpIo leO
  by_cases h1 : a.dst < b.dst <;> by_cases h2 : b.dst < a.dst <;> by_cases h3 : a.letter < b.letter <;> by_cases h4 : b.letter < a.letter <;> simp [h1, h2, h3, h4] <;> omega
theorem leO_refl (a : Out) : leO a a := .inr ⟨rfl, Int.le_refl _⟩
theorem leO_trans {a b c : Out} (h : leO a b) (k : leO b c) : leO a c := by unfold leO at *; omega
theorem leO_total (a b : Out) : leO a b ∨ leO b a := by unfold leO; omega
theorem leO_antisymm {a b : Out} (h : leO a b) (k : leO b a) : a = b := by
  obtain ⟨t, l⟩ := a
  obtain ⟨t', l'⟩ := b
  unfold leO at *
  simp only [Out.mk.injEq] at *
  omega

def ins (x : Out) : List Out → List Out
  | [] => [x]
  | y :: r => if leO x y then x :: y :: r else y :: ins x r
def isort : List Out → List Out
  | [] => []
  | x :: r => ins x (isort r)
abbrev Srt (l : List Out) : Prop := l.Pairwise leO

theorem ins_perm (x : Out) : ∀ l, (ins x l).Perm (x :: l)
  | [] => List.Perm.refl _
  | y :: r => by
    unfold ins
    split
    · exact List.Perm.refl _
    · exact (List.Perm.cons y (ins_perm x r)).trans (List.Perm.swap x y r)
theorem isort_perm : ∀ l, (isort l).Perm l
  | [] => List.Perm.refl _
  | x :: r => (ins_perm x _).trans (List.Perm.cons x (isort_perm r))
theorem isort_length (l : List Out) : (isort l).length = l.length := (isort_perm l).length_eq
theorem ins_srt (x : Out) : ∀ {l}, Srt l → Srt (ins x l)
  | [], _ => by simp [ins]
  | y :: r, h => by
    unfold ins
    have hy := List.pairwise_cons.1 h
    split
    · rename_i hle
      refine List.pairwise_cons.2 ⟨fun z hz => ?_, h⟩
      rcases List.mem_cons.1 hz with rfl | hz
      · exact hle
      · exact leO_trans hle (hy.1 z hz)
    · rename_i hle
      refine List.pairwise_cons.2 ⟨fun z hz => ?_, ins_srt x hy.2⟩
      have hz2 := (ins_perm x r).mem_iff.1 hz
      rcases List.mem_cons.1 hz2 with rfl | hz2
      · exact (leO_total z y).resolve_left hle
      · exact hy.1 z hz2
theorem isort_srt : ∀ l, Srt (isort l)
  | [] => List.Pairwise.nil
  | x :: r => ins_srt x (isort_srt r)
theorem srt_unique : ∀ {l l' : List Out}, Srt l → Srt l' → l.Perm l' → l = l'
  | [], l', _, _, h => by simpa using h.length_eq.symm
  | x :: r, [], _, _, h => by simpa using h.length_eq
  | x :: r, y :: r', h, h', hp => by
    have hx := List.pairwise_cons.1 h
    have hy := List.pairwise_cons.1 h'
    have hxy : x = y := by
      have m1 := hp.mem_iff.1 (List.mem_cons_self (a := x) (l := r))
      have m2 := hp.mem_iff.2 (List.mem_cons_self (a := y) (l := r'))
      rcases List.mem_cons.1 m1 with e | m1
      · exact e
      · rcases List.mem_cons.1 m2 with e | m2
        · exact e.symm
        · exact leO_antisymm (hx.1 _ m2) (hy.1 _ m1)
    subst hxy
    rw [srt_unique hx.2 hy.2 ((List.perm_cons x).1 hp)]
theorem isort_of {l l' : List Out} (h : Srt l) (hp : l.Perm l') : l = isort l' := srt_unique h (isort_srt l') (hp.trans (isort_perm l').symm)
theorem isort_id {l : List Out} (h : Srt l) : isort l = l := (isort_of h (List.Perm.refl _)).symm
theorem isort_perm_eq {l l' : List Out} (h : l.Perm l') : isort l = isort l' := isort_of (isort_srt l) ((isort_perm l).trans h)
theorem isort_join {l l' : List Out} (h : ∀ x ∈ l, ∀ y ∈ l', leO x y) : isort l ++ isort l' = isort (l ++ l') :=
  isort_of (List.pairwise_append.2 ⟨isort_srt l, isort_srt l', fun x hx y hy => h x ((isort_perm l).mem_iff.1 hx) y ((isort_perm l').mem_iff.1 hy)⟩) ((isort_perm l).append (isort_perm l'))
end Go.Proofs.YtnigfddanoaonaaGreat

set_option linter.unusedVariables false
namespace Go.Proofs.YtnigfddanoaonaaGreat
open Go.RowKit

theorem key1_any (t l : Int) (w : World) : Calls Tryz.prog 158 #[.agg #[.int .i64 t, .int .i64 l]] w fun e w' => e = .returned (.int .i64 t) ∧ Below w.heap.size w w' := by
  go_enter Tryz.func158, Tryz.ntmps158
  go_wp2_with fail
  go_ret
  exact ⟨rfl, bnew (Below.refl _ _) _⟩
theorem key2_any (t l : Int) (w : World) : Calls Tryz.prog 159 #[.agg #[.int .i64 t, .int .i64 l]] w fun e w' => e = .returned (.int .i64 l) ∧ Below w.heap.size w w' := by
  go_enter Tryz.func159, Tryz.ntmps159
  go_wp2_with fail
  go_ret
  exact ⟨rfl, bnew (Below.refl _ _) _⟩
theorem isNaN_any (x : Int) (w : World) : Calls Tryz.prog 165 #[.int .i64 x] w fun e w' => e = .returned (.bool false) ∧ w = w' := by
  go_enter Tryz.func165, Tryz.ntmps165
  go_wp2_with fail
  go_ret
  simp
theorem compare_any (x y : Int) (w : World) : Calls Tryz.prog 149 #[.int .i64 x, .int .i64 y] w fun e w' => e = .returned (.int .i64 (cmpIo x y)) ∧ w = w' := by
  go_enter Tryz.func149, Tryz.ntmps149
  go_wp2_with (go_at_call 165; refine (isNaN_any _ _).mono ?_; rintro e w' ⟨rfl, rfl⟩)
  · go_ret
    have h : x < y := by assumption
    exact ⟨ret_int (by simp [cmpIo, h]), rfl⟩
  · go_ret
    have h : y < x := by assumption
    have h' : ¬ x < y := by omega
    exact ⟨ret_int (by simp [cmpIo, h, h']), rfl⟩
  · go_ret
    have h : ¬ y < x := by omega
    have h' : ¬ x < y := by omega
    exact ⟨ret_int (by simp [cmpIo, h, h']), rfl⟩

theorem two_boxes (w : World) (a b : Array Value) (t : TypeId) :
    ((w.alloc (.cells a t)).alloc (.cells b t)).cell? ⟨w.heap.size, 0, none⟩ = a[0]? ∧ ((w.alloc (.cells a t)).alloc (.cells b t)).cell? ⟨w.heap.size, 1, none⟩ = a[1]? ∧
    ((w.alloc (.cells a t)).alloc (.cells b t)).cell? ⟨w.heap.size + 1, 0, none⟩ = b[0]? ∧ ((w.alloc (.cells a t)).alloc (.cells b t)).cell? ⟨w.heap.size + 1, 1, none⟩ = b[1]? ∧
    Below w.heap.size w ((w.alloc (.cells a t)).alloc (.cells b t)) := by
  have h1 : ∀ i, ((w.alloc (.cells a t)).alloc (.cells b t)).cell? ⟨w.heap.size, i, none⟩ = a[i]? := fun i => box_cell (bnew' (box_refl w _) _) i
  have h2 : ∀ i, ((w.alloc (.cells a t)).alloc (.cells b t)).cell? ⟨w.heap.size + 1, i, none⟩ = b[i]? := fun i => by
    have h := box_cell (box_refl (w.alloc (.cells a t)) (.cells b t)) i
    simp at h ⊢
  exact ⟨h1 0, h1 1, h2 0, h2 1, bnew (bnew (Below.refl _ _) _) _⟩
where
  bnew' {B : Nat} {a w' : World} (h : Below (B + 1) a w') (o : Obj) (hB : B + 1 ≤ w'.heap.size := by simp) : Below (B + 1) a (w'.alloc o) := h.alloc hB o

def keyF (n : Nat) : Value := .func (.func n) #[] #[]
/-- The captured keys. -/
def Keys (w : World) (kb ka : Nat) : Prop :=
  w.heap[kb]? = some (.cells #[.slice (some ⟨ka, 0, none⟩) 2 2] 224 (0, 0)) ∧ w.heap[ka]? = some (.cells #[keyF 158, keyF 159] 214 (0, 0))

def Held6 (w : World) (B : Nat) (t l t' l' : Int) (kb ka : Nat) : Prop :=
  w.cell? ⟨B, 0, none⟩ = some (.int .i64 t) ∧ w.cell? ⟨B, 1, none⟩ = some (.int .i64 l) ∧ w.cell? ⟨B + 1, 0, none⟩ = some (.int .i64 t') ∧ w.cell? ⟨B + 1, 1, none⟩ = some (.int .i64 l') ∧
  w.cell? ⟨kb, 0, none⟩ = some (.slice (some ⟨ka, 0, none⟩) 2 2) ∧ w.cell? ⟨ka, 0, none⟩ = some (.func (.func 158) #[] #[]) ∧ w.cell? ⟨ka, 1, none⟩ = some (.func (.func 159) #[] #[])

set_option maxHeartbeats 4000000 in
theorem cmpO_any (t l t' l' : Int) (kb ka : Nat) (w : World) (hk : Hid (Keys w kb ka)) :
    Calls Tryz.prog 170 #[.agg #[.int .i64 t, .int .i64 l], .agg #[.int .i64 t', .int .i64 l'], .pointer (some ⟨kb, 0, none⟩)] w fun e w' =>
      e = .returned (.int .i64 (cmpO ⟨t, l⟩ ⟨t', l'⟩)) ∧ Below w.heap.size w w' := by
  have k0 : w.cell? ⟨kb, 0, none⟩ = some (.slice (some ⟨ka, 0, none⟩) 2 2) := cell_of_row w kb 0 _ _ _ hk.out.1
  have k1 : w.cell? ⟨ka, 0, none⟩ = some (keyF 158) := cell_of_row w ka 0 _ _ _ hk.out.2
  have k2 : w.cell? ⟨ka, 1, none⟩ = some (keyF 159) := cell_of_row w ka 1 _ _ _ hk.out.2
  have b0 := World.block_lt_of_cell? _ _ k0
  have b1 := World.block_lt_of_cell? _ _ k1
  simp only at b0 b1
  unfold keyF at k1 k2
  go_enter Tryz.func170, Tryz.ntmps170
  go_wp2_with fail
  obtain ⟨c0, c1, c2, c3, hbW⟩ := two_boxes w #[.int .i64 t, .int .i64 l] #[.int .i64 t', .int .i64 l'] 102
  have k0' := (hbW.cell (World.block_lt_of_cell? _ _ k0)).trans k0
  have k1' := (hbW.cell (World.block_lt_of_cell? _ _ k1)).trans k1
  have k2' := (hbW.cell (World.block_lt_of_cell? _ _ k2)).trans k2
  simp only [List.getElem?_toArray, List.getElem?_cons_zero, List.getElem?_cons_succ] at c0 c1 c2 c3
  clear k0 k1 k2 hk
  generalize (w.alloc (.cells #[.int .i64 t, .int .i64 l] 102)).alloc (.cells #[.int .i64 t', .int .i64 l'] 102) = W at *
  go_loopw [11] (fun i wr => ∃ k : Nat, k ≤ 2 ∧ i = .int .i64 k ∧ Hid (k = 0 ∨ cmpIo t t' = 0) ∧ Hid (k ≤ 1 ∨ cmpIo l l' = 0) ∧ Held6 wr w.heap.size t l t' l' kb ka ∧ Below w.heap.size w wr) (fun i _ => 2 - (intOf i).toNat)
  case atStart => exact ⟨0, by omega, rfl, .inl rfl, .inl (by omega), ⟨c0, c1, c2, c3, k0', k1', k2'⟩, hbW⟩
  case round =>
    clear c0 c1 c2 c3 k0' k1' k2' hbW
    obtain ⟨k, hk, rfl, HK0, HK1, ⟨c0, c1, c2, c3, k0', k1', k2'⟩, hb⟩ := hrel
    rcases (show k = 0 ∨ k = 1 ∨ k = 2 from by omega) with rfl | rfl | rfl
    · have hz : Hid (cmpO ⟨t, l⟩ ⟨t', l'⟩ = if cmpIo t t' = 0 then cmpIo l l' else cmpIo t t') := rfl
      by_cases hc : cmpIo t t' = 0
      · have hc1 := is_err hc
        have HC := hide hc
        clear hc
        go_wp2_with fail
        have hb := hb.drew
        go_region_held3 (fun w' => w'.cell? ⟨w.heap.size, 0, none⟩ = some (.int .i64 t) ∧ w'.cell? ⟨w.heap.size, 1, none⟩ = some (.int .i64 l) ∧ w'.cell? ⟨w.heap.size + 1, 0, none⟩ = some (.int .i64 t') ∧ w'.cell? ⟨w.heap.size + 1, 1, none⟩ = some (.int .i64 l')) (first | exact ⟨c0, c1, c2, c3⟩) (first
          | (go_at_call 158; refine (key1_any _ _ _).mono ?_; rintro e w2 ⟨rfl, hb2⟩; have c0 := (hb2.cell (World.block_lt_of_cell? _ _ c0)).trans c0; have c1 := (hb2.cell (World.block_lt_of_cell? _ _ c1)).trans c1; have c2 := (hb2.cell (World.block_lt_of_cell? _ _ c2)).trans c2; have c3 := (hb2.cell (World.block_lt_of_cell? _ _ c3)).trans c3; have k0' := (hb2.cell (World.block_lt_of_cell? _ _ k0')).trans k0'; have k1' := (hb2.cell (World.block_lt_of_cell? _ _ k1')).trans k1'; have k2' := (hb2.cell (World.block_lt_of_cell? _ _ k2')).trans k2'; have hb := below_then hb hb2)
          | (go_at_call 159; refine (key2_any _ _ _).mono ?_; rintro e w2 ⟨rfl, hb2⟩; have c0 := (hb2.cell (World.block_lt_of_cell? _ _ c0)).trans c0; have c1 := (hb2.cell (World.block_lt_of_cell? _ _ c1)).trans c1; have c2 := (hb2.cell (World.block_lt_of_cell? _ _ c2)).trans c2; have c3 := (hb2.cell (World.block_lt_of_cell? _ _ c3)).trans c3; have k0' := (hb2.cell (World.block_lt_of_cell? _ _ k0')).trans k0'; have k1' := (hb2.cell (World.block_lt_of_cell? _ _ k1')).trans k1'; have k2' := (hb2.cell (World.block_lt_of_cell? _ _ k2')).trans k2'; have hb := below_then hb hb2)
          | (go_at_call 149; refine (compare_any _ _ _).mono ?_; rintro e w' ⟨rfl, rfl⟩))
        all_goals
          go_wp2_with fail
          go_roundw
          case rel => exact ⟨1, by omega, by go_num, .inr HC.out, .inl (by omega), ⟨c0, c1, c2, c3, k0', k1', k2'⟩, hb⟩
          case measure => simp [intOf]
      · have hc1 := not_err hc
        have HC := hide hc
        clear hc
        go_wp2_with fail
        have hb := hb.drew
        go_region_held3 (fun w' => w'.cell? ⟨w.heap.size, 0, none⟩ = some (.int .i64 t) ∧ w'.cell? ⟨w.heap.size, 1, none⟩ = some (.int .i64 l) ∧ w'.cell? ⟨w.heap.size + 1, 0, none⟩ = some (.int .i64 t') ∧ w'.cell? ⟨w.heap.size + 1, 1, none⟩ = some (.int .i64 l')) (first | exact ⟨c0, c1, c2, c3⟩) (first
          | (go_at_call 158; refine (key1_any _ _ _).mono ?_; rintro e w2 ⟨rfl, hb2⟩; have c0 := (hb2.cell (World.block_lt_of_cell? _ _ c0)).trans c0; have c1 := (hb2.cell (World.block_lt_of_cell? _ _ c1)).trans c1; have c2 := (hb2.cell (World.block_lt_of_cell? _ _ c2)).trans c2; have c3 := (hb2.cell (World.block_lt_of_cell? _ _ c3)).trans c3; have k0' := (hb2.cell (World.block_lt_of_cell? _ _ k0')).trans k0'; have k1' := (hb2.cell (World.block_lt_of_cell? _ _ k1')).trans k1'; have k2' := (hb2.cell (World.block_lt_of_cell? _ _ k2')).trans k2'; have hb := below_then hb hb2)
          | (go_at_call 159; refine (key2_any _ _ _).mono ?_; rintro e w2 ⟨rfl, hb2⟩; have c0 := (hb2.cell (World.block_lt_of_cell? _ _ c0)).trans c0; have c1 := (hb2.cell (World.block_lt_of_cell? _ _ c1)).trans c1; have c2 := (hb2.cell (World.block_lt_of_cell? _ _ c2)).trans c2; have c3 := (hb2.cell (World.block_lt_of_cell? _ _ c3)).trans c3; have k0' := (hb2.cell (World.block_lt_of_cell? _ _ k0')).trans k0'; have k1' := (hb2.cell (World.block_lt_of_cell? _ _ k1')).trans k1'; have k2' := (hb2.cell (World.block_lt_of_cell? _ _ k2')).trans k2'; have hb := below_then hb hb2)
          | (go_at_call 149; refine (compare_any _ _ _).mono ?_; rintro e w' ⟨rfl, rfl⟩))
        all_goals
          go_wp2_with fail
          go_ret
          exact ⟨ret_int (by rw [hz.out, if_neg HC.out]), hb⟩
    · have hz : Hid (cmpO ⟨t, l⟩ ⟨t', l'⟩ = cmpIo l l') := if_pos (HK0.out.resolve_left (by omega))
      by_cases hc : cmpIo l l' = 0
      · have hc1 := is_err hc
        have HC := hide hc
        clear hc
        go_wp2_with fail
        have hb := hb.drew
        go_region_held3 (fun w' => w'.cell? ⟨w.heap.size, 0, none⟩ = some (.int .i64 t) ∧ w'.cell? ⟨w.heap.size, 1, none⟩ = some (.int .i64 l) ∧ w'.cell? ⟨w.heap.size + 1, 0, none⟩ = some (.int .i64 t') ∧ w'.cell? ⟨w.heap.size + 1, 1, none⟩ = some (.int .i64 l')) (first | exact ⟨c0, c1, c2, c3⟩) (first
          | (go_at_call 158; refine (key1_any _ _ _).mono ?_; rintro e w2 ⟨rfl, hb2⟩; have c0 := (hb2.cell (World.block_lt_of_cell? _ _ c0)).trans c0; have c1 := (hb2.cell (World.block_lt_of_cell? _ _ c1)).trans c1; have c2 := (hb2.cell (World.block_lt_of_cell? _ _ c2)).trans c2; have c3 := (hb2.cell (World.block_lt_of_cell? _ _ c3)).trans c3; have k0' := (hb2.cell (World.block_lt_of_cell? _ _ k0')).trans k0'; have k1' := (hb2.cell (World.block_lt_of_cell? _ _ k1')).trans k1'; have k2' := (hb2.cell (World.block_lt_of_cell? _ _ k2')).trans k2'; have hb := below_then hb hb2)
          | (go_at_call 159; refine (key2_any _ _ _).mono ?_; rintro e w2 ⟨rfl, hb2⟩; have c0 := (hb2.cell (World.block_lt_of_cell? _ _ c0)).trans c0; have c1 := (hb2.cell (World.block_lt_of_cell? _ _ c1)).trans c1; have c2 := (hb2.cell (World.block_lt_of_cell? _ _ c2)).trans c2; have c3 := (hb2.cell (World.block_lt_of_cell? _ _ c3)).trans c3; have k0' := (hb2.cell (World.block_lt_of_cell? _ _ k0')).trans k0'; have k1' := (hb2.cell (World.block_lt_of_cell? _ _ k1')).trans k1'; have k2' := (hb2.cell (World.block_lt_of_cell? _ _ k2')).trans k2'; have hb := below_then hb hb2)
          | (go_at_call 149; refine (compare_any _ _ _).mono ?_; rintro e w' ⟨rfl, rfl⟩))
        all_goals
          go_wp2_with fail
          go_roundw
          case rel => exact ⟨2, by omega, by go_num, .inr (HK0.out.resolve_left (by omega)), .inr HC.out, ⟨c0, c1, c2, c3, k0', k1', k2'⟩, hb⟩
          case measure => simp [intOf]
      · have hc1 := not_err hc
        have HC := hide hc
        clear hc
        go_wp2_with fail
        have hb := hb.drew
        go_region_held3 (fun w' => w'.cell? ⟨w.heap.size, 0, none⟩ = some (.int .i64 t) ∧ w'.cell? ⟨w.heap.size, 1, none⟩ = some (.int .i64 l) ∧ w'.cell? ⟨w.heap.size + 1, 0, none⟩ = some (.int .i64 t') ∧ w'.cell? ⟨w.heap.size + 1, 1, none⟩ = some (.int .i64 l')) (first | exact ⟨c0, c1, c2, c3⟩) (first
          | (go_at_call 158; refine (key1_any _ _ _).mono ?_; rintro e w2 ⟨rfl, hb2⟩; have c0 := (hb2.cell (World.block_lt_of_cell? _ _ c0)).trans c0; have c1 := (hb2.cell (World.block_lt_of_cell? _ _ c1)).trans c1; have c2 := (hb2.cell (World.block_lt_of_cell? _ _ c2)).trans c2; have c3 := (hb2.cell (World.block_lt_of_cell? _ _ c3)).trans c3; have k0' := (hb2.cell (World.block_lt_of_cell? _ _ k0')).trans k0'; have k1' := (hb2.cell (World.block_lt_of_cell? _ _ k1')).trans k1'; have k2' := (hb2.cell (World.block_lt_of_cell? _ _ k2')).trans k2'; have hb := below_then hb hb2)
          | (go_at_call 159; refine (key2_any _ _ _).mono ?_; rintro e w2 ⟨rfl, hb2⟩; have c0 := (hb2.cell (World.block_lt_of_cell? _ _ c0)).trans c0; have c1 := (hb2.cell (World.block_lt_of_cell? _ _ c1)).trans c1; have c2 := (hb2.cell (World.block_lt_of_cell? _ _ c2)).trans c2; have c3 := (hb2.cell (World.block_lt_of_cell? _ _ c3)).trans c3; have k0' := (hb2.cell (World.block_lt_of_cell? _ _ k0')).trans k0'; have k1' := (hb2.cell (World.block_lt_of_cell? _ _ k1')).trans k1'; have k2' := (hb2.cell (World.block_lt_of_cell? _ _ k2')).trans k2'; have hb := below_then hb hb2)
          | (go_at_call 149; refine (compare_any _ _ _).mono ?_; rintro e w' ⟨rfl, rfl⟩))
        all_goals
          go_wp2_with fail
          go_ret
          exact ⟨ret_int (by rw [hz.out]), hb⟩
    · have hz : Hid (cmpO ⟨t, l⟩ ⟨t', l'⟩ = 0) := (if_pos (HK0.out.resolve_left (by omega))).trans (HK1.out.resolve_left (by omega))
      go_wp2_with fail
      go_ret
      exact ⟨ret_int hz.out.symm, hb⟩

end Go.Proofs.YtnigfddanoaonaaGreat

set_option linter.unusedVariables false
namespace Go.Proofs.YtnigfddanoaonaaGreat
open Go.RowKit

def flatO (d : List Out) : List Value := d.flatMap fun o => [.int .i64 o.dst, .int .i64 o.letter]
theorem flatO_len (d : List Out) : (flatO d).length = d.length * 2 := by
  induction d with
  | nil => rfl
  | cons x r ih => simp only [flatO, List.flatMap_cons, List.length_append, List.length_cons, List.length_nil] at *; omega
theorem flatO_get {d : List Out} {i : Nat} {t l : Int} (h : d[i]? = some ⟨t, l⟩) : (flatO d)[i * 2]? = some (.int .i64 t) ∧ (flatO d)[i * 2 + 1]? = some (.int .i64 l) := by
  induction d generalizing i with
  | nil => simp at h
  | cons x r ih =>
    match i, h with
    | 0, h =>
      simp at h
      subst h
      exact ⟨rfl, rfl⟩
    | i + 1, h =>
      have h2 := ih (by simpa using h)
      rw [show (i + 1) * 2 = i * 2 + 1 + 1 from by omega]
      exact ⟨by simpa [flatO] using h2.1, by simpa [flatO] using h2.2⟩
theorem flatO_set (d : List Out) (i : Nat) (t l : Int) : flatO (d.set i ⟨t, l⟩) = ((flatO d).set (i * 2) (.int .i64 t)).set (i * 2 + 1) (.int .i64 l) := by
  induction d generalizing i with
  | nil => simp [flatO]
  | cons x r ih =>
    match i with
    | 0 => simp [flatO]
    | i + 1 =>
      rw [show (i + 1) * 2 = i * 2 + 1 + 1 from by omega]
      have h2 := ih i
      simp only [flatO] at h2
      simp [flatO, h2]

def RowO (w : World) (g : Nat) (d : List Out) (rest : List Value) : Prop := w.heap[g]? = some (.cells (flatO d ++ rest).toArray 102 (0, 0))

section
variable {w w' : World} {g : Nat} {d : List Out} {rest : List Value}
theorem RowO.lt (h : RowO w g d rest) : g < w.heap.size := (Array.getElem?_eq_some_iff.1 h).1
theorem RowO.cells (h : RowO w g d rest) {i : Nat} {t l : Int} (hi : d[i]? = some ⟨t, l⟩) : w.cell? ⟨g, i * 2, none⟩ = some (.int .i64 t) ∧ w.cell? ⟨g, i * 2 + 1, none⟩ = some (.int .i64 l) := by
  have hl : i < d.length := (List.getElem?_eq_some_iff.1 hi).1
  have hg := flatO_get hi
  rw [cell_of_row w g _ _ _ _ h, cell_of_row w g _ _ _ _ h]
  simp only [List.getElem?_toArray]
  rw [List.getElem?_append_left (by rw [flatO_len]; omega), List.getElem?_append_left (by rw [flatO_len]; omega)]
  exact hg
theorem RowO.free (h : RowO w g d rest) (i : Nat) : w.frozen? ⟨g, i, none⟩ = false := frozen_of_row w g i _ _ h
theorem RowO.keep (h : RowO w g d rest) (hb : w'.heap[g]? = w.heap[g]?) : RowO w' g d rest := hb.trans h
theorem RowO.below (h : RowO w g d rest) (hb : Below w.heap.size w w') : RowO w' g d rest := h.keep (hb.block g h.lt)
theorem RowO.put (h : RowO w g d rest) {i : Nat} (hi : i < d.length) (t l : Int) : RowO ((w.setCell ⟨g, i * 2, none⟩ (.int .i64 t)).setCell ⟨g, i * 2 + 1, none⟩ (.int .i64 l)) g (d.set i ⟨t, l⟩) rest := by
  have h1 := heap_setCell_same w g (i * 2) _ _ (.int .i64 t) h
  have h2 := heap_setCell_same (w.setCell ⟨g, i * 2, none⟩ (.int .i64 t)) g (i * 2 + 1) _ _ (.int .i64 l) h1
  unfold RowO
  rw [h2, flatO_set]
  congr 2
  rw [List.setIfInBounds_toArray, List.setIfInBounds_toArray, List.set_append_left _ _ (by rw [flatO_len]; omega), List.set_append_left _ _ (by rw [List.length_set, flatO_len]; omega)]
end

theorem Keys.ne {w : World} {kb ka g : Nat} {d : List Out} {rest : List Value} (hk : Keys w kb ka) (h : RowO w g d rest) : kb ≠ g ∧ ka ≠ g := by
  constructor
  · rintro rfl
    have := hk.1.symm.trans h
    simp at this
  · rintro rfl
    have := hk.2.symm.trans h
    simp at this
theorem Keys.grown {w w' : World} {kb ka g : Nat} (hk : Keys w kb ka) (hne : kb ≠ g ∧ ka ≠ g) (hg : w.grownBy w' (some g)) : Keys w' kb ka :=
  ⟨(hg.block kb (Array.getElem?_eq_some_iff.1 hk.1).1 (fun e => hne.1 (by injection e))).trans hk.1, (hg.block ka (Array.getElem?_eq_some_iff.1 hk.2).1 (fun e => hne.2 (by injection e))).trans hk.2⟩

theorem grown_refl (w : World) (r : Option Nat) : w.grownBy w r := ⟨rfl, rfl, rfl, Nat.le_refl _, fun _ _ _ => rfl⟩
theorem grown_below {a w w' : World} {r : Option Nat} (h : a.grownBy w r) (hb : Below w.heap.size w w') : a.grownBy w' r :=
  ⟨hb.os.trans h.os, hb.tape.trans h.tape, hb.output.trans h.output, Nat.le_trans h.size hb.size, fun k hk hne => (hb.block k (Nat.lt_of_lt_of_le hk h.size)).trans (h.block k hk hne)⟩
theorem grown_trans {a w w' : World} {r : Option Nat} (h : a.grownBy w r) (k : w.grownBy w' r) : a.grownBy w' r :=
  ⟨k.os.trans h.os, k.tape.trans h.tape, k.output.trans h.output, Nat.le_trans h.size k.size, fun i hi hne => (k.block i (Nat.lt_of_lt_of_le hi h.size) hne).trans (h.block i hi hne)⟩
theorem grown_set {a w : World} {g : Nat} (h : a.grownBy w (some g)) (i : Nat) (u : Value) : a.grownBy (w.setCell ⟨g, i, none⟩ u) (some g) :=
  ⟨h.os, h.tape, h.output, by simpa [World.setCell] using h.size, fun k hk hne => (Below.heap_setCell w ⟨g, i, none⟩ u k (fun e => hne (by rw [e]))).trans (h.block k hk hne)⟩
theorem grown_drew {a w : World} {r : Option Nat} (h : a.grownBy w r) : a.grownBy w.drew r := ⟨h.os, h.tape, h.output, h.size, h.block⟩
theorem grown_drewN {a w : World} {r : Option Nat} (h : a.grownBy w r) (n : Nat) : a.grownBy (w.drewN n) r := ⟨h.os, h.tape, h.output, h.size, h.block⟩

theorem swap_adj (A B : List Out) (x y : Out) : ((A ++ y :: x :: B).set (A.length + 1) y).set A.length x = A ++ x :: y :: B := by
  rw [List.set_append_right _ _ (by omega), List.set_append_right _ _ (by omega)]
  simp

def cmpFun (kb : Nat) : Value := .func (.func 170) #[] #[.pointer (some ⟨kb, 0, none⟩)]

set_option maxRecDepth 100000 in
set_option maxHeartbeats 4000000 in
theorem insSort_any (X M Y : List Out) (rest : List Value) (g kb ka n a b c : Nat) (w : World) (hr : RowO w g (X ++ (M ++ Y)) rest) (hk : Keys w kb ka) (hn : Hid (n = (X ++ (M ++ Y)).length)) (ha : Hid (a = X.length)) (hb : Hid (b = X.length + M.length)) (hlen : n ≤ 1000000000000000) :
    Calls Tryz.prog 178 #[.slice (some ⟨g, 0, none⟩) n c, .int .i64 a, .int .i64 b, .func (.func 170) #[] #[.pointer (some ⟨kb, 0, none⟩)]] w fun e w' =>
      e = .returned (.tuple #[]) ∧ RowO w' g (X ++ (isort M ++ Y)) rest ∧ w.grownBy w' (some g) := by
  have hne := hk.ne hr
  have hbn : a ≤ b ∧ b ≤ n := by have h1 := hn.out; have h2 := ha.out; have h3 := hb.out; simp at h1; omega
  have hbn1 := hbn.1
  have hbn2 := hbn.2
  clear hbn
  cases M with
  | nil =>
    have hab : b = a := by have h2 := ha.out; have h3 := hb.out; simp at h3; omega
    subst hab
    clear hbn1
    go_enter Tryz.func178, Tryz.ntmps178
    go_wp2_with fail
    refine wp_loop_rounds 1 ?_
    rw [rounds_succ]
    go_wp2_with fail
    go_end0
    exact ⟨rfl, hr, grown_refl _ _⟩
  | cons m M =>
  go_enter Tryz.func178, Tryz.ntmps178
  go_wp2_with fail
  go_loopw [8] (fun i wr => ∃ (k : Nat) (S R : List Out), i = .int .i64 k ∧ k ≤ n ∧ a < k ∧ Hid (k = a + S.length) ∧ Hid (Srt S) ∧ Hid ((S ++ R).Perm (m :: M)) ∧ Hid (b = a + (S ++ R).length) ∧ RowO wr g (X ++ (S ++ (R ++ Y))) rest ∧ w.grownBy wr (some g)) (fun i _ => n + 1 - (intOf i).toNat)
  case atStart =>
    have h1 := hn.out
    have h2 := ha.out
    have h3 := hb.out
    simp at h1 h3
    refine ⟨a + 1, [m], M, by go_num, by omega, by omega, rfl, List.pairwise_singleton _ _, List.Perm.refl _, ?_, by simpa using hr, grown_refl _ _⟩
    show _ = _
    simp; omega
  case round =>
    obtain ⟨k, S, R, rfl, hkn, hka, HK, HS, HP, HB, hrr, hgr⟩ := hrel
    cases R with
    | nil =>
      have hlt : ¬ k < b := by have h1 := HB.out; have h2 := HK.out; simp at h1; omega
      go_wp2_with fail
      go_end0
      refine ⟨rfl, ?_, hgr⟩
      have h1 := HP.out
      rw [List.append_nil] at h1
      rw [← isort_of HS.out h1]
      simpa using hrr
    | cons x R =>
      have hlt : k < b := by have h1 := HB.out; have h2 := HK.out; simp at h1; omega
      go_wp2_with fail
      obtain ⟨wo, rfl⟩ : ∃ wo : World, wo = wr := ⟨_, rfl⟩
      go_loopw [9] (fun i wr => ∃ (j : Nat) (P Q : List Out), i = .int .i64 j ∧ a ≤ j ∧ j ≤ k ∧ Hid (j = a + P.length) ∧ Hid (S = P ++ Q) ∧ Hid (∀ q ∈ Q, leO x q) ∧ RowO wr g (X ++ (P ++ x :: (Q ++ (R ++ Y)))) rest ∧ w.grownBy wr (some g)) (fun i _ => (intOf i).toNat)
      case atStart =>
        exact ⟨k, S, [], rfl, by omega, by omega, HK, by show _ = _; simp, by show ∀ q ∈ _, _; simp, by simpa using hrr, hgr⟩
      case round =>
        obtain ⟨j, P, Q, rfl, haj, hjk, HJ, HPQ, HQ, hrj, hgj⟩ := hrel
        have out : ∀ wx, RowO wx g (X ++ (P ++ x :: (Q ++ (R ++ Y)))) rest → w.grownBy wx (some g) → Srt (P ++ x :: Q) →
            ∃ (k2 : Nat) (S R : List Out), Value.int .i64 ((k : Int) + 1) = .int .i64 k2 ∧ k2 ≤ n ∧ a < k2 ∧ Hid (k2 = a + S.length) ∧ Hid (Srt S) ∧ Hid ((S ++ R).Perm (m :: M)) ∧ Hid (b = a + (S ++ R).length) ∧ RowO wx g (X ++ (S ++ (R ++ Y))) rest ∧ w.grownBy wx (some g) := by
          intro wx hx hg hsr
          have h1 := HPQ.out
          have h2 := HK.out
          have h3 := HB.out
          subst h1
          simp at h2 h3
          refine ⟨k + 1, P ++ x :: Q, R, by go_num, by omega, by omega, by show _ = _; simp; omega, hsr, ?_, by show _ = _; simp; omega, by simpa using hx, hg⟩
          show List.Perm _ _
          refine List.Perm.trans ?_ HP.out
          simp only [List.append_assoc, List.cons_append]
          exact List.Perm.append_left P (List.perm_middle.symm)
        have OUT := hide out
        clear out
        by_cases hj : a < j
        · have hp : P ≠ [] := by intro h; have := HJ.out; subst h; simp at this; omega
          obtain ⟨P', y, rfl⟩ : ∃ P' y, P = P' ++ [y] := ⟨P.dropLast, P.getLast hp, (List.dropLast_concat_getLast hp).symm⟩
          clear hp
          obtain ⟨i, rfl⟩ : ∃ i, j = i + 1 := ⟨j - 1, by omega⟩
          have hi : Hid (i = (X ++ P').length) := by have h1 := HJ.out; have h2 := ha.out; show _ = _; simp at h1 ⊢; omega
          have hrA : RowO wr g ((X ++ P') ++ y :: x :: (Q ++ (R ++ Y))) rest := by simpa using hrj
          have hyd : ((X ++ P') ++ y :: x :: (Q ++ (R ++ Y)))[i]? = some y := by rw [hi.out, List.getElem?_append_right (Nat.le_refl _)]; simp
          have hxd : ((X ++ P') ++ y :: x :: (Q ++ (R ++ Y)))[i + 1]? = some x := by rw [hi.out, List.getElem?_append_right (by omega)]; simp
          obtain ⟨yt, yl⟩ := y
          obtain ⟨xt, xl⟩ := x
          obtain ⟨cy0, cy1⟩ := hrA.cells hyd
          obtain ⟨cx0, cx1⟩ := hrA.cells hxd
          have hkw := hide ((hk.grown hne hgj).grown hne (grown_drew (grown_refl wr (some g))))
          clear hyd hxd hrj hrr
          have hgd : decide ((a : Int) < (i : Int) + 1) = true := by simp; omega
          have b1 : 0 ≤ (i : Int) + 1 := by omega
          have b2 : (i : Int) + 1 < (n : Int) := by omega
          have b3 : 0 ≤ (i : Int) := by omega
          have b4 : (i : Int) < (n : Int) := by omega
          have b5 : ((i : Int) + 1).toNat = i + 1 := by omega
          have b6 : IntKind.i64.wrap (i : Int) = (i : Int) := IntWalk.i64_in _ (by omega)
          by_cases hle : leO ⟨yt, yl⟩ ⟨xt, xl⟩
          · have hcm : 0 ≤ cmpO ⟨xt, xl⟩ ⟨yt, yl⟩ := by have := (cmpO_neg (a := ⟨xt, xl⟩) (b := ⟨yt, yl⟩)); simp only [hle, not_true, iff_false] at this; omega
            have HLE := hide hle
            clear hle
            go_wp2_with fail
            go_still_tail 14, (by kernel_rfl)
            change wpList _ _ _ _ _ wr.drew
            clear b1 b2 b3 b4 b5 b6
            go_wp2_with fail
            refine (cmpO_any xt xl yt yl kb ka wr.drew hkw).mono ?_
            rintro e w2 ⟨rfl, hb2⟩
            go_wp2_with fail
            go_roundw
            case rel =>
              refine OUT.out _ (by have h := RowO.below (w := wr.drew) hrA hb2; simpa using h) (grown_below (grown_drew hgj) hb2) ?_
              have h2 := HS.out
              rw [HPQ.out] at h2
              obtain ⟨h3, h4, h5⟩ := List.pairwise_append.1 h2
              refine List.pairwise_append.2 ⟨h3, List.pairwise_cons.2 ⟨HQ.out, h4⟩, fun p hp q hq => ?_⟩
              rcases List.mem_cons.1 hq with rfl | hq
              · rcases List.mem_append.1 hp with hp | hp
                · have := (List.pairwise_append.1 h3).2.2 p hp _ (List.mem_singleton.2 rfl)
                  exact leO_trans this HLE.out
                · rw [List.mem_singleton.1 hp]; exact HLE.out
              · exact h5 p hp q hq
            case measure => simp [intOf]; omega
          · have hcm : cmpO ⟨xt, xl⟩ ⟨yt, yl⟩ < 0 := cmpO_neg.2 hle
            have HLE := hide hle
            clear hle
            go_wp2_with fail
            go_still_tail 14, (by kernel_rfl)
            change wpList _ _ _ _ _ wr.drew
            clear b1 b2 b3 b4 b5 b6
            go_wp2_with fail
            refine (cmpO_any xt xl yt yl kb ka wr.drew hkw).mono ?_
            rintro e w2 ⟨rfl, hb2⟩
            have hr2 := RowO.below (w := wr.drew) hrA hb2
            have hg2 := grown_below (grown_drew hgj) hb2
            have cy0 := (hb2.cell (World.block_lt_of_cell? _ _ cy0)).trans cy0
            have cy1 := (hb2.cell (World.block_lt_of_cell? _ _ cy1)).trans cy1
            have cx0 := (hb2.cell (World.block_lt_of_cell? _ _ cx0)).trans cx0
            have cx1 := (hb2.cell (World.block_lt_of_cell? _ _ cx1)).trans cx1
            have f0 := hr2.free (i * 2)
            have f1 := hr2.free (i * 2 + 1)
            have f2 := hr2.free ((i + 1) * 2)
            have f3 := hr2.free ((i + 1) * 2 + 1)
            clear hb2
            go_wp2_with fail
            go_region
            have hr3 := RowO.put (RowO.put (w := w2) hr2 (i := i + 1) (by rw [hi.out]; simp <;> omega) yt yl) (i := i) (by rw [hi.out]; simp <;> omega) xt xl
            have hg3 := grown_set (grown_set (grown_set (grown_set hg2 ((i + 1) * 2) (.int .i64 yt)) ((i + 1) * 2 + 1) (.int .i64 yl)) (i * 2) (.int .i64 xt)) (i * 2 + 1) (.int .i64 xl)
            have hsw : (((X ++ P') ++ ⟨yt, yl⟩ :: ⟨xt, xl⟩ :: (Q ++ (R ++ Y))).set (i + 1) ⟨yt, yl⟩).set i ⟨xt, xl⟩ = (X ++ P') ++ ⟨xt, xl⟩ :: ⟨yt, yl⟩ :: (Q ++ (R ++ Y)) := by rw [hi.out]; exact swap_adj _ _ _ _
            rw [hsw] at hr3
            rw [show (X ++ P') ++ ⟨xt, xl⟩ :: ⟨yt, yl⟩ :: (Q ++ (R ++ Y)) = X ++ (P' ++ ⟨xt, xl⟩ :: ((⟨yt, yl⟩ :: Q) ++ (R ++ Y))) from by simp] at hr3
            have hr4 := hr3
            have hg4 := grown_drew hg3
            clear hsw hr2 hr3 hg3 hg2 f0 f1 f2 f3 cy0 cy1 cx0 cx1 hrA hkw
            go_wp2_with fail
            go_roundw
            case rel =>
              refine ⟨i, P', ⟨yt, yl⟩ :: Q, by go_num, by omega, by omega, ?_, ?_, ?_, hr4, hg4⟩
              · have h1 := HJ.out
                show _ = _
                simp at h1; omega
              · have h1 := HPQ.out
                show _ = _
                simpa using h1
              · intro q hq
                rcases List.mem_cons.1 hq with rfl | hq
                · exact (leO_total _ _).resolve_right HLE.out
                · exact HQ.out q hq
            case measure => simp [intOf]
        · have hd : decide ((a : Int) < (j : Int)) = false := by simp; omega
          go_wp2_with fail
          go_quiet (fail)
          go_wp2_with fail
          go_roundw
          case rel => 
            refine OUT.out _ hrj (grown_drewN hgj _) ?_
            have h1 := HJ.out
            have : P = [] := List.eq_nil_of_length_eq_zero (by omega)
            subst this
            have h2 := HS.out
            rw [HPQ.out] at h2
            exact List.pairwise_cons.2 ⟨HQ.out, h2⟩
          case measure => simp [intOf]; omega

end Go.Proofs.YtnigfddanoaonaaGreat

set_option linter.unusedVariables false
namespace Go.Proofs.YtnigfddanoaonaaGreat
open Go.RowKit

theorem outInfo : (Tryz.prog.info? 102).map (fun i => (i.zero, i.size, i.bytes)) = some (some (.agg #[.int .i64 0, .int .i64 0]), 2, 16) := by kernel_rfl

def ReadPost (w : World) (rs : List (List Rul)) (s : Int) (word : List Int) (e : Ending) (w' : World) : Prop :=
  ∃ v, e = .returned (.tuple #[.int .i64 (readSpec rs s word).1, v]) ∧ OwnS outR 2 w.heap.size 102 Non w' v (readSpec rs s word).2 ∧ Below w.heap.size w w'

set_option maxRecDepth 100000 in
set_option maxHeartbeats 1000000 in
theorem read_any (S L : Int) (rs : List (List Rul)) (oa : Option Addr) (c : Nat) (s0 : Int) (word : List Int) (ob : Option Addr) (d : Nat) (F G : Foot) (w : World) (hs : SliceR (slcR ruleR 2) 1 F w oa rs)
    (hw : SliceR intR 1 G w ob word) (hV : Hid (checkErr ⟨S, L, rs⟩ 12 = 0)) (hS : 0 ≤ s0 ∧ s0 < S) (hL : Hid (lettersErr L word = 0)) (hlen : word.length ≤ 1000000) :
    Calls Tryz.prog 136 #[.agg #[.int .i64 S, .int .i64 L, .slice oa rs.length c], .int .i64 s0, .slice ob word.length d] w (ReadPost w rs s0 word) := by
  obtain ⟨n0, rfl⟩ := Int.eq_ofNat_of_zero_le hS.1
  have hS2 : n0 < rs.length := by have := (check_zero hV.out).2.2.2.1; simp at this; omega
  clear hS
  have HL16 : Hid ((rs.length : Int) = S) := (check_zero hV.out).2.2.2.1
  go_enter Tryz.func136, Tryz.ntmps136
  go_wp2_with fail
  go_loopw [1, 8, 14] (fun sv v i wr => ∃ (n k : Nat) (out : List Out), n < rs.length ∧ k ≤ word.length ∧ sv = .int .i64 n ∧ i = .int .i64 k ∧ out.length ≤ 16 * k ∧
      Hid (readSpec rs n0 word = ((readSpec rs (n : Int) (word.drop k)).1, out ++ (readSpec rs (n : Int) (word.drop k)).2)) ∧
      OwnS outR 2 (w.heap.size + 1) 102 Non wr v out ∧
      Below (w.heap.size + 1) (w.alloc (.cells #[.int .i64 S, .int .i64 L, .slice oa rs.length c] 89)) wr) (fun _ _ i _ => word.length - (intOf i).toNat)
  case atStart => exact ⟨n0, 0, [], hS2, by omega, rfl, rfl, by simp, by show _ = _; simp, OwnS.nil _ _ _ _ _ _, box_refl _ _⟩
  case round =>
    obtain ⟨n, k, out, hn, hk, rfl, rfl, hol, HE, hown, hb⟩ := hrel
    have d2 := box_cell hb 2
    simp at d2
    have hsz : w.heap.size < wr.heap.size := box_lt hb
    by_cases hlt : k < word.length
    · obtain ⟨x, hd, hx, _, b1, off1, rfl, _, c1⟩ := (hw.below intR_ok (below_box hb)).int_at hlt
      obtain ⟨hx0, hxL⟩ := letters_at hL.out hx
      obtain ⟨a, rfl⟩ := Int.eq_ofNat_of_zero_le hx0
      obtain ⟨row, _, hrow, b2, off2, oa3, c3, rfl, _, c2, _, _, hsr⟩ := (hs.below rowR_ok (below_box hb)).slc_at hn
      have hrl := valid_row hV.out hrow
      have ha : a < row.length := by simp at hrl; omega
      obtain ⟨nx, sent, _, hru, _, b4, off4, oa5, c5, rfl, _, c40, c41, _, _, hss⟩ := hsr.rule_at ha
      have hvr := valid_rule hV.out hrow hru
      obtain ⟨m, rfl⟩ := Int.eq_ofNat_of_zero_le hvr.1.1
      have hmlt : m < rs.length := by have h1 := hvr.1.2; have h2 := HL16.out; simp at h1; omega
      have hs16 : sent.length ≤ 16 := hvr.2.1
      have HE2 := hide (read_step HE.out hd hrow hru)
      have hfin : (out ++ sent).length ≤ 16 * (k + 1) := by simp; omega
      clear hd hx hrow hru hrl hvr hw hs hsr hx0 hxL HE
      go_wp2_with (at_builtin; refine wpList_append_rep rfl (.tmp 26) (.tmp 28) 97 rfl (w.heap.size + 1) 102 _ 2 16 Tryz.underlying97 outInfo rfl (by decide) outR_ok Non F u8 out rfl (hown.new outR_ok _) oa5 c5 sent rfl (hss.below outR_ok (bnew (Below.refl _ _) _)) (fun _ _ h => h) (fun _ h => h.elim) (by omega) (by omega) (by simp; omega) ?_; intro v' w1 ho hb1 hg; have cv := hown.boxed hg 0; simp at cv)
      go_roundw
      case rel => exact ⟨m, k + 1, out ++ sent, hmlt, by omega, rfl, by go_num, hfin, HE2, ho, (box_new hb (by simp) _).trans hb1⟩
      case measure => simp [intOf]; omega
    · have HE3 := hide (read_end HE.out (by omega))
      clear HE
      go_wp2_with fail
      go_ret2
      exact ⟨u8, by rw [HE3.out]; rfl, by rw [HE3.out]; exact hown.rebase (by omega), below_box hb⟩

set_option maxRecDepth 100000 in
set_option maxHeartbeats 1000000 in
theorem rread_any (S L : Int) (rs : List (List Rul)) (oa : Option Addr) (c : Nat) (s0 : Int) (word : List Int) (ob : Option Addr) (d : Nat) (F G : Foot) (w : World) (hs : SliceR (slcR ruleR 2) 1 F w oa rs)
    (hw : SliceR intR 1 G w ob word) (hV : Hid (checkErr ⟨S, L, rs⟩ 12 = 0)) (hS : 0 ≤ s0 ∧ s0 < S) (hL : Hid (lettersErr L word = 0)) (hlen : word.length ≤ 1000000) :
    Calls Tryz.prog 143 #[.agg #[.int .i64 S, .int .i64 L, .slice oa rs.length c], .int .i64 s0, .slice ob word.length d] w (ReadPost w rs s0 word) := by
  obtain ⟨n0, rfl⟩ := Int.eq_ofNat_of_zero_le hS.1
  have hS2 : n0 < rs.length := by have := (check_zero hV.out).2.2.2.1; simp at this; omega
  clear hS
  have HL16 : Hid ((rs.length : Int) = S) := (check_zero hV.out).2.2.2.1
  go_enter Tryz.func143, Tryz.ntmps143
  go_wp2_with fail
  go_loopw [1, 8, 9] (fun sv v i wr => ∃ (n k : Nat) (out : List Out), n < rs.length ∧ k ≤ word.length ∧ sv = .int .i64 n ∧ i = .int .i64 k ∧ out.length ≤ 16 * k ∧
      Hid (readSpec rs n0 word = ((readSpec rs (n : Int) (word.drop k)).1, out ++ (readSpec rs (n : Int) (word.drop k)).2)) ∧
      OwnS outR 2 (w.heap.size + 1) 102 Non wr v out ∧
      Below (w.heap.size + 1) (w.alloc (.cells #[.int .i64 S, .int .i64 L, .slice oa rs.length c] 89)) wr) (fun _ _ i _ => word.length - (intOf i).toNat)
  case atStart => exact ⟨n0, 0, [], hS2, by omega, rfl, rfl, by simp, by show _ = _; simp, OwnS.nil _ _ _ _ _ _, box_refl _ _⟩
  case round =>
    obtain ⟨n, k, out, hn, hk, rfl, rfl, hol, HE, hown, hb⟩ := hrel
    have d2 := box_cell hb 2
    simp at d2
    have hsz : w.heap.size < wr.heap.size := box_lt hb
    by_cases hlt : k < word.length
    · obtain ⟨x, hd, hx, _, b1, off1, rfl, _, c1⟩ := (hw.below intR_ok (below_box hb)).int_at hlt
      obtain ⟨hx0, hxL⟩ := letters_at hL.out hx
      obtain ⟨a, rfl⟩ := Int.eq_ofNat_of_zero_le hx0
      obtain ⟨row, _, hrow, b2, off2, oa3, c3, rfl, _, c2, _, _, hsr⟩ := (hs.below rowR_ok (below_box hb)).slc_at hn
      have hrl := valid_row hV.out hrow
      have ha : a < row.length := by simp at hrl; omega
      obtain ⟨nx, sent, _, hru, _, b4, off4, oa5, c5, rfl, _, c40, c41, _, _, hss⟩ := hsr.rule_at ha
      have hvr := valid_rule hV.out hrow hru
      obtain ⟨m, rfl⟩ := Int.eq_ofNat_of_zero_le hvr.1.1
      have hmlt : m < rs.length := by have h1 := hvr.1.2; have h2 := HL16.out; simp at h1; omega
      have hs16 : sent.length ≤ 16 := hvr.2.1
      have HE2 := hide (read_step HE.out hd hrow hru)
      have hfin : (out ++ sent).length ≤ 16 * (k + 1) := by simp; omega
      clear hd hx hrow hru hrl hvr hw hs hsr hx0 hxL HE
      go_wp2_with fail
      have l1 := World.block_lt_of_cell? _ _ c1
      have l2 := World.block_lt_of_cell? _ _ c2
      have l4 := World.block_lt_of_cell? _ _ c40
      simp only at l1 l2 l4
      go_region
      go_wp2_with (at_builtin; refine wpList_append_rep rfl (.tmp 30) (.tmp 32) 97 rfl (w.heap.size + 1) 102 _ 2 16 Tryz.underlying97 outInfo rfl (by decide) outR_ok Non F u8 out rfl ((hown.draw outR_ok).new outR_ok _) oa5 c5 sent rfl ((hss.keep (w' := wr.drew) outR_ok (fun _ _ _ => rfl)).below outR_ok (bnew (Below.refl _ _) _)) (fun _ _ h => h) (fun _ h => h.elim) (by omega) (by omega) (by simp; omega) ?_; intro v' w1 ho hb1 hg)
      go_roundw
      case rel => exact ⟨m, k + 1, out ++ sent, hmlt, by omega, rfl, by go_num, hfin, HE2, ho, (box_new hb.drew (by simp) _).trans hb1⟩
      case measure => simp [intOf]; omega
    · have HE3 := hide (read_end HE.out (by omega))
      clear HE
      go_wp2_with fail
      go_ret2
      exact ⟨u8, by rw [HE3.out]; rfl, by rw [HE3.out]; exact hown.rebase (by omega), below_box hb⟩

end Go.Proofs.YtnigfddanoaonaaGreat

set_option linter.unusedVariables false
namespace Go.Proofs.YtnigfddanoaonaaGreat
open Go.RowKit


set_option maxHeartbeats 400000 in
theorem cloneOut_any (l : List Out) (oa : Option Addr) (c : Nat) (F : Foot) (w : World) (hs : SliceR outR 2 F w oa l) (hc : l.length ≤ c) (hc2 : l.length ≤ 1000000000000) :
    Calls Tryz.prog 95 #[.slice oa l.length c] w fun e w' => ∃ v, e = .returned v ∧ OwnS outR 2 w.heap.size 102 Non w' v l ∧ Below w.heap.size w w' := by
  cases oa with
  | none =>
    have hl : l = [] := by
      cases l with
      | nil => rfl
      | cons x r => obtain ⟨b, off, cs, h, _⟩ := hs 0 x rfl; cases h
    subst hl
    have hq : ∀ w : World, (binOp .eql 97 (.slice none 0 c) (.slice none 0 0)).run Tryz.prog w = .ok (.bool true) w := fun w => Lib.run_eql_slice_nil w _ 102 none 0 c 0 0 Tryz.underlying97
    go_enter Tryz.func95, Tryz.ntmps95
    go_wp2_with fail
    go_ret
    exact ⟨_, rfl, OwnS.nil _ _ _ _ _ _, Below.refl _ _⟩
  | some ad =>
    have hq : ∀ w : World, (binOp .eql 97 (.slice (some ad) l.length c) (.slice none 0 0)).run Tryz.prog w = .ok (.bool false) w := fun w => Lib.run_eql_slice_nil w _ 102 (some ad) l.length c 0 0 Tryz.underlying97
    go_enter Tryz.func95, Tryz.ntmps95
    go_wp2_with (at_builtin; refine wpList_append_rep rfl (.tmp 5) (.tmp 6) 97 rfl w.heap.size 102 _ 2 16 Tryz.underlying97 outInfo rfl (by decide) outR_ok Non F (.slice (some ⟨w.heap.size, 0, none⟩) 0 0) [] rfl (OwnS.made _ _ _ _ _) (some ad) c l rfl (hs.below outR_ok (bnew (Below.refl _ _) _)) (fun _ _ h => h) (fun _ h => h.elim) (by simp; omega) (by simp; omega) (by simp) ?_; intro v' w1 ho hb1 hg)
    go_ret
    exact ⟨_, rfl, by simpa using ho, (bnew (Below.refl _ _) _).trans hb1⟩

end Go.Proofs.YtnigfddanoaonaaGreat

set_option linter.unusedVariables false
namespace Go.Proofs.YtnigfddanoaonaaGreat
open Go.RowKit

theorem flat_of_chunks : ∀ {l : List Out} {cells : List Value}, cells.length = l.length * 2 → (∀ i x, l[i]? = some x → chunk 2 i cells = [.int .i64 x.dst, .int .i64 x.letter]) → cells = flatO l
  | [], cells, h, _ => List.eq_nil_of_length_eq_zero (by simpa using h)
  | x :: r, [], h, _ => by simp at h
  | x :: r, [_], h, _ => by simp at h; omega
  | x :: r, a :: b :: cells, h, hc => by
    have h0 := hc 0 x rfl
    simp [chunk] at h0
    have hr := flat_of_chunks (l := r) (cells := cells) (by simp at h; omega) fun i y hy => by
      have := hc (i + 1) y (by simpa using hy)
      unfold chunk at this ⊢
      rw [show (i + 1) * 2 = i * 2 + 1 + 1 from by omega] at this
      simpa using this
    rw [h0.1, h0.2, hr]
    rfl
theorem chunks_of_flat {l : List Out} {i : Nat} {x : Out} (h : l[i]? = some x) : chunk 2 i (flatO l) = [.int .i64 x.dst, .int .i64 x.letter] := by
  induction l generalizing i with
  | nil => simp at h
  | cons y r ih =>
    match i, h with
    | 0, h => simp at h; subst h; simp [chunk, flatO]
    | i + 1, h =>
      have := ih (by simpa using h)
      unfold chunk at this ⊢
      rw [show (i + 1) * 2 = i * 2 + 1 + 1 from by omega]
      simpa [flatO] using this

/-- A list of outputs that the call owns, as a row that can be sorted; and back. -/
theorem OwnS.rowO {base : Nat} {w : World} {v : Value} {l : List Out} (h : OwnS outR 2 base 102 Non w v l) (hl : l ≠ []) :
    (∀ x ∈ l, I64 x.dst ∧ I64 x.letter) ∧ ∃ g cap rest, v = .slice (some ⟨g, 0, none⟩) l.length cap ∧ base ≤ g ∧ RowO w g l rest ∧
      ∀ w' l', l'.length = l.length → (∀ x ∈ l', I64 x.dst ∧ I64 x.letter) → RowO w' g l' rest → OwnS outR 2 base 102 Non w' v l' := by
  obtain ⟨cells, ho, h1, hc⟩ := h
  have hcl := ho.1
  have hfl : cells = flatO l := flat_of_chunks hcl fun i x hx => (hc i x hx).1
  subst hfl
  refine ⟨fun x hx => ?_, ?_⟩
  · obtain ⟨i, hi, rfl⟩ := List.getElem_of_mem hx
    exact (hc i _ (List.getElem?_eq_getElem hi)).2
  rcases ho.2 with ⟨_, hn⟩ | ⟨g, cap, cur, rfl, hg, hh, hle, hm, hcs, htake⟩
  · exact absurd (List.eq_nil_of_length_eq_zero hn) hl
  · have hcur : cur = (flatO l ++ cur.toList.drop (l.length * 2)).toArray := by
      apply Array.toList_inj.1
      rw [← htake]
      simp
    refine ⟨g, cap, cur.toList.drop (l.length * 2), rfl, hg, by unfold RowO; rw [hh]; exact congrArg (fun c => some (Obj.cells c 102 (0, 0))) hcur, ?_⟩
    intro w' l' hl' hI hr
    refine ⟨flatO l', ⟨by rw [flatO_len], .inr ⟨g, cap, _, by rw [hl'], hg, hr, by omega, hm, ?_, ?_⟩⟩, ?_, ?_⟩
    · have h2 : cur.toList.length = cap * 2 := hcs
      rw [List.size_toArray, List.length_append, flatO_len, List.length_drop, h2, hl']
      omega
    · rw [← flatO_len l']
      exact List.take_left
    · intro u hu
      simp only [flatO, List.mem_flatMap] at hu
      obtain ⟨o, _, hu⟩ := hu
      simp at hu
      rcases hu with rfl | rfl <;> rfl
    · intro i x hx
      exact ⟨chunks_of_flat hx, hI x (List.mem_of_getElem? hx)⟩

theorem insSort_int (X M Y : List Out) (rest : List Value) (g kb ka n c : Nat) (A B : Int) (w : World) (hr : RowO w g (X ++ (M ++ Y)) rest) (hk : Keys w kb ka) (hn : Hid (n = (X ++ (M ++ Y)).length)) (hA : Hid (A = X.length)) (hB : Hid (B = X.length + M.length)) (hlen : n ≤ 1000000000000000) :
    Calls Tryz.prog 178 #[.slice (some ⟨g, 0, none⟩) n c, .int .i64 A, .int .i64 B, .func (.func 170) #[] #[.pointer (some ⟨kb, 0, none⟩)]] w fun e w' =>
      e = .returned (.tuple #[]) ∧ RowO w' g (X ++ (isort M ++ Y)) rest ∧ w.grownBy w' (some g) := by
  have h1 := hA.out
  have h2 := hB.out
  subst h1 h2
  have := insSort_any X M Y rest g kb ka n X.length (X.length + M.length) c w hr hk hn rfl rfl hlen
  simpa using this

theorem insSort_zero (oa : Option Addr) (c kb : Nat) (w : World) :
    Calls Tryz.prog 178 #[.slice oa 0 c, .int .i64 0, .int .i64 0, .func (.func 170) #[] #[.pointer (some ⟨kb, 0, none⟩)]] w fun e w' =>
      e = .returned (.tuple #[]) ∧ w = w' := by
  go_enter Tryz.func178, Tryz.ntmps178
  go_wp2_with fail
  refine wp_loop_rounds 1 ?_
  rw [rounds_succ]
  go_wp2_with fail
  go_end0
  exact ⟨rfl, rfl⟩

def StableUpto (N : Nat) : Prop := ∀ (d : List Out) (rest : List Value) (g kb ka c : Nat) (w : World), RowO w g d rest → Keys w kb ka → d.length ≤ N →
  Calls Tryz.prog 177 #[.slice (some ⟨g, 0, none⟩) d.length c, .int .i64 d.length, .func (.func 170) #[] #[.pointer (some ⟨kb, 0, none⟩)]] w fun e w' =>
    e = .returned (.tuple #[]) ∧ RowO w' g (isort d) rest ∧ w.grownBy w' (some g)

set_option maxHeartbeats 400000 in
theorem stable_zero (oa : Option Addr) (c kb : Nat) (w : World) :
    Calls Tryz.prog 177 #[.slice oa 0 c, .int .i64 0, .func (.func 170) #[] #[.pointer (some ⟨kb, 0, none⟩)]] w fun e w' =>
      e = .returned (.tuple #[]) ∧ w = w' := by
  go_enter Tryz.func177, Tryz.ntmps177
  go_wp2_with fail
  refine wp_loop_rounds 1 ?_
  rw [rounds_succ]
  go_wp2_with fail
  refine (insSort_zero _ _ _ _).mono ?_
  rintro e w' ⟨rfl, rfl⟩
  go_wp2_with fail
  refine wp_loop_rounds 1 ?_
  rw [rounds_succ]
  go_wp2_with fail
  go_end0
  exact ⟨rfl, rfl⟩

theorem ssf_zero (oa : Option Addr) (c kb : Nat) (w : World) :
    Calls Tryz.prog 169 #[.slice oa 0 c, .func (.func 170) #[] #[.pointer (some ⟨kb, 0, none⟩)]] w fun e w' =>
      e = .returned (.tuple #[]) ∧ w = w' := by
  go_enter Tryz.func169, Tryz.ntmps169
  go_wp2_with fail
  refine (stable_zero _ _ _ _).mono ?_
  rintro e w' ⟨rfl, rfl⟩
  go_wp2_with fail
  go_end0
  exact ⟨rfl, rfl⟩
theorem ssf_of {N : Nat} (H : Hid (StableUpto N)) (d : List Out) (rest : List Value) (g kb ka c : Nat) (w : World) (hr : RowO w g d rest) (hk : Keys w kb ka) (hd : d.length ≤ N) :
    Calls Tryz.prog 169 #[.slice (some ⟨g, 0, none⟩) d.length c, .func (.func 170) #[] #[.pointer (some ⟨kb, 0, none⟩)]] w fun e w' =>
      e = .returned (.tuple #[]) ∧ RowO w' g (isort d) rest ∧ w.grownBy w' (some g) := by
  go_enter Tryz.func169, Tryz.ntmps169
  go_wp2_with fail
  refine (H.out d rest g kb ka c w hr hk hd).mono ?_
  rintro e w' ⟨rfl, h1, h2⟩
  go_wp2_with fail
  go_end0
  exact ⟨rfl, h1, h2⟩

def SortedUpto (N : Nat) : Prop := ∀ (l : List Out) (oa : Option Addr) (c : Nat) (F : Foot) (w : World), SliceR outR 2 F w oa l → l.length ≤ c → l.length ≤ N →
  Calls Tryz.prog 137 #[.slice oa l.length c] w fun e w' => ∃ v, e = .returned v ∧ OwnS outR 2 w.heap.size 102 Non w' v (isort l) ∧ Below w.heap.size w w'

set_option maxHeartbeats 1000000 in
theorem ordered_of {N : Nat} (H : StableUpto N) (hN : N ≤ 1000000000000) (l : List Out) (oa : Option Addr) (c ka : Nat) (F : Foot) (w : World) (hs : SliceR outR 2 F w oa l) (hc : l.length ≤ c) (hl : l.length ≤ N)
    (hka : w.heap[ka]? = some (.cells #[keyF 158, keyF 159] 214 (0, 0))) :
    Calls Tryz.prog 157 #[.slice oa l.length c, .slice (some ⟨ka, 0, none⟩) 2 2] w fun e w' => ∃ v, e = .returned v ∧ OwnS outR 2 w.heap.size 102 Non w' v (isort l) ∧ Below w.heap.size w w' := by
  have HH := hide H
  clear H
  have hkal : ka < w.heap.size := (Array.getElem?_eq_some_iff.1 hka).1
  have HK := hide hka
  clear hka
  go_enter Tryz.func157, Tryz.ntmps157
  go_wp2_with fail
  refine (cloneOut_any l oa c F _ (hs.below outR_ok (bnew (Below.refl _ _) _)) hc (by omega)).mono ?_
  rintro e w2 ⟨v, rfl, ho, hb2⟩
  have hx2 := hb2.mono (B' := w.heap.size + 1) (by simp)
  have hkeys : Keys w2 w.heap.size ka := by
    refine ⟨?_, ?_⟩
    · rw [hx2.block _ (by omega)]; exact heap_alloc_new w _
    · rw [hx2.block _ (by omega), Below.heap_alloc _ _ _ hkal]; exact HK.out
  have ho1 := ho.rebase (base' := w.heap.size) (by simp)
  clear ho hb2
  by_cases hnil : l = []
  · subst hnil
    obtain ⟨oa', c', rfl, _, _⟩ := ho1.slice outR_ok
    go_wp2_with fail
    refine (ssf_zero _ _ _ _).mono ?_
    rintro e w' ⟨rfl, rfl⟩
    go_wp2_with fail
    go_ret
    exact ⟨_, rfl, ho1, below_box hx2⟩
  · obtain ⟨hI, g, cap, rest, rfl, hg, hr, hback⟩ := ho1.rowO hnil
    have HBK := hide hback
    clear hback
    go_wp2_with fail
    refine (ssf_of HH l rest g _ ka cap _ hr hkeys hl).mono ?_
    rintro e w3 ⟨rfl, hr3, hg3⟩
    go_wp2_with fail
    go_ret
    refine ⟨_, rfl, HBK.out w3 (isort l) (isort_length l) (fun x hx => hI x ((isort_perm l).mem_iff.1 hx)) hr3, ?_⟩
    exact (below_box hx2).grown hg3 (below_box hx2).size (fun k hk => by injection hk with hk; omega)

theorem sorted_of {N : Nat} (H : StableUpto N) (hN : N ≤ 1000000000000) : SortedUpto N := by
  intro l oa c F w hs hc hl
  have HH := hide H
  clear H
  go_enter Tryz.func137, Tryz.ntmps137
  go_wp2_with fail
  have hka : (w.alloc (.cells #[keyF 158, keyF 159] 214)).heap[w.heap.size]? = some (.cells #[keyF 158, keyF 159] 214 (0, 0)) := heap_alloc_new w _
  refine (ordered_of HH.out hN l oa c w.heap.size F _ (hs.below outR_ok (bnew (Below.refl _ _) _)) hc hl hka).mono ?_
  rintro e w2 ⟨v, rfl, ho, hb2⟩
  go_wp2_with fail
  go_ret
  exact ⟨v, rfl, ho.rebase (by simp), below_then (bnew (Below.refl _ _) _) hb2⟩

end Go.Proofs.YtnigfddanoaonaaGreat

namespace Go.Proofs.YtnigfddanoaonaaGreat
open Go.RowKit

def pick (l : List Out) (t a : Nat) : List Out := l.filter fun o => decide (o.dst = t) && decide (o.letter = a)
def pickRow (l : List Out) (t : Nat) (A : Nat) : List Out := (List.range A).flatMap (pick l t)
def picks (l : List Out) (T : Nat) : List Out := (List.range T).flatMap fun t => pickRow l t 8

theorem pick_mem {l : List Out} {t a : Nat} {o : Out} : o ∈ pick l t a ↔ o ∈ l ∧ o.dst = t ∧ o.letter = a := by simp [pick]
theorem pickRow_succ (l : List Out) (t A : Nat) : pickRow l t (A + 1) = pickRow l t A ++ pick l t A := by simp [pickRow, List.range_succ]
theorem picks_succ (l : List Out) (T : Nat) : picks l (T + 1) = picks l T ++ pickRow l T 8 := by simp [picks, List.range_succ]
theorem pickRow_mem {l : List Out} {t A : Nat} {o : Out} : o ∈ pickRow l t A ↔ o ∈ l ∧ o.dst = t ∧ ∃ a, a < A ∧ o.letter = (a : Nat) := by
  simp only [pickRow, List.mem_flatMap, List.mem_range, pick_mem]
  constructor
  · rintro ⟨a, ha, h1, h2, h3⟩; exact ⟨h1, h2, a, ha, h3⟩
  · rintro ⟨h1, h2, a, ha, h3⟩; exact ⟨a, ha, h1, h2, h3⟩
theorem picks_mem {l : List Out} {T : Nat} {o : Out} : o ∈ picks l T ↔ o ∈ l ∧ (∃ t, t < T ∧ o.dst = (t : Nat)) ∧ ∃ a, a < 8 ∧ o.letter = (a : Nat) := by
  simp only [picks, List.mem_flatMap, List.mem_range, pickRow_mem]
  constructor
  · rintro ⟨t, ht, h1, h2, h3⟩; exact ⟨h1, ⟨t, ht, h2⟩, h3⟩
  · rintro ⟨h1, ⟨t, ht, h2⟩, h3⟩; exact ⟨t, ht, h1, h2, h3⟩

theorem pick_srt (l : List Out) (t a : Nat) : Srt (pick l t a) := by
  refine List.pairwise_iff_forall_sublist.2 fun {x y} h => ?_
  have hx : x ∈ pick l t a := h.subset (by simp)
  have hy : y ∈ pick l t a := h.subset (by simp)
  have h1 := (pick_mem.1 hx).2
  have h2 := (pick_mem.1 hy).2
  unfold leO
  omega
theorem pickRow_srt (l : List Out) (t : Nat) : ∀ A, Srt (pickRow l t A)
  | 0 => by simp [pickRow]
  | A + 1 => by
    rw [pickRow_succ]
    refine List.pairwise_append.2 ⟨pickRow_srt l t A, pick_srt l t A, fun x hx y hy => ?_⟩
    obtain ⟨_, h1, a, ha, h2⟩ := pickRow_mem.1 hx
    have h3 := (pick_mem.1 hy).2
    unfold leO
    omega
theorem picks_srt (l : List Out) : ∀ T, Srt (picks l T)
  | 0 => by simp [picks]
  | T + 1 => by
    rw [picks_succ]
    refine List.pairwise_append.2 ⟨picks_srt l T, pickRow_srt l T 8, fun x hx y hy => ?_⟩
    obtain ⟨_, ⟨t, ht, h1⟩, _⟩ := picks_mem.1 hx
    have h3 := (pickRow_mem.1 hy).2.1
    unfold leO
    omega
theorem pickRow_cons (x : Out) (r : List Out) (t : Nat) : ∀ A, (pickRow (x :: r) t A).Perm ((if x.dst = t ∧ 0 ≤ x.letter ∧ x.letter < A then [x] else []) ++ pickRow r t A)
  | 0 => by
    have : ¬ (x.dst = t ∧ 0 ≤ x.letter ∧ x.letter < (0 : Nat)) := by omega
    rw [if_neg this]
    simp [pickRow]
  | A + 1 => by
    rw [pickRow_succ, pickRow_succ]
    have ih := pickRow_cons x r t A
    by_cases h : x.dst = t ∧ x.letter = A
    · have h1 : ¬ (x.dst = t ∧ 0 ≤ x.letter ∧ x.letter < (A : Nat)) := by omega
      have h2 : x.dst = t ∧ 0 ≤ x.letter ∧ x.letter < ((A + 1 : Nat) : Int) := by omega
      rw [if_neg h1] at ih
      rw [if_pos h2]
      have hp : pick (x :: r) t A = x :: pick r t A := by simp [pick, h.1, h.2]
      rw [hp]
      exact (ih.append_right _).trans (by simp)
    · have hp : pick (x :: r) t A = pick r t A := by
        unfold pick
        rw [List.filter_cons]
        rw [if_neg]
        simp only [Bool.and_eq_true, decide_eq_true_eq]
        exact h
      rw [hp]
      have he : (x.dst = t ∧ 0 ≤ x.letter ∧ x.letter < (A : Nat)) ↔ (x.dst = t ∧ 0 ≤ x.letter ∧ x.letter < ((A + 1 : Nat) : Int)) := by omega
      simp only [he] at ih
      rw [← List.append_assoc]
      exact ih.append_right _
theorem picks_cons (x : Out) (r : List Out) : ∀ T, (picks (x :: r) T).Perm ((if (0 ≤ x.dst ∧ x.dst < T) ∧ 0 ≤ x.letter ∧ x.letter < 8 then [x] else []) ++ picks r T)
  | 0 => by
    have : ¬ ((0 ≤ x.dst ∧ x.dst < (0 : Nat)) ∧ 0 ≤ x.letter ∧ x.letter < 8) := by omega
    rw [if_neg this]
    simp [picks]
  | T + 1 => by
    rw [picks_succ, picks_succ]
    have ih := picks_cons x r T
    have hr := pickRow_cons x r T 8
    by_cases h : x.dst = T ∧ 0 ≤ x.letter ∧ x.letter < 8
    · have h1 : ¬ ((0 ≤ x.dst ∧ x.dst < (T : Nat)) ∧ 0 ≤ x.letter ∧ x.letter < 8) := by omega
      have h2 : (0 ≤ x.dst ∧ x.dst < ((T + 1 : Nat) : Int)) ∧ 0 ≤ x.letter ∧ x.letter < 8 := by omega
      have h3 : x.dst = T ∧ 0 ≤ x.letter ∧ x.letter < ((8 : Nat) : Int) := by omega
      rw [if_neg h1] at ih
      rw [if_pos h2]
      rw [if_pos h3] at hr
      exact (ih.append hr).trans (by simp)
    · have h3 : ¬ (x.dst = T ∧ 0 ≤ x.letter ∧ x.letter < ((8 : Nat) : Int)) := by omega
      rw [if_neg h3] at hr
      have he : ((0 ≤ x.dst ∧ x.dst < (T : Nat)) ∧ 0 ≤ x.letter ∧ x.letter < 8) ↔ ((0 ≤ x.dst ∧ x.dst < ((T + 1 : Nat) : Int)) ∧ 0 ≤ x.letter ∧ x.letter < 8) := by omega
      simp only [he] at ih
      rw [← List.append_assoc]
      exact ih.append hr
/-- Right outputs: Order sorts them. -/
theorem picks_isort {l : List Out} (h : ∀ o ∈ l, (0 ≤ o.dst ∧ o.dst < 12) ∧ 0 ≤ o.letter ∧ o.letter < 8) : picks l 12 = isort l := by
  refine isort_of (picks_srt l 12) ?_
  induction l with
  | nil => simp [picks, pickRow, pick]
  | cons x r ih =>
    refine (picks_cons x r 12).trans ?_
    have hx := h x (by simp)
    rw [if_pos (by omega)]
    exact List.Perm.cons x (ih fun o ho => h o (by simp [ho]))

end Go.Proofs.YtnigfddanoaonaaGreat

set_option linter.unusedVariables false
namespace Go.Proofs.YtnigfddanoaonaaGreat
open Go.RowKit

theorem one_out {F : Foot} {w : World} {t l : Int} (h1 : I64 t) (h2 : I64 l) (hF : F w.heap.size) : SliceR outR 2 F (w.alloc (.cells #[.int .i64 t, .int .i64 l] 102)) (some ⟨w.heap.size, 0, none⟩) [⟨t, l⟩] := by
  intro i x hx
  match i, hx with
  | 0, hx =>
    simp at hx
    subst hx
    refine ⟨w.heap.size, 0, [.int .i64 t, .int .i64 l], rfl, hF, ⟨rfl, h1, h2⟩, fun j u hu => ?_⟩
    have hh := fun k => cell_of_row (w.alloc (.cells #[.int .i64 t, .int .i64 l] 102)) w.heap.size k _ _ _ (heap_alloc_new w _)
    rw [hh]
    simpa using hu

set_option maxHeartbeats 1000000 in
theorem order_any (l : List Out) (oa : Option Addr) (c : Nat) (F : Foot) (w : World) (hs : SliceR outR 2 F w oa l) (hc : l.length ≤ c) (hlen : l.length ≤ 1000000) :
    Calls Tryz.prog 144 #[.slice oa l.length c] w fun e w' => ∃ v, e = .returned v ∧ OwnS outR 2 w.heap.size 102 Non w' v (picks l 12) ∧ Below w.heap.size w w' := by
  go_enter Tryz.func144, Tryz.ntmps144
  go_wp2_with fail
  go_loopw [3, 4] (fun v i wr => ∃ (T : Nat) (out : List Out), T ≤ 12 ∧ i = .int .i64 T ∧ Hid (out = picks l T) ∧ out.length ≤ T * 8000000 ∧ OwnS outR 2 w.heap.size 102 Non wr v out ∧ Below w.heap.size w wr) (fun _ i _ => 12 - (intOf i).toNat)
  case atStart => exact ⟨0, [], by omega, rfl, rfl, by simp, OwnS.nil _ _ _ _ _ _, Below.refl _ _⟩
  case round =>
    obtain ⟨T, out, hT, rfl, HO, hol, hown, hb⟩ := hrel
    by_cases hT12 : T < 12
    · have hTb : decide ((T : Int) < 12) = true := by simp; omega
      go_wp2_with fail
      obtain ⟨w1, rfl⟩ : ∃ w1 : World, w1 = wr := ⟨_, rfl⟩
      go_loopw [3, 5] (fun v i wr => ∃ (A : Nat) (row : List Out), A ≤ 8 ∧ i = .int .i64 A ∧ Hid (row = pickRow l T A) ∧ row.length ≤ A * 1000000 ∧ OwnS outR 2 w.heap.size 102 Non wr v (out ++ row) ∧ Below w.heap.size w wr) (fun _ i _ => 8 - (intOf i).toNat)
      case atStart => exact ⟨0, [], by omega, rfl, by show _ = _; simp [pickRow], by simp, by simpa using hown, hb⟩
      case round =>
        clear hown hb
        obtain ⟨A, row, hA, rfl, HR, hrl, hown, hb⟩ := hrel
        by_cases hA8 : A < 8
        · have hAb : decide ((A : Int) < 8) = true := by simp; omega
          go_wp2_with fail
          obtain ⟨w2, rfl⟩ : ∃ w2 : World, w2 = wr := ⟨_, rfl⟩
          go_loopw [3, 6] (fun v i wr => ∃ (k : Nat) (part : List Out), k ≤ l.length ∧ i = .int .i64 k ∧ Hid (part = pick (l.take k) T A) ∧ part.length ≤ k ∧ OwnS outR 2 w.heap.size 102 Non wr v (out ++ row ++ part) ∧ Below w.heap.size w wr) (fun _ i _ => l.length - (intOf i).toNat)
          case atStart => exact ⟨0, [], by omega, rfl, by show _ = _; simp [pick], by simp, by simpa using hown, hb⟩
          case round =>
            clear hown hb
            obtain ⟨k, part, hk, rfl, HP, hpl, hown, hb⟩ := hrel
            by_cases hlt : k < l.length
            · obtain ⟨t, a, hd, hka, ht, ha, b, off, rfl, _, c0, c1⟩ := (hs.below outR_ok hb).out_at hlt
              have hsnoc : Hid (l.take (k + 1) = l.take k ++ [⟨t, a⟩]) := by
                show _ = _
                rw [List.take_add_one, hka]; rfl
              clear hd hka hs
              by_cases h1 : t = T
              · by_cases h2 : a = A
                · subst h1 h2
                  have HPK : Hid (part ++ [⟨(T : Int), (A : Int)⟩] = pick (l.take (k + 1)) T A) := by
                    show _ = _
                    rw [hsnoc.out, HP.out]; simp [pick]
                  go_wp2_with (at_builtin; refine wpList_append_rep rfl (.tmp 37) (.tmp 42) 97 rfl w.heap.size 102 _ 2 16 Tryz.underlying97 outInfo rfl (by decide) outR_ok Non All u3 (out ++ row ++ part) rfl (hown.new outR_ok _) (some ⟨wr.heap.size, 0, none⟩) 1 [⟨(T : Int), (A : Int)⟩] rfl (one_out ht ha trivial) (fun _ _ h => h) (fun _ h => h.elim) (by simp; omega) (by simp; omega) (by have := hb.size; simp; omega) ?_; intro v' w3 ho hb1 hg)
                  go_roundw
                  case rel =>
                    have ho2 : OwnS outR 2 w.heap.size 102 Non w3 v' (out ++ row ++ (part ++ [⟨(T : Int), (A : Int)⟩])) := by simpa using ho
                    have hb2 := (bnew hb (.cells #[.int .i64 (T : Int), .int .i64 (A : Int)] 102)).trans hb1
                    first
                      | exact ⟨k + 1, _, by omega, by go_num, HPK, by simp; omega, ho2, hb2⟩
                      | ((repeat apply Exists.intro); exact ⟨⟨k + 1, _, by omega, by go_num, HPK, by simp; omega, ho2, hb2⟩, rfl⟩)
                  case measure => simp [intOf]; omega
                · subst h1
                  have h2b : ((a : Int) == (A : Int)) = false := by simp [h2]
                  have HPK : Hid (part = pick (l.take (k + 1)) T A) := by
                    show _ = _
                    rw [hsnoc.out, HP.out]; simp [pick, h2]
                  clear h2
                  go_wp2_with fail
                  go_roundw
                  case rel => exact ⟨k + 1, _, by omega, by go_num, HPK, by omega, hown, hb⟩
                  case measure => simp [intOf]; omega
              · have h1b : ((t : Int) == (T : Int)) = false := by simp [h1]
                have HPK : Hid (part = pick (l.take (k + 1)) T A) := by
                  show _ = _
                  rw [hsnoc.out, HP.out]; simp [pick, h1]
                clear h1
                go_wp2_with fail
                go_roundw
                case rel => exact ⟨k + 1, _, by omega, by go_num, HPK, by omega, hown, hb⟩
                case measure => simp [intOf]; omega
            · go_wp2_with fail
              go_roundw
              case rel =>
                refine ⟨A + 1, row ++ part, by omega, by go_num, ?_, by simp; omega, by simpa using hown, hb⟩
                show _ = _
                rw [pickRow_succ, ← HR.out, HP.out, List.take_of_length_le (by omega)]
              case measure => simp [intOf]; omega
        · go_wp2_with fail
          go_roundw
          case rel =>
            refine ⟨T + 1, out ++ row, by omega, by go_num, ?_, by simp; omega, hown, hb⟩
            show _ = _
            have : A = 8 := by omega
            subst this
            rw [picks_succ, ← HO.out, ← HR.out]
          case measure => simp [intOf]; omega
    · have h12 : T = 12 := by omega
      subst h12
      go_wp2_with fail
      go_ret
      exact ⟨_, rfl, by rw [← HO.out]; exact hown, hb⟩

end Go.Proofs.YtnigfddanoaonaaGreat

set_option linter.unusedVariables false
namespace Go.Proofs.YtnigfddanoaonaaGreat
open Go.RowKit

theorem neqGuard_out (op : BinOp) (a b : Operand) (x y : Array Value) (w : World) : (eqGuard op 102 a b (.agg x) (.agg y)).run Tryz.prog w = .ok () w :=
  run_eqGuard_agg w op 102 a b x y (by kernel_rfl)
theorem neq_out (a b c d : Int) (w : World) : (binOp .neq 102 (.agg #[.int .i64 a, .int .i64 b]) (.agg #[.int .i64 c, .int .i64 d])).run Tryz.prog w = .ok (.bool (!(a == c && b == d))) w := by
  have u3 := Tryz.underlying3
  have a3 := Tryz.isAgg3
  have z3 := Tryz.sizeOf3
  have hS : Tryz.prog.underlying 102 = some (.struct (Tryz.prog.fieldsOf 102)) := by kernel_rfl
  have hp : Tryz.prog.stoodInHeld 102 = false := by kernel_rfl
  rw [run_neq_struct, show (10000 : Nat) = 9999 + 1 from rfl, run_equalIn_agg w 9999 102 _ _ hS hp]
  simp only [Program.fieldsOf, Tryz.underlying102]
  go_simp
  by_cases h1 : a = c <;> by_cases h2 : b = d <;> simp [h1, h2]

set_option maxHeartbeats 400000 in
theorem sameOutputs_any (l m : List Out) (oa ob : Option Addr) (c d : Nat) (F : Foot) (w : World) (hs : SliceR outR 2 F w oa l) (ht : SliceR outR 2 F w ob m) (hc : l.length ≤ c) (hc2 : l.length ≤ 9223372036854775807) :
    Calls Tryz.prog 94 #[.slice oa l.length c, .slice ob m.length d] w fun e w' => e = .returned (.bool (decide (l = m))) ∧ Below w.heap.size w w' := by
  by_cases hlen : l.length = m.length
  case neg =>
    have hl' : ((l.length : Int) != m.length) = true := by simp; omega
    have HL : Hid (decide (l = m) = false) := decide_eq_false fun h => hlen (by rw [h])
    clear hlen
    go_enter Tryz.func94, Tryz.ntmps94
    go_wp2_with fail
    go_ret; exact ⟨ret_bool HL.out.symm, Below.refl _ _⟩
  have hl' : ((l.length : Int) != m.length) = false := by simp [hlen]
  have HL := hide hlen
  clear hlen
  go_enter Tryz.func94, Tryz.ntmps94
  go_wp2_with fail
  go_loopw [5] (fun i wr => ∃ k : Nat, k ≤ l.length ∧ i = .int .i64 k ∧ Hid (l = m ↔ l.drop k = m.drop k) ∧ Below w.heap.size w wr) (fun i _ => l.length - (intOf i).toNat)
  case atStart => exact ⟨0, by omega, rfl, Iff.rfl, Below.refl _ _⟩
  case round =>
    obtain ⟨k, hk, rfl, HE, hb⟩ := hrel
    by_cases hlt : k < l.length
    · obtain ⟨x, y, hd, _, _, _, b, off, rfl, _, c0, c1⟩ := (hs.below outR_ok hb).out_at hlt
      have hlt2 : k < m.length := by rw [← HL.out]; exact hlt
      obtain ⟨x', y', hd', _, _, _, b', off', rfl, _, c0', c1'⟩ := (ht.below outR_ok hb).out_at hlt2
      have HD := hide hd
      have HD' := hide hd'
      clear hd hd' hs ht
      have q1 := neqGuard_out
      have q2 := neq_out
      by_cases hx : x = x' ∧ y = y'
      · obtain ⟨rfl, rfl⟩ := hx
        go_wp2_with fail
        go_quiet (fail)
        go_wp2_with fail
        go_roundw
        case rel =>
          refine ⟨k + 1, by omega, by go_num, ?_, below_drewN hb _⟩
          show _ ↔ _
          rw [HE.out, HD.out, HD'.out]; simp
        case measure => simp [intOf]; omega
      · have hne : (!x == x' || !y == y') = true := by
          by_cases h1 : x = x' <;> by_cases h2 : y = y' <;> simp_all
        have HX := hide hx
        clear hx
        go_wp2_with fail
        go_quiet (fail)
        go_wp2_with fail
        go_ret
        refine ⟨ret_bool ?_, below_drewN hb _⟩
        symm
        refine decide_eq_false fun h => HX.out ?_
        have h2 := HE.out.1 h
        rw [HD.out, HD'.out] at h2
        simp at h2
        exact h2.1
    · go_wp2_with fail
      go_ret
      refine ⟨ret_bool ?_, hb⟩
      symm
      refine decide_eq_true (HE.out.2 ?_)
      rw [List.drop_eq_nil_of_le (by omega), List.drop_eq_nil_of_le (by have := HL.out; omega)]

end Go.Proofs.YtnigfddanoaonaaGreat

set_option linter.unusedVariables false
set_option linter.unusedSimpArgs false
set_option linter.unnecessarySimpa false
namespace Go.Proofs.YtnigfddanoaonaaGreat
open Go.RowKit

set_option maxHeartbeats 400000 in
theorem equalInt_any (l m : List Int) (oa ob : Option Addr) (c d : Nat) (F : Foot) (w : World) (hs : SliceR intR 1 F w oa l) (ht : SliceR intR 1 F w ob m) (hc : l.length ≤ c) (hc2 : l.length ≤ 9223372036854775807) :
    Calls Tryz.prog 32 #[.slice oa l.length c, .slice ob m.length d] w fun e w' => e = .returned (.bool (decide (l = m))) ∧ Below w.heap.size w w' := by
  by_cases hlen : l.length = m.length
  case neg =>
    have hl' : ((l.length : Int) != m.length) = true := by simp; omega
    have HL : Hid (decide (l = m) = false) := decide_eq_false fun h => hlen (by rw [h])
    clear hlen
    go_enter Tryz.func32, Tryz.ntmps32
    go_wp2_with fail
    go_ret; exact ⟨ret_bool HL.out.symm, Below.refl _ _⟩
  have hl' : ((l.length : Int) != m.length) = false := by simp [hlen]
  have HL := hide hlen
  clear hlen
  go_enter Tryz.func32, Tryz.ntmps32
  go_wp2_with fail
  go_loopw [13] (fun i wr => ∃ k : Nat, k ≤ l.length ∧ i = .int .i64 k ∧ Hid (l = m ↔ l.drop k = m.drop k) ∧ Below w.heap.size w wr) (fun i _ => l.length - (intOf i).toNat)
  case atStart => exact ⟨0, by omega, rfl, Iff.rfl, Below.refl _ _⟩
  case round =>
    obtain ⟨k, hk, rfl, HE, hb⟩ := hrel
    by_cases hlt : k < l.length
    · obtain ⟨x, hd, _, _, b, off, rfl, _, c0⟩ := (hs.below intR_ok hb).int_at hlt
      have hlt2 : k < m.length := by rw [← HL.out]; exact hlt
      obtain ⟨x', hd', _, _, b', off', rfl, _, c0'⟩ := (ht.below intR_ok hb).int_at hlt2
      have HD := hide hd
      have HD' := hide hd'
      clear hd hd' hs ht
      by_cases hx : x = x'
      · obtain rfl := hx
        go_wp2_with fail
        go_quiet (fail)
        go_wp2_with fail
        go_roundw
        case rel =>
          refine ⟨k + 1, by omega, by go_num, ?_, below_drewN hb _⟩
          show _ ↔ _
          rw [HE.out, HD.out, HD'.out]; simp
        case measure => simp [intOf]; omega
      · have hne : (x != x') = true := by simp [hx]
        have HX := hide hx
        clear hx
        go_wp2_with fail
        go_quiet (fail)
        go_wp2_with fail
        go_ret
        refine ⟨ret_bool ?_, below_drewN hb _⟩
        symm
        refine decide_eq_false fun h => HX.out ?_
        have h2 := HE.out.1 h
        rw [HD.out, HD'.out] at h2
        simp at h2
        exact h2.1
    · go_wp2_with fail
      go_ret
      refine ⟨ret_bool ?_, hb⟩
      symm
      refine decide_eq_true (HE.out.2 ?_)
      rw [List.drop_eq_nil_of_le (by omega), List.drop_eq_nil_of_le (by have := HL.out; omega)]

end Go.Proofs.YtnigfddanoaonaaGreat

set_option linter.unusedVariables false
namespace Go.Proofs.YtnigfddanoaonaaGreat
open Go.RowKit

set_option maxHeartbeats 400000 in
theorem equalOut_any (l m : List Out) (oa ob : Option Addr) (c d : Nat) (F : Foot) (w : World) (hs : SliceR outR 2 F w oa l) (ht : SliceR outR 2 F w ob m) (hc : l.length ≤ c) (hc2 : l.length ≤ 9223372036854775807) :
    Calls Tryz.prog 60 #[.slice oa l.length c, .slice ob m.length d] w fun e w' => e = .returned (.bool (decide (l = m))) ∧ Below w.heap.size w w' := by
  by_cases hlen : l.length = m.length
  case neg =>
    have hl' : ((l.length : Int) != m.length) = true := by simp; omega
    have HL : Hid (decide (l = m) = false) := decide_eq_false fun h => hlen (by rw [h])
    clear hlen
    go_enter Tryz.func60, Tryz.ntmps60
    go_wp2_with fail
    go_ret; exact ⟨ret_bool HL.out.symm, Below.refl _ _⟩
  have hl' : ((l.length : Int) != m.length) = false := by simp [hlen]
  have HL := hide hlen
  clear hlen
  go_enter Tryz.func60, Tryz.ntmps60
  go_wp2_with fail
  go_loopw [13] (fun i wr => ∃ k : Nat, k ≤ l.length ∧ i = .int .i64 k ∧ Hid (l = m ↔ l.drop k = m.drop k) ∧ Below w.heap.size w wr) (fun i _ => l.length - (intOf i).toNat)
  case atStart => exact ⟨0, by omega, rfl, Iff.rfl, Below.refl _ _⟩
  case round =>
    obtain ⟨k, hk, rfl, HE, hb⟩ := hrel
    by_cases hlt : k < l.length
    · obtain ⟨x, y, hd, _, _, _, b, off, rfl, _, c0, c1⟩ := (hs.below outR_ok hb).out_at hlt
      have hlt2 : k < m.length := by rw [← HL.out]; exact hlt
      obtain ⟨x', y', hd', _, _, _, b', off', rfl, _, c0', c1'⟩ := (ht.below outR_ok hb).out_at hlt2
      have HD := hide hd
      have HD' := hide hd'
      clear hd hd' hs ht
      have q1 := neqGuard_out
      have q2 := neq_out
      by_cases hx : x = x' ∧ y = y'
      · obtain ⟨rfl, rfl⟩ := hx
        go_wp2_with fail
        go_quiet (fail)
        go_wp2_with fail
        go_roundw
        case rel =>
          refine ⟨k + 1, by omega, by go_num, ?_, below_drewN hb _⟩
          show _ ↔ _
          rw [HE.out, HD.out, HD'.out]; simp
        case measure => simp [intOf]; omega
      · have hne : (!x == x' || !y == y') = true := by
          by_cases h1 : x = x' <;> by_cases h2 : y = y' <;> simp_all
        have HX := hide hx
        clear hx
        go_wp2_with fail
        go_quiet (fail)
        go_wp2_with fail
        go_ret
        refine ⟨ret_bool ?_, below_drewN hb _⟩
        symm
        refine decide_eq_false fun h => HX.out ?_
        have h2 := HE.out.1 h
        rw [HD.out, HD'.out] at h2
        simp at h2
        exact h2.1
    · go_wp2_with fail
      go_ret
      refine ⟨ret_bool ?_, hb⟩
      symm
      refine decide_eq_true (HE.out.2 ?_)
      rw [List.drop_eq_nil_of_le (by omega), List.drop_eq_nil_of_le (by have := HL.out; omega)]


end Go.Proofs.YtnigfddanoaonaaGreat

set_option linter.unusedVariables false
namespace Go.Proofs.YtnigfddanoaonaaGreat
open Go.RowKit

theorem flatten_get {sz : Nat} : ∀ {css : List (List Value)}, (∀ cs ∈ css, cs.length = sz) → ∀ {i : Nat} {cs : List Value}, css[i]? = some cs → ∀ {j : Nat} {u : Value}, cs[j]? = some u → css.flatten[i * sz + j]? = some u
  | [], _, i, cs, h, _, _, _ => by simp at h
  | c :: r, hl, 0, cs, h, j, u, hj => by
    simp at h
    subst h
    have h1 : j < c.length := (List.getElem?_eq_some_iff.1 hj).1
    rw [List.flatten_cons, Nat.zero_mul, Nat.zero_add, List.getElem?_append_left h1]
    exact hj
  | c :: r, hl, i + 1, cs, h, j, u, hj => by
    have h1 := hl c (by simp)
    have h2 := flatten_get (css := r) (fun x hx => hl x (by simp [hx])) (i := i) (cs := cs) (by simpa using h) hj
    rw [List.flatten_cons, List.getElem?_append_right (by rw [h1, Nat.succ_mul]; omega), h1]
    rw [show (i + 1) * sz + j - sz = i * sz + j from by rw [Nat.succ_mul]; omega]
    exact h2

theorem SliceR.lit {α : Type} {R : Rep α} {sz : Nat} {F G : Foot} (ok : RepOk R sz) (w : World) (e : TypeId) (css : List (List Value)) (xs : List α)
    (h : ∀ (i : Nat) (x : α), xs[i]? = some x → ∃ cs, css[i]? = some cs ∧ R F w cs x) (hl : css.length = xs.length) (hFG : ∀ k, F k → G k) (hG : G w.heap.size) :
    SliceR R sz G (w.alloc (.cells css.flatten.toArray e)) (some ⟨w.heap.size, 0, none⟩) xs := by
  have hlen : ∀ cs ∈ css, cs.length = sz := by
    intro cs hcs
    obtain ⟨i, hi, rfl⟩ := List.getElem_of_mem hcs
    obtain ⟨cs, hc, hR⟩ := h i _ (List.getElem?_eq_getElem (by omega))
    rw [List.getElem?_eq_getElem hi] at hc
    injection hc with hc
    rw [hc]
    exact ok.len hR
  intro i x hx
  obtain ⟨cs, hcs, hR⟩ := h i x hx
  refine ⟨w.heap.size, 0, cs, rfl, hG, ok.keep (ok.wide hR fun k hk _ => hFG k hk) (SameOn.of_below (bnew (Below.refl _ _) _)), fun j u hu => ?_⟩
  rw [cell_of_row (w.alloc (.cells css.flatten.toArray e)) w.heap.size _ _ e (0, 0) (heap_alloc_new w _)]
  have := flatten_get hlen hcs hu
  rw [show 0 + i * sz + j = i * sz + j from by omega]
  simpa using this

theorem ints_lit {F G : Foot} (w : World) (e : TypeId) (xs : List Int) (h : ∀ x ∈ xs, I64 x) (hG : G w.heap.size) : SliceR intR 1 G (w.alloc (.cells (xs.map (Value.int .i64)).toArray e)) (some ⟨w.heap.size, 0, none⟩) xs := by
  have h1 : xs.map (Value.int .i64) = (xs.map fun x => [Value.int .i64 x]).flatten := by
    induction xs with
    | nil => rfl
    | cons x r ih => simp [ih fun y hy => h y (by simp [hy])]
  rw [h1]
  refine SliceR.lit (F := fun _ => False) intR_ok w e _ xs (fun i x hx => ⟨[.int .i64 x], by simp [hx], rfl, h x (List.mem_of_getElem? hx)⟩) (by simp) (fun _ h => h.elim) hG

/-- The list of ints that a literal lays, as the call's own. -/
theorem OwnS.ints (w : World) (e : TypeId) (xs : List Int) (h : ∀ x ∈ xs, I64 x) (hl : xs.length ≤ 1000000000000) :
    OwnS intR 1 w.heap.size e Non (w.alloc (.cells (xs.map (Value.int .i64)).toArray e)) (.slice (some ⟨w.heap.size, 0, none⟩) xs.length xs.length) xs := by
  have h1 := World.ownsRow_lit (base := w.heap.size) (e := e) (size := 1) w (xs.map (Value.int .i64)).toArray xs.length (Nat.le_refl _) (by unfold maxLen; omega) (by simp)
  refine ⟨xs.map (Value.int .i64), by simpa using h1, ?_, ?_⟩
  · intro u hu
    obtain ⟨x, _, rfl⟩ := List.mem_map.1 hu
    rfl
  · intro i x hx
    refine ⟨?_, h x (List.mem_of_getElem? hx)⟩
    apply List.ext_getElem?
    intro j
    unfold chunk
    rw [List.getElem?_take]
    split
    · have : j = 0 := by omega
      subst this
      simp [hx]
    · rw [List.getElem?_eq_none (by simp; omega)]

end Go.Proofs.YtnigfddanoaonaaGreat

set_option linter.unusedVariables false
namespace Go.Proofs.YtnigfddanoaonaaGreat
open Go.RowKit

end Go.Proofs.YtnigfddanoaonaaGreat

set_option linter.unusedVariables false
namespace Go.Proofs.YtnigfddanoaonaaGreat
open Go.RowKit

end Go.Proofs.YtnigfddanoaonaaGreat

set_option linter.unusedVariables false
namespace Go.Proofs.YtnigfddanoaonaaGreat
open Go.RowKit

def rlettersErr (L : Int) (l : List Int) : Int := if 256 < l.length then 5 else lettersErr L l

set_option maxHeartbeats 400000 in
theorem few_any (S L : Int) (rs : List (List Rul)) (oa : Option Addr) (c : Nat) (F : Foot) (w : World) (hs : SliceR (slcR ruleR 2) 1 F w oa rs) (hc : rs.length ≤ c) (hc2 : rs.length ≤ 9223372036854775807) :
    Calls Tryz.prog 68 #[.agg #[.int .i64 S, .int .i64 L, .slice oa rs.length c]] w (SomeBool w) := by
  go_enter Tryz.func68, Tryz.ntmps68
  go_wp2_with fail
  have hb0 := box_refl w (.cells #[.int .i64 S, .int .i64 L, .slice oa rs.length c] 89)
  have hsr := hs.below rowR_ok (below_box hb0)
  have d2 := box_cell hb0 2
  simp at d2
  go_loop [3] (fun i => ∃ k : Nat, k ≤ rs.length ∧ i = .int .i64 k) (fun i => rs.length - (intOf i).toNat)
  case atStart => exact ⟨0, by omega, rfl⟩
  case round =>
    obtain ⟨k, hk, rfl⟩ := hrel
    by_cases hlt : k < rs.length
    · obtain ⟨row, _, _, b, off, oa', c', rfl, _, c0, hcl, hcl2, hsr2⟩ := hsr.slc_at hlt
      by_cases h20 : k < 20
      · go_wp2_with fail
        go_loop [4] (fun i => ∃ j : Nat, j ≤ row.length ∧ i = .int .i64 j) (fun i => row.length - (intOf i).toNat)
        case atStart => exact ⟨0, by omega, rfl⟩
        case round =>
          obtain ⟨j, hj, rfl⟩ := hrel
          by_cases hlj : j < row.length
          · obtain ⟨nx, sent, _, _, _, b', off', oa2, c2, rfl, _, c20, c21, hl2, hl22, hss⟩ := hsr2.rule_at hlj
            by_cases h12 : j < 12
            · by_cases h40 : 40 < sent.length
              · go_wp2_with fail
                go_ret
                exact ⟨_, rfl, bnew (Below.refl _ _) _⟩
              · go_wp2_with fail
                go_round
                case rel => exact ⟨j + 1, by omega, by go_num⟩
                case measure => simp [intOf]; omega
            · have hbig : 12 < row.length := by omega
              go_wp2_with fail
              go_ret
              exact ⟨_, rfl, bnew (Below.refl _ _) _⟩
          · go_wp2_with fail
            all_goals first
              | (go_ret; exact ⟨_, rfl, bnew (Below.refl _ _) _⟩)
              | (go_round
                 case rel => exact ⟨k + 1, by omega, by go_num⟩
                 case measure => simp [intOf]; omega)
      · go_wp2_with fail
        go_ret
        exact ⟨_, rfl, bnew (Below.refl _ _) _⟩
    · go_wp2_with fail
      go_ret
      exact ⟨_, rfl, bnew (Below.refl _ _) _⟩

end Go.Proofs.YtnigfddanoaonaaGreat

set_option linter.unusedVariables false
namespace Go.Proofs.YtnigfddanoaonaaGreat
open Go.RowKit

def runRes (p : Prc) (s : Int) (word : List Int) : Int × List Out × Int :=
  if stateErr p s = 0 then (if rlettersErr p.letters word = 0 then ((readSpec p.rules s word).1, (readSpec p.rules s word).2, 0) else (0, [], rlettersErr p.letters word)) else (0, [], stateErr p s)
def stepRes (p : Prc) (s a : Int) : Int × List Out × Int :=
  if stateErr p s = 0 then (if belowB a p.letters then ((readSpec p.rules s [a]).1, (readSpec p.rules s [a]).2, 0) else (0, [], 2)) else (0, [], stateErr p s)

def OutsPost (w : World) (r : Int × List Out × Int) (e : Ending) (w' : World) : Prop :=
  ∃ v, e = .returned (.tuple #[.int .i64 r.1, v, .int .i64 r.2.2]) ∧ OwnS outR 2 w.heap.size 102 Non w' v r.2.1 ∧ Below w.heap.size w w'

end Go.Proofs.YtnigfddanoaonaaGreat

set_option linter.unusedVariables false
namespace Go.Proofs.YtnigfddanoaonaaGreat
open Go.RowKit

end Go.Proofs.YtnigfddanoaonaaGreat

set_option linter.unusedVariables false
namespace Go.Proofs.YtnigfddanoaonaaGreat
open Go.RowKit

def commB (rs : List (List Rul)) (s a b : Int) : Bool :=
  decide ((readSpec rs s [a, b]).1 = (readSpec rs s [b, a]).1) && decide (isort (readSpec rs s [a, b]).2 = isort (readSpec rs s [b, a]).2)

theorem letters_two {L a b : Int} (ha : belowB a L = true) (hb : belowB b L = true) : lettersErr L [a, b] = 0 := by simp [lettersErr, ha, hb]

theorem ruleAt_mem {p : Prc} {N : Int} (h : checkErr p N = 0) {s a : Int} (hs : 0 ≤ s ∧ s < p.states) (ha : 0 ≤ a ∧ a < p.letters) :
    (0 ≤ (ruleAt p.rules s a).next ∧ (ruleAt p.rules s a).next < p.states) ∧ (ruleAt p.rules s a).sent.length ≤ 16 ∧ ∀ o ∈ (ruleAt p.rules s a).sent, (0 ≤ o.dst ∧ o.dst < N) ∧ 0 ≤ o.letter ∧ o.letter < 8 := by
  obtain ⟨n, rfl⟩ := Int.eq_ofNat_of_zero_le hs.1
  obtain ⟨m, rfl⟩ := Int.eq_ofNat_of_zero_le ha.1
  have h1 := (check_zero h).2.2.2.1
  have hn : n < p.rules.length := by omega
  have hrow := List.getElem?_eq_getElem hn
  have hl := valid_row h hrow
  have hm : m < (p.rules[n]).length := by omega
  have hr := List.getElem?_eq_getElem hm
  rw [ruleAt_eq hrow hr]
  exact valid_rule h hrow hr
theorem readSpec_right {p : Prc} {N : Int} (h : checkErr p N = 0) : ∀ (word : List Int) (s : Int), 0 ≤ s ∧ s < p.states → lettersErr p.letters word = 0 →
    (0 ≤ (readSpec p.rules s word).1 ∧ (readSpec p.rules s word).1 < p.states) ∧ (readSpec p.rules s word).2.length ≤ 16 * word.length ∧ ∀ o ∈ (readSpec p.rules s word).2, (0 ≤ o.dst ∧ o.dst < N) ∧ 0 ≤ o.letter ∧ o.letter < 8
  | [], s, hs, _ => ⟨hs, by simp [readSpec], by simp [readSpec]⟩
  | a :: r, s, hs, hw => by
    have ha := letters_zero hw a (by simp)
    have hr : lettersErr p.letters r = 0 := by
      unfold lettersErr at hw
      split at hw
      · exact hw
      · cases hw
    obtain ⟨h1, h2, h3⟩ := ruleAt_mem h hs ha
    obtain ⟨h4, h5, h6⟩ := readSpec_right h r _ h1 hr
    refine ⟨h4, ?_, ?_⟩
    · simp only [readSpec, List.length_append, List.length_cons]; omega
    · intro o ho
      simp only [readSpec, List.mem_append] at ho
      rcases ho with ho | ho
      · exact h3 o ho
      · exact h6 o ho

theorem orderR_any (l : List Out) (oa : Option Addr) (c : Nat) (F : Foot) (w : World) (hs : SliceR outR 2 F w oa l) (hc : l.length ≤ c) (hlen : l.length ≤ 1000000) (h : ∀ o ∈ l, (0 ≤ o.dst ∧ o.dst < 12) ∧ 0 ≤ o.letter ∧ o.letter < 8) :
    Calls Tryz.prog 144 #[.slice oa l.length c] w fun e w' => ∃ v, e = .returned v ∧ OwnS outR 2 w.heap.size 102 Non w' v (isort l) ∧ Below w.heap.size w w' := by
  rw [← picks_isort h]
  exact order_any l oa c F w hs hc hlen

set_option maxRecDepth 100000 in
set_option maxHeartbeats 1000000 in
theorem commute_any {N : Nat} (HS : Hid (SortedUpto N)) (S L s a b : Int) (rs : List (List Rul)) (oa : Option Addr) (c : Nat) (F : Foot) (w : World) (hs : SliceR (slcR ruleR 2) 1 F w oa rs)
    (hV : Hid (checkErr ⟨S, L, rs⟩ 12 = 0)) (hS : 0 ≤ s ∧ s < S) (hA : belowB a L = true) (hB : belowB b L = true) (ia : I64 a) (ib : I64 b) (HN : Hid ((readSpec rs s [a, b]).2.length ≤ N ∧ (readSpec rs s [b, a]).2.length ≤ N)) :
    Calls Tryz.prog 110 #[.agg #[.int .i64 S, .int .i64 L, .slice oa rs.length c], .int .i64 s, .int .i64 a, .int .i64 b] w fun e w' => e = .returned (.bool (commB rs s a b)) ∧ Below w.heap.size w w' := by
  have HL1 := hide (letters_two hA hB)
  have HL2 := hide (letters_two hB hA)
  have HR1 := hide (readSpec_right hV.out [a, b] s hS HL1.out)
  have HR2 := hide (readSpec_right hV.out [b, a] s hS HL2.out)
  have HC : Hid (commB rs s a b = (decide ((readSpec rs s [a, b]).1 = (readSpec rs s [b, a]).1) && decide (isort (readSpec rs s [a, b]).2 = isort (readSpec rs s [b, a]).2))) := rfl
  have HSS := hide hS
  have IA := hide ia
  have IB := hide ib
  clear hS hA hB ia ib
  go_enter Tryz.func110, Tryz.ntmps110
  go_wp2_with fail
  have hb0 := box_refl w (.cells #[.int .i64 S, .int .i64 L, .slice oa rs.length c] 89)
  have hb1 := bnew (below_box hb0) (.cells #[.int .i64 a, .int .i64 b] 3)
  refine (read_any S L rs oa c s [a, b] (some ⟨w.heap.size + 1, 0, none⟩) 2 F All _ (hs.below rowR_ok hb1) ?hw hV HSS.out HL1 (by simp)).mono ?_
  case hw =>
    have := ints_lit (F := All) (G := All) (w.alloc (.cells #[.int .i64 S, .int .i64 L, .slice oa rs.length c] 89)) 3 [a, b] (by intro x hx; simp at hx; rcases hx with rfl | rfl; exact IA.out; exact IB.out) trivial
    simpa using this
  rintro e w2 ⟨v, rfl, ho, hb2⟩
  have hx2 := box_then (box_new hb0 (by simp) (.cells #[.int .i64 a, .int .i64 b] 3)) (by simp) hb2
  have d0 := box_cell hx2 0
  have d1 := box_cell hx2 1
  have d2 := box_cell hx2 2
  simp at d0 d1 d2
  obtain ⟨oa1, c1, rfl, hc1, hsl1⟩ := ho.slice outR_ok
  clear hb0 hb1 hb2 ho
  generalize readSpec rs s [a, b] = r1 at *
  obtain ⟨t1, l1⟩ := r1
  go_wp2_with fail
  have hxl := below_box hx2
  refine (read_any S L rs oa c s [b, a] (some ⟨w2.heap.size, 0, none⟩) 2 F All _ (hs.below rowR_ok (bnew hxl _)) ?hw2 hV HSS.out HL2 (by simp)).mono ?_
  case hw2 =>
    have := ints_lit (F := All) (G := All) w2 3 [b, a] (by intro x hx; simp at hx; rcases hx with rfl | rfl; exact IB.out; exact IA.out) trivial
    simpa using this
  rintro e w3 ⟨v, rfl, ho, hb3⟩
  have hsl2 := (hsl1.below outR_ok (bnew (Below.refl _ _) _)).below outR_ok hb3
  have hx3 := below_then (bnew hxl _) hb3
  obtain ⟨oa2, c2, rfl, hc2, hsl3⟩ := ho.slice outR_ok
  clear hsl1 hb3 ho hxl hx2 d0 d1 d2
  generalize readSpec rs s [b, a] = r2 at *
  obtain ⟨t2, l2⟩ := r2
  have hN1 : l1.length ≤ 32 := by have := HR1.out.2.1; simpa using this
  have hN2 : l2.length ≤ 32 := by have := HR2.out.2.1; simpa using this
  by_cases ht : t1 = t2
  case neg =>
    have HC2 : Hid (commB rs s a b = false) := by show _ = _; rw [HC.out]; simp [ht]
    have hq : (t1 == t2) = false := by simp [ht]
    clear ht
    go_wp2_with fail
    go_ret
    exact ⟨ret_bool HC2.out.symm, hx3⟩
  subst ht
  have HC2 : Hid (commB rs s a b = decide (isort l1 = isort l2)) := by show _ = _; rw [HC.out]; simp
  go_wp2_with fail
  refine (HS.out l1 oa1 c1 _ _ hsl2 hc1 HN.out.1).mono ?_
  rintro e w4 ⟨v4, rfl, ho4, hb4⟩
  obtain ⟨oa4, c4, rfl, hc4, hsl4⟩ := ho4.slice outR_ok
  have hsl5 := hsl3.below outR_ok hb4
  have hx4 := below_then hx3 hb4
  clear ho4 hsl2 hsl3 hb4 hx3
  go_wp2_with fail
  refine (HS.out l2 oa2 c2 _ _ hsl5 hc2 HN.out.2).mono ?_
  rintro e w5 ⟨v5, rfl, ho5, hb5⟩
  obtain ⟨oa5, c5, rfl, hc5, hsl6⟩ := ho5.slice outR_ok
  have hsl7 := hsl4.below outR_ok hb5
  have hx5 := below_then hx4 hb5
  clear ho5 hsl4 hsl5 hb5 hx4
  go_wp2_with fail
  refine (equalOut_any (isort l1) (isort l2) oa4 oa5 c4 c5 (fun _ => True) _ (hsl7.all outR_ok (by omega)) (hsl6.all outR_ok (by omega)) hc4 (by rw [isort_length]; omega)).mono ?_
  rintro e w6 ⟨rfl, hb6⟩
  have hx6 := below_then hx5 hb6
  go_wp2_with fail
  go_ret
  exact ⟨ret_bool HC2.out.symm, hx6⟩

set_option maxRecDepth 100000 in
set_option maxHeartbeats 1000000 in
theorem commuting_any (S L s a b : Int) (rs : List (List Rul)) (oa : Option Addr) (c : Nat) (F : Foot) (w : World) (hs : SliceR (slcR ruleR 2) 1 F w oa rs)
    (hV : Hid (checkErr ⟨S, L, rs⟩ 12 = 0)) (hS : 0 ≤ s ∧ s < S) (hA : belowB a L = true) (hB : belowB b L = true) (ia : I64 a) (ib : I64 b) :
    Calls Tryz.prog 120 #[.agg #[.int .i64 S, .int .i64 L, .slice oa rs.length c], .int .i64 s, .int .i64 a, .int .i64 b] w fun e w' => e = .returned (.bool (commB rs s a b)) ∧ Below w.heap.size w w' := by
  have HL1 := hide (letters_two hA hB)
  have HL2 := hide (letters_two hB hA)
  have HR1 := hide (readSpec_right hV.out [a, b] s hS HL1.out)
  have HR2 := hide (readSpec_right hV.out [b, a] s hS HL2.out)
  have HC : Hid (commB rs s a b = (decide ((readSpec rs s [a, b]).1 = (readSpec rs s [b, a]).1) && decide (isort (readSpec rs s [a, b]).2 = isort (readSpec rs s [b, a]).2))) := rfl
  have HSS := hide hS
  have IA := hide ia
  have IB := hide ib
  clear hS hA hB ia ib
  go_enter Tryz.func120, Tryz.ntmps120
  go_wp2_with fail
  have hb0 := box_refl w (.cells #[.int .i64 S, .int .i64 L, .slice oa rs.length c] 89)
  have hb1 := bnew (below_box hb0) (.cells #[.int .i64 a, .int .i64 b] 3)
  refine (rread_any S L rs oa c s [a, b] (some ⟨w.heap.size + 1, 0, none⟩) 2 F All _ (hs.below rowR_ok hb1) ?hw hV HSS.out HL1 (by simp)).mono ?_
  case hw =>
    have := ints_lit (F := All) (G := All) (w.alloc (.cells #[.int .i64 S, .int .i64 L, .slice oa rs.length c] 89)) 3 [a, b] (by intro x hx; simp at hx; rcases hx with rfl | rfl; exact IA.out; exact IB.out) trivial
    simpa using this
  rintro e w2 ⟨v, rfl, ho, hb2⟩
  have hx2 := box_then (box_new hb0 (by simp) (.cells #[.int .i64 a, .int .i64 b] 3)) (by simp) hb2
  have d0 := box_cell hx2 0
  have d1 := box_cell hx2 1
  have d2 := box_cell hx2 2
  simp at d0 d1 d2
  obtain ⟨oa1, c1, rfl, hc1, hsl1⟩ := ho.slice outR_ok
  clear hb0 hb1 hb2 ho
  generalize readSpec rs s [a, b] = r1 at *
  obtain ⟨t1, l1⟩ := r1
  go_wp2_with fail
  have hxl := below_box hx2
  refine (rread_any S L rs oa c s [b, a] (some ⟨w2.heap.size, 0, none⟩) 2 F All _ (hs.below rowR_ok (bnew hxl _)) ?hw2 hV HSS.out HL2 (by simp)).mono ?_
  case hw2 =>
    have := ints_lit (F := All) (G := All) w2 3 [b, a] (by intro x hx; simp at hx; rcases hx with rfl | rfl; exact IB.out; exact IA.out) trivial
    simpa using this
  rintro e w3 ⟨v, rfl, ho, hb3⟩
  have hsl2 := (hsl1.below outR_ok (bnew (Below.refl _ _) _)).below outR_ok hb3
  have hx3 := below_then (bnew hxl _) hb3
  obtain ⟨oa2, c2, rfl, hc2, hsl3⟩ := ho.slice outR_ok
  clear hsl1 hb3 ho hxl hx2 d0 d1 d2
  generalize readSpec rs s [b, a] = r2 at *
  obtain ⟨t2, l2⟩ := r2
  have hN1 : l1.length ≤ 32 := by have := HR1.out.2.1; simpa using this
  have hN2 : l2.length ≤ 32 := by have := HR2.out.2.1; simpa using this
  by_cases ht : t1 = t2
  case neg =>
    have HC2 : Hid (commB rs s a b = false) := by show _ = _; rw [HC.out]; simp [ht]
    have hq : (t1 == t2) = false := by simp [ht]
    clear ht
    go_wp2_with fail
    go_ret
    exact ⟨ret_bool HC2.out.symm, hx3⟩
  subst ht
  have HC2 : Hid (commB rs s a b = decide (isort l1 = isort l2)) := by show _ = _; rw [HC.out]; simp
  go_wp2_with fail
  refine (orderR_any l1 oa1 c1 _ _ hsl2 hc1 (by omega) HR1.out.2.2).mono ?_
  rintro e w4 ⟨v4, rfl, ho4, hb4⟩
  obtain ⟨oa4, c4, rfl, hc4, hsl4⟩ := ho4.slice outR_ok
  have hsl5 := hsl3.below outR_ok hb4
  have hx4 := below_then hx3 hb4
  clear ho4 hsl2 hsl3 hb4 hx3
  go_wp2_with fail
  refine (orderR_any l2 oa2 c2 _ _ hsl5 hc2 (by omega) HR2.out.2.2).mono ?_
  rintro e w5 ⟨v5, rfl, ho5, hb5⟩
  obtain ⟨oa5, c5, rfl, hc5, hsl6⟩ := ho5.slice outR_ok
  have hsl7 := hsl4.below outR_ok hb5
  have hx5 := below_then hx4 hb5
  clear ho5 hsl4 hsl5 hb5 hx4
  go_wp2_with fail
  refine (sameOutputs_any (isort l1) (isort l2) oa4 oa5 c4 c5 (fun _ => True) _ (hsl7.all outR_ok (by omega)) (hsl6.all outR_ok (by omega)) hc4 (by rw [isort_length]; omega)).mono ?_
  rintro e w6 ⟨rfl, hb6⟩
  have hx6 := below_then hx5 hb6
  go_wp2_with fail
  go_ret
  exact ⟨ret_bool HC2.out.symm, hx6⟩

end Go.Proofs.YtnigfddanoaonaaGreat

set_option linter.unusedVariables false
namespace Go.Proofs.YtnigfddanoaonaaGreat
open Go.RowKit

/-- The first state and letters that do not commute. -/
def witB (f : Nat → Nat → Nat → Bool) (s a : Nat) : Nat → Nat → Option (Nat × Nat × Nat)
  | 0, _ => none
  | n + 1, b => if f s a b then witB f s a n (b + 1) else some (s, a, b)
def witA (f : Nat → Nat → Nat → Bool) (s L : Nat) : Nat → Nat → Option (Nat × Nat × Nat)
  | 0, _ => none
  | n + 1, a => (witB f s a L 0).or (witA f s L n (a + 1))
def witS (f : Nat → Nat → Nat → Bool) (L : Nat) : Nat → Nat → Option (Nat × Nat × Nat)
  | 0, _ => none
  | n + 1, s => (witA f s L L 0).or (witS f L n (s + 1))
def witL : Option (Nat × Nat × Nat) → List Int
  | none => []
  | some (s, a, b) => [(s : Int), (a : Int), (b : Int)]
theorem witB_good (f : Nat → Nat → Nat → Bool) (s a : Nat) {L b : Nat} (h : b < L) (hf : f s a b = true) : witB f s a (L - b) b = witB f s a (L - (b + 1)) (b + 1) := by
  rw [show L - b = (L - (b + 1)) + 1 from by omega, witB, if_pos hf]
theorem witB_bad (f : Nat → Nat → Nat → Bool) (s a : Nat) {L b : Nat} (h : b < L) (hf : f s a b = false) : witB f s a (L - b) b = some (s, a, b) := by
  rw [show L - b = (L - (b + 1)) + 1 from by omega, witB, if_neg (by simp [hf])]
theorem witA_step (f : Nat → Nat → Nat → Bool) (s : Nat) {L a : Nat} (h : a < L) : witA f s L (L - a) a = (witB f s a L 0).or (witA f s L (L - (a + 1)) (a + 1)) := by
  rw [show L - a = (L - (a + 1)) + 1 from by omega, witA]
theorem witS_step (f : Nat → Nat → Nat → Bool) (L : Nat) {S s : Nat} (h : s < S) : witS f L (S - s) s = (witA f s L (L - 0) 0).or (witS f L (S - (s + 1)) (s + 1)) := by
  rw [show S - s = (S - (s + 1)) + 1 from by omega, witS]
  rfl
def commN (rs : List (List Rul)) (s a b : Nat) : Bool := commB rs s a b
def abelRes (p : Prc) : Bool × List Int × Int :=
  if checkErr p 12 = 0 then ((witS (commN p.rules) p.letters.toNat p.states.toNat 0).isNone, witL (witS (commN p.rules) p.letters.toNat p.states.toNat 0), 0) else (false, [], checkErr p 12)
def AbelPost (w : World) (r : Bool × List Int × Int) (e : Ending) (w' : World) : Prop :=
  ∃ v, e = .returned (.tuple #[.bool r.1, v, .int .i64 r.2.2]) ∧ OwnS intR 1 w.heap.size 3 Non w' v r.2.1 ∧ Below w.heap.size w w'
def IntsPost (w : World) (r : List Int) (e : Ending) (w' : World) : Prop :=
  ∃ v, e = .returned v ∧ OwnS intR 1 w.heap.size 3 Non w' v r ∧ Below w.heap.size w w'
theorem belowN {k n : Nat} (h : k < n) : belowB (k : Int) (n : Int) = true := by simp [belowB]; omega
theorem i64_small {x : Int} (h : 0 ≤ x ∧ x ≤ 1000) : I64 x := by unfold I64; omega

set_option maxRecDepth 100000 in
set_option maxHeartbeats 1000000 in
theorem abelian_any {N : Nat} (HS : Hid (SortedUpto N)) (S L : Int) (rs : List (List Rul)) (oa : Option Addr) (c : Nat) (F : Foot) (w : World) (hs : SliceR (slcR ruleR 2) 1 F w oa rs) (hc : rs.length ≤ c) (hc2 : rs.length ≤ 9223372036854775807)
    (HN : Hid (checkErr ⟨S, L, rs⟩ 12 = 0 → ∀ s a b : Int, 0 ≤ s ∧ s < S → 0 ≤ a ∧ a < L → 0 ≤ b ∧ b < L → (readSpec rs s [a, b]).2.length ≤ N)) :
    Calls Tryz.prog 77 #[.agg #[.int .i64 S, .int .i64 L, .slice oa rs.length c]] w (AbelPost w (abelRes ⟨S, L, rs⟩)) := by
  go_enter Tryz.func77, Tryz.ntmps77
  go_wp2_with fail
  refine (check_any S L 12 rs oa c F _ (hs.below rowR_ok (bnew (Below.refl _ _) _)) hc hc2).mono ?_
  rintro e w2 ⟨rfl, hb2⟩
  have hx2 := hb2.mono (B' := w.heap.size + 1) (by simp)
  have d0 := box_cell hx2 0
  have d1 := box_cell hx2 1
  have d2 := box_cell hx2 2
  simp at d0 d1 d2
  clear hb2
  by_cases hz : checkErr ⟨S, L, rs⟩ 12 = 0
  case neg =>
    have hz1 := not_err hz
    have HZ : Hid (abelRes ⟨S, L, rs⟩ = (false, [], checkErr ⟨S, L, rs⟩ 12)) := by show _ = _; simp [abelRes, hz]
    clear hz
    go_wp2_with fail
    go_ret3
    exact ⟨_, by rw [HZ.out]; rfl, by rw [HZ.out]; exact OwnS.nil _ _ _ _ _ _, below_box hx2⟩
  have hz1 := is_err hz
  have HV := hide hz
  have hck := check_zero hz
  simp only at hck
  obtain ⟨S', rfl⟩ := Int.eq_ofNat_of_zero_le (show 0 ≤ S by omega)
  obtain ⟨L', rfl⟩ := Int.eq_ofNat_of_zero_le (show 0 ≤ L by omega)
  have hS16 : S' ≤ 16 := by omega
  have hL8 : L' ≤ 8 := by omega
  have HW : Hid (abelRes ⟨S', L', rs⟩ = ((witS (commN rs) L' S' 0).isNone, witL (witS (commN rs) L' S' 0), 0)) := by show _ = _; simp [abelRes, hz]
  clear hz hck hc hc2
  generalize hW : witS (commN rs) L' S' 0 = W at HW
  have HWW := hide hW
  clear hW
  go_wp2_with fail
  go_loopw [16] (fun i wr => ∃ k : Nat, k ≤ S' ∧ i = .int .i64 k ∧ Hid (W = witS (commN rs) L' (S' - k) k) ∧
      Below (w.heap.size + 1) (w.alloc (.cells #[.int .i64 S', .int .i64 L', .slice oa rs.length c] 89)) wr) (fun i _ => S' - (intOf i).toNat)
  case atStart => exact ⟨0, by omega, rfl, HWW.out.symm, hx2⟩
  case round =>
    clear hx2 d0 d1 d2
    obtain ⟨k, hk, rfl, HE, hb⟩ := hrel
    have d0 := box_cell hb 0
    have d1 := box_cell hb 1
    have d2 := box_cell hb 2
    simp at d0 d1 d2
    by_cases hlt : k < S'
    · have hltb : decide ((k : Int) < (S' : Int)) = true := by simp; omega
      have HE2 := hide (HE.out.trans (witS_step (commN rs) L' hlt))
      go_wp2_with fail
      obtain ⟨wo, rfl⟩ : ∃ wo : World, wo = wr := ⟨_, rfl⟩
      go_loopw [21] (fun i wr => ∃ j : Nat, j ≤ L' ∧ i = .int .i64 j ∧ Hid (W = (witA (commN rs) k L' (L' - j) j).or (witS (commN rs) L' (S' - (k + 1)) (k + 1))) ∧
        Below (w.heap.size + 1) (w.alloc (.cells #[.int .i64 S', .int .i64 L', .slice oa rs.length c] 89)) wr) (fun i _ => L' - (intOf i).toNat)
      case atStart => exact ⟨0, by omega, rfl, HE2, hb⟩
      case round =>
        clear hb d0 d1 d2
        obtain ⟨j, hj, rfl, HF, hb⟩ := hrel
        have d0 := box_cell hb 0
        have d1 := box_cell hb 1
        have d2 := box_cell hb 2
        simp at d0 d1 d2
        by_cases hlj : j < L'
        · have hljb : decide ((j : Int) < (L' : Int)) = true := by simp; omega
          have HF2 : Hid (W = ((witB (commN rs) k j (L' - 0) 0).or (witA (commN rs) k L' (L' - (j + 1)) (j + 1))).or (witS (commN rs) L' (S' - (k + 1)) (k + 1))) := by show _ = _; rw [HF.out, witA_step (commN rs) k hlj]; rfl
          go_wp2_with fail
          obtain ⟨wp, rfl⟩ : ∃ wp : World, wp = wr := ⟨_, rfl⟩
          go_loopw [26] (fun i wr => ∃ m : Nat, m ≤ L' ∧ i = .int .i64 m ∧ Hid (W = ((witB (commN rs) k j (L' - m) m).or (witA (commN rs) k L' (L' - (j + 1)) (j + 1))).or (witS (commN rs) L' (S' - (k + 1)) (k + 1))) ∧
            Below (w.heap.size + 1) (w.alloc (.cells #[.int .i64 S', .int .i64 L', .slice oa rs.length c] 89)) wr) (fun i _ => L' - (intOf i).toNat)
          case atStart => exact ⟨0, by omega, rfl, HF2, hb⟩
          case round =>
            clear hb d0 d1 d2
            obtain ⟨m, hm, rfl, HG, hb⟩ := hrel
            have d0 := box_cell hb 0
            have d1 := box_cell hb 1
            have d2 := box_cell hb 2
            simp at d0 d1 d2
            by_cases hlm : m < L'
            · have hlmb : decide ((m : Int) < (L' : Int)) = true := by simp; omega
              go_wp2_with fail
              refine (commute_any HS S' L' k j m rs oa c F _ (hs.below rowR_ok (below_box hb)) HV (by omega) (belowN hlj) (belowN hlm) (i64_small (by omega)) (i64_small (by omega)) (show _ ∧ _ from ⟨HN.out HV.out k j m (by omega) (by omega) (by omega), HN.out HV.out k m j (by omega) (by omega) (by omega)⟩)).mono ?_
              rintro e w5 ⟨rfl, hb5⟩
              have hb6 := box_then hb (by simp) hb5
              clear hb5 d0 d1 d2
              cases hcm : commB rs k j m
              · have HR : Hid (W = some (k, j, m)) := by
                  show _ = _
                  rw [HG.out, witB_bad (commN rs) k j hlm hcm]; rfl
                go_wp2_with fail
                go_ret3
                refine ⟨_, by rw [HW.out, HR.out]; rfl, ?_, bnew (below_box hb6) _⟩
                rw [HW.out, HR.out]
                have hI : ∀ x ∈ [(k : Int), (j : Int), (m : Int)], I64 x := by intro x hx; simp at hx; rcases hx with rfl | rfl | rfl <;> exact i64_small (by omega)
                exact (OwnS.ints w5 3 _ hI (by simp)).rebase (below_box hb6).size
              · go_wp2_with fail
                go_roundw
                case rel => exact ⟨m + 1, by omega, by go_num, by show _ = _; rw [HG.out, witB_good (commN rs) k j hlm hcm], hb6⟩
                case measure => simp [intOf]; omega
            · go_wp2_with fail
              go_roundw
              case rel =>
                refine ⟨j + 1, by omega, by go_num, ?_, hb⟩
                show _ = _
                have : L' - m = 0 := by omega
                rw [HG.out, this]; rfl
              case measure => simp [intOf]; omega
        · go_wp2_with fail
          go_roundw
          case rel =>
            refine ⟨k + 1, by omega, by go_num, ?_, hb⟩
            show _ = _
            have : L' - j = 0 := by omega
            rw [HF.out, this]; rfl
          case measure => simp [intOf]; omega
    · have HR : Hid (W = none) := by
        show _ = _
        have : S' - k = 0 := by omega
        rw [HE.out, this]; rfl
      go_wp2_with fail
      go_ret3
      exact ⟨_, by rw [HW.out, HR.out]; rfl, by rw [HW.out, HR.out]; exact OwnS.nil _ _ _ _ _ _, below_box hb⟩

set_option maxRecDepth 100000 in
set_option maxHeartbeats 1000000 in
theorem witness_any (S' L' : Nat) (rs : List (List Rul)) (oa : Option Addr) (c : Nat) (F : Foot) (w : World) (hs : SliceR (slcR ruleR 2) 1 F w oa rs) (HV : Hid (checkErr ⟨S', L', rs⟩ 12 = 0)) (hS16 : S' ≤ 16) (hL8 : L' ≤ 8) :
    Calls Tryz.prog 88 #[.agg #[.int .i64 S', .int .i64 L', .slice oa rs.length c]] w (IntsPost w (witL (witS (commN rs) L' S' 0))) := by
  generalize hW : witS (commN rs) L' S' 0 = W
  have HWW := hide hW
  clear hW
  go_enter Tryz.func88, Tryz.ntmps88
  go_wp2_with fail
  go_loopw [3] (fun i wr => ∃ k : Nat, k ≤ S' ∧ i = .int .i64 k ∧ Hid (W = witS (commN rs) L' (S' - k) k) ∧
      Below (w.heap.size + 1) (w.alloc (.cells #[.int .i64 S', .int .i64 L', .slice oa rs.length c] 89)) wr) (fun i _ => S' - (intOf i).toNat)
  case atStart => exact ⟨0, by omega, rfl, HWW.out.symm, box_refl _ _⟩
  case round =>
    obtain ⟨k, hk, rfl, HE, hb⟩ := hrel
    have d0 := box_cell hb 0
    have d1 := box_cell hb 1
    have d2 := box_cell hb 2
    simp at d0 d1 d2
    by_cases hlt : k < S'
    · have hltb : decide ((k : Int) < (S' : Int)) = true := by simp; omega
      have HE2 := hide (HE.out.trans (witS_step (commN rs) L' hlt))
      go_wp2_with fail
      obtain ⟨wo, rfl⟩ : ∃ wo : World, wo = wr := ⟨_, rfl⟩
      go_loopw [4] (fun i wr => ∃ j : Nat, j ≤ L' ∧ i = .int .i64 j ∧ Hid (W = (witA (commN rs) k L' (L' - j) j).or (witS (commN rs) L' (S' - (k + 1)) (k + 1))) ∧
        Below (w.heap.size + 1) (w.alloc (.cells #[.int .i64 S', .int .i64 L', .slice oa rs.length c] 89)) wr) (fun i _ => L' - (intOf i).toNat)
      case atStart => exact ⟨0, by omega, rfl, HE2, hb⟩
      case round =>
        clear hb d0 d1 d2
        obtain ⟨j, hj, rfl, HF, hb⟩ := hrel
        have d0 := box_cell hb 0
        have d1 := box_cell hb 1
        have d2 := box_cell hb 2
        simp at d0 d1 d2
        by_cases hlj : j < L'
        · have hljb : decide ((j : Int) < (L' : Int)) = true := by simp; omega
          have HF2 : Hid (W = ((witB (commN rs) k j (L' - 0) 0).or (witA (commN rs) k L' (L' - (j + 1)) (j + 1))).or (witS (commN rs) L' (S' - (k + 1)) (k + 1))) := by show _ = _; rw [HF.out, witA_step (commN rs) k hlj]; rfl
          go_wp2_with fail
          obtain ⟨wp, rfl⟩ : ∃ wp : World, wp = wr := ⟨_, rfl⟩
          go_loopw [5] (fun i wr => ∃ m : Nat, m ≤ L' ∧ i = .int .i64 m ∧ Hid (W = ((witB (commN rs) k j (L' - m) m).or (witA (commN rs) k L' (L' - (j + 1)) (j + 1))).or (witS (commN rs) L' (S' - (k + 1)) (k + 1))) ∧
            Below (w.heap.size + 1) (w.alloc (.cells #[.int .i64 S', .int .i64 L', .slice oa rs.length c] 89)) wr) (fun i _ => L' - (intOf i).toNat)
          case atStart => exact ⟨0, by omega, rfl, HF2, hb⟩
          case round =>
            clear hb d0 d1 d2
            obtain ⟨m, hm, rfl, HG, hb⟩ := hrel
            have d0 := box_cell hb 0
            have d1 := box_cell hb 1
            have d2 := box_cell hb 2
            simp at d0 d1 d2
            by_cases hlm : m < L'
            · have hlmb : decide ((m : Int) < (L' : Int)) = true := by simp; omega
              go_wp2_with fail
              refine (commuting_any S' L' k j m rs oa c F _ (hs.below rowR_ok (below_box hb)) HV (by omega) (belowN hlj) (belowN hlm) (i64_small (by omega)) (i64_small (by omega))).mono ?_
              rintro e w5 ⟨rfl, hb5⟩
              have hb6 := box_then hb (by simp) hb5
              clear hb5 d0 d1 d2
              cases hcm : commB rs k j m
              · have HR : Hid (W = some (k, j, m)) := by
                  show _ = _
                  rw [HG.out, witB_bad (commN rs) k j hlm hcm]; rfl
                go_wp2_with fail
                go_ret
                refine ⟨_, rfl, ?_, bnew (below_box hb6) _⟩
                rw [HR.out]
                have hI : ∀ x ∈ [(k : Int), (j : Int), (m : Int)], I64 x := by intro x hx; simp at hx; rcases hx with rfl | rfl | rfl <;> exact i64_small (by omega)
                exact (OwnS.ints w5 3 _ hI (by simp)).rebase (below_box hb6).size
              · go_wp2_with fail
                go_roundw
                case rel => exact ⟨m + 1, by omega, by go_num, by show _ = _; rw [HG.out, witB_good (commN rs) k j hlm hcm], hb6⟩
                case measure => simp [intOf]; omega
            · go_wp2_with fail
              go_roundw
              case rel =>
                refine ⟨j + 1, by omega, by go_num, ?_, hb⟩
                show _ = _
                have : L' - m = 0 := by omega
                rw [HG.out, this]; rfl
              case measure => simp [intOf]; omega
        · go_wp2_with fail
          go_roundw
          case rel =>
            refine ⟨k + 1, by omega, by go_num, ?_, hb⟩
            show _ = _
            have : L' - j = 0 := by omega
            rw [HF.out, this]; rfl
          case measure => simp [intOf]; omega
    · have HR : Hid (W = none) := by
        show _ = _
        have : S' - k = 0 := by omega
        rw [HE.out, this]; rfl
      go_wp2_with fail
      go_ret
      exact ⟨_, rfl, by rw [HR.out]; exact OwnS.nil _ _ _ _ _ _, below_box hb⟩

end Go.Proofs.YtnigfddanoaonaaGreat

set_option linter.unusedVariables false
set_option linter.unusedSimpArgs false
namespace Go.Proofs.YtnigfddanoaonaaGreat
open Go.RowKit

theorem tabR' : RepOk (slcR intR 1) 1 := slcR_ok intR_ok (by omega)
theorem checkErr_more {p : Prc} {N : Int} (h : checkErr p N = 0) : checkErr p 12 = 0 := by
  obtain ⟨h1, h2, h3, h4, h5⟩ := check_zero h
  have hs : ∀ l : List Out, sentErr N l = 0 → sentErr 12 l = 0 := fun l => by
    induction l with
    | nil => intro _; rfl
    | cons x r ih =>
      intro hl
      unfold sentErr at hl ⊢
      split at hl
      · rename_i hx
        simp [belowB] at hx
        rw [if_pos (by simp [belowB]; omega)]
        exact ih hl
      · cases hl
  have hr : ∀ r : Rul, ruleErr p.states N r = 0 → ruleErr p.states 12 r = 0 := fun r hr => by
    unfold ruleErr at hr ⊢
    split at hr
    · rename_i hx
      rw [if_pos hx]
      split at hr
      · rename_i hy
        rw [if_pos hy]
        exact hs _ hr
      · cases hr
    · cases hr
  have ho : ∀ l : List Rul, rowErr p.states N l = 0 → rowErr p.states 12 l = 0 := fun l => by
    induction l with
    | nil => intro _; rfl
    | cons x r ih =>
      intro hl
      unfold rowErr at hl ⊢
      split at hl
      · rename_i hx
        rw [if_pos (hr x hx)]
        exact ih hl
      · rename_i hx; exact absurd hl hx
  have hw : ∀ l : List (List Rul), rowsErr p.states p.letters N l = 0 → rowsErr p.states p.letters 12 l = 0 := fun l => by
    induction l with
    | nil => intro _; rfl
    | cons x r ih =>
      intro hl
      unfold rowsErr at hl ⊢
      split at hl
      · rename_i hx
        rw [if_pos hx]
        split at hl
        · rename_i hy
          rw [if_pos (ho x hy)]
          exact ih hl
        · rename_i hy; exact absurd hl hy
      · cases hl
  unfold checkErr
  rw [if_neg (by omega), if_neg (by omega), if_neg (by omega)]
  exact hw _ h5

/-- All processors are abelian. -/
def commP (procs : List Prc) : Bool := procs.all fun p => (witS (commN p.rules) p.letters.toNat p.states.toNat 0).isNone

set_option maxRecDepth 100000 in
set_option maxHeartbeats 2000000 in
theorem rcommutes_any (procs : List Prc) (op : Option Addr) (cp : Nat) (os : Option Addr) (ns cs : Nat) (ow : Option Addr) (nw cw : Nat) (F : Foot) (w : World) (hp : SliceR prcR 3 F w op procs) (hp2 : procs.length ≤ 12) {N : Int} (hv : ∀ (i : Nat) (p : Prc), procs[i]? = some p → checkErr p N = 0) :
    Calls Tryz.prog 38 #[.agg #[.slice op procs.length cp, .slice os ns cs, .slice ow nw cw]] w fun e w' => e = .returned (.bool (commP procs)) ∧ Below w.heap.size w w' := by
  have HP := hide hp
  have HV := hide hv
  clear hp hv
  obtain ⟨n, hn⟩ : ∃ n, n = procs.length := ⟨_, rfl⟩
  have HN := hide hn
  rw [← hn] at hp2 ⊢
  clear hn
  obtain ⟨W1, e1⟩ : ∃ W1, w.alloc (.cells #[.slice op n cp, .slice os ns cs, .slice ow nw cw] 26) = W1 := ⟨_, rfl⟩
  have bx1 : Box W1 w.heap.size [.slice op n cp, .slice os ns cs, .slice ow nw cw] 26 := by rw [← e1]; exact Box.new w [.slice op n cp, .slice os ns cs, .slice ow nw cw] 26
  have bb1 := bnew (Below.refl w.heap.size w) (.cells #[.slice op n cp, .slice os ns cs, .slice ow nw cw] 26)
  rw [e1] at bb1
  have HB := hide bb1
  have HX := hide bx1
  clear bx1 bb1
  go_enter Tryz.func38, Tryz.ntmps38
  go_wp2_with fail
  go_loopw [3] (fun iv wr => ∃ i : Nat, i ≤ n ∧ iv = .int .i64 i ∧ Hid (commP procs = commP (procs.drop i)) ∧ Hid (Below W1.heap.size W1 wr)) (fun iv _ => n - (intOf iv).toNat)
  case atStart => exact ⟨0, by omega, rfl, rfl, Below.refl _ _⟩
  case round =>
    obtain ⟨i, hi, rfl, HE, HBi⟩ := hrel
    have c0 := (HX.out.below HBi.out).cell 0
    simp only [List.getElem?_cons_zero, List.getElem?_cons_succ] at c0
    by_cases hlt : i < n
    · obtain ⟨S5, Le5, rs5, b7, off7, oa7, c7, hd7, hpr, rfl, _, y0, y1, y2, _, il5, hrc, hrc2, hrs⟩ := ((HP.out.below prcR_ok HB.out).below prcR_ok HBi.out).prc_at (i := i) (by have := HN.out; omega)
      have hz := check_zero (HV.out _ _ hpr)
      obtain ⟨Sn, rfl⟩ := Int.eq_ofNat_of_zero_le (show (0 : Int) ≤ S5 by have := hz.2.1.1; simp only at this; omega)
      obtain ⟨Ln, rfl⟩ := Int.eq_ofNat_of_zero_le (show (0 : Int) ≤ Le5 by have := hz.2.2.1.1; simp only at this; omega)
      have HC := hide (witness_any Sn Ln rs5 oa7 c7 _ wr hrs (checkErr_more (HV.out _ _ hpr)) (by have := hz.2.1.2; simp only at this; omega) (by have := hz.2.2.1.2; simp only at this; omega))
      have HD : Hid (commP (procs.drop i) = ((witS (commN rs5) Ln Sn 0).isNone && commP (procs.drop (i + 1)))) := by show _ = _; rw [hd7]; rfl
      clear hd7 hrs hrc hrc2 hpr hz
      obtain ⟨wo, hwo⟩ : ∃ wo, wo = witS (commN rs5) Ln Sn 0 := ⟨_, rfl⟩
      rw [← hwo] at HC HD
      clear hwo
      cases wo with
      | none =>
        go_wp2_with (go_at_call 88; refine HC.out.mono ?_; rintro e w5 ⟨v, rfl, ho, h5⟩; obtain ⟨o5, c5, rfl, _, _⟩ := ho.slice intR_ok; have HB5 := hide (HBi.out.trans (h5.mono HBi.out.size)); clear h5 ho; simp only [witL, List.length_nil])
        go_roundw
        case rel => exact ⟨i + 1, by omega, by go_num, by show _ = _; rw [HE.out, HD.out]; rfl, HB5⟩
        case measure => simp [intOf]; omega
      | some t =>
        obtain ⟨t1, t2, t3⟩ := t
        go_wp2_with (go_at_call 88; refine HC.out.mono ?_; rintro e w5 ⟨v, rfl, ho, h5⟩; obtain ⟨o5, c5, rfl, _, _⟩ := ho.slice intR_ok; have HB5 := hide (HBi.out.trans (h5.mono HBi.out.size)); clear h5 ho; simp only [witL, List.length_cons, List.length_nil])
        go_ret
        exact ⟨ret_bool (by rw [HE.out, HD.out]; rfl), HB.out.trans (HB5.out.mono HB.out.size)⟩
    · go_wp2_with fail
      go_ret
      exact ⟨ret_bool (by rw [HE.out, List.drop_eq_nil_of_le (by have := HN.out; omega)]; rfl), HB.out.trans (HBi.out.mono HB.out.size)⟩

set_option maxRecDepth 100000 in
set_option maxHeartbeats 2000000 in
theorem rfew55_any (procs : List Prc) (op : Option Addr) (cp : Nat) (os : Option Addr) (ns cs : Nat) (wt : List (List Int)) (ow : Option Addr) (cw : Nat) (F : Foot) (w : World) (hp : SliceR prcR 3 F w op procs) (hp2 : procs.length ≤ 9223372036854775807) (ht : SliceR (slcR intR 1) 1 F w ow wt) (ht2 : wt.length ≤ 9223372036854775807) :
    Calls Tryz.prog 24 #[.agg #[.slice op procs.length cp, .slice os ns cs, .slice ow wt.length cw]] w (SomeBool w) := by
  have HP := hide hp
  have HT := hide ht
  clear hp ht
  obtain ⟨n, hn⟩ : ∃ n, n = procs.length := ⟨_, rfl⟩
  obtain ⟨tl, htl⟩ : ∃ n, n = wt.length := ⟨_, rfl⟩
  have HN := hide hn
  have HTL := hide htl
  rw [← hn] at hp2 ⊢
  rw [← htl] at ht2 ⊢
  clear hn htl
  obtain ⟨W1, e1⟩ : ∃ W1, w.alloc (.cells #[.slice op n cp, .slice os ns cs, .slice ow tl cw] 26) = W1 := ⟨_, rfl⟩
  have bx1 : Box W1 w.heap.size [.slice op n cp, .slice os ns cs, .slice ow tl cw] 26 := by rw [← e1]; exact Box.new w [.slice op n cp, .slice os ns cs, .slice ow tl cw] 26
  have bb1 := bnew (Below.refl w.heap.size w) (.cells #[.slice op n cp, .slice os ns cs, .slice ow tl cw] 26)
  rw [e1] at bb1
  have z0 := bx1.cell 0
  have z1 := bx1.cell 1
  have z2 := bx1.cell 2
  simp only [List.getElem?_cons_zero, List.getElem?_cons_succ] at z0 z1 z2
  have HB := hide bb1
  have HX := hide bx1
  clear bx1 bb1
  by_cases h1 : 14 < n
  · have k1 : (14 : Int) < n := by omega
    go_enter Tryz.func24, Tryz.ntmps24
    go_wp2_with fail
    go_ret
    exact ⟨_, rfl, HB.out⟩
  have k1 : ¬ (14 : Int) < n := by omega
  by_cases h2 : 30 < ns
  · have k2 : (30 : Int) < ns := by omega
    go_enter Tryz.func24, Tryz.ntmps24
    go_wp2_with fail
    go_ret
    exact ⟨_, rfl, HB.out⟩
  have k2 : ¬ (30 : Int) < ns := by omega
  by_cases h3 : 30 < tl
  · have k3 : (30 : Int) < tl := by omega
    go_enter Tryz.func24, Tryz.ntmps24
    go_wp2_with fail
    go_ret
    exact ⟨_, rfl, HB.out⟩
  have k3 : ¬ (30 : Int) < tl := by omega
  go_enter Tryz.func24, Tryz.ntmps24
  go_wp2_with fail
  clear z0 z1 z2
  go_loopw [3] (fun iv wr => ∃ i : Nat, i ≤ n ∧ iv = .int .i64 i ∧ Hid (Below W1.heap.size W1 wr)) (fun iv _ => n - (intOf iv).toNat)
  case atStart => exact ⟨0, by omega, rfl, Below.refl _ _⟩
  case round =>
    obtain ⟨i, hi, rfl, HBi⟩ := hrel
    have c0 := (HX.out.below HBi.out).cell 0
    have c2 := (HX.out.below HBi.out).cell 2
    simp only [List.getElem?_cons_zero, List.getElem?_cons_succ] at c0 c2
    by_cases hlt : i < n
    · obtain ⟨S5, Le5, rs5, b7, off7, oa7, c7, hd7, hpr, rfl, _, y0, y1, y2, _, il5, hrc, hrc2, hrs⟩ := ((HP.out.below prcR_ok HB.out).below prcR_ok HBi.out).prc_at (i := i) (by have := HN.out; omega)
      have HC := hide (few_any S5 Le5 rs5 oa7 c7 _ wr hrs hrc hrc2)
      clear hd7 hrs hrc hrc2 hpr
      go_wp2_with fail
      refine HC.out.mono ?_
      rintro e w5 ⟨b, rfl, h5⟩
      have HB5 := hide (HBi.out.trans (h5.mono HBi.out.size))
      clear h5
      cases b
      · go_wp2_with fail
        go_ret
        exact ⟨_, rfl, HB.out.trans (HB5.out.mono HB.out.size)⟩
      · go_wp2_with fail
        go_roundw
        case rel => exact ⟨i + 1, by omega, by go_num, HB5⟩
        case measure => simp [intOf]; omega
    · have HT5 := hide ((HT.out.below tabR' HB.out).below tabR' HBi.out)
      go_wp2_with fail
      go_loopw [4] (fun iv wr2 => wr2 = wr ∧ ∃ i : Nat, i ≤ tl ∧ iv = .int .i64 i) (fun iv _ => tl - (intOf iv).toNat)
      case atStart => exact ⟨by first | rfl | trivial, 0, by omega, rfl⟩
      case round =>
        obtain ⟨rfl, i4, hi4, rfl⟩ := hrel
        by_cases hlt4 : i4 < tl
        · obtain ⟨l, _, _, b9, off9, oa9, c9, rfl, _, y9, _, hcl2, _⟩ := HT5.out.slc_at (i := i4) (by have := HTL.out; omega)
          by_cases hl30 : 30 < l.length
          · have q : (30 : Int) < l.length := by omega
            go_wp2_with fail
            go_ret
            exact ⟨_, rfl, HB.out.trans (HBi.out.mono HB.out.size)⟩
          · have q : ¬ (30 : Int) < l.length := by omega
            go_wp2_with fail
            go_roundw
            case rel => exact ⟨by first | rfl | trivial, i4 + 1, by omega, by go_num⟩
            case measure => simp [intOf]; omega
        · go_wp2_with fail
          go_ret
          exact ⟨_, rfl, HB.out.trans (HBi.out.mono HB.out.size)⟩

set_option maxRecDepth 100000 in
set_option maxHeartbeats 2000000 in
theorem rsmall_any (np cp : Nat) (op : Option Addr) (os : Option Addr) (ns cs : Nat) (wt : List (List Int)) (ow : Option Addr) (cw : Nat) (F : Foot) (w : World) (ht : SliceR (slcR intR 1) 1 F w ow wt) (ht2 : wt.length ≤ 12) (hr : ∀ t ∈ wt, t.length ≤ 8 ∧ ∀ k ∈ t, 0 ≤ k) :
    Calls Tryz.prog 37 #[.agg #[.slice op np cp, .slice os ns cs, .slice ow wt.length cw]] w fun e w' => ∃ b, e = .returned (.bool b) ∧ (b = true → ∀ t ∈ wt, ∀ k ∈ t, k ≤ 40) ∧ Below w.heap.size w w' := by
  have HT := hide ht
  have HRR := hide hr
  clear ht hr
  obtain ⟨tl, htl⟩ : ∃ n, n = wt.length := ⟨_, rfl⟩
  have HTL := hide htl
  rw [← htl] at ht2 ⊢
  clear htl
  obtain ⟨W1, e1⟩ : ∃ W1, w.alloc (.cells #[.slice op np cp, .slice os ns cs, .slice ow tl cw] 26) = W1 := ⟨_, rfl⟩
  have bx1 : Box W1 w.heap.size [.slice op np cp, .slice os ns cs, .slice ow tl cw] 26 := by rw [← e1]; exact Box.new w [.slice op np cp, .slice os ns cs, .slice ow tl cw] 26
  have bb1 := bnew (Below.refl w.heap.size w) (.cells #[.slice op np cp, .slice os ns cs, .slice ow tl cw] 26)
  rw [e1] at bb1
  have c2 := bx1.cell 2
  simp only [List.getElem?_cons_zero, List.getElem?_cons_succ] at c2
  have HB := hide bb1
  have HT5 := hide (HT.out.below tabR' bb1)
  clear bx1 bb1
  go_enter Tryz.func37, Tryz.ntmps37
  go_wp2_with fail
  go_loopw [3, 4] (fun sv iv wr => wr = W1 ∧ ∃ i a : Nat, i ≤ tl ∧ a ≤ 320 * i ∧ sv = .int .i64 a ∧ iv = .int .i64 i ∧ Hid (∀ t ∈ wt.take i, ∀ k ∈ t, k ≤ 40)) (fun _ iv _ => tl - (intOf iv).toNat)
  case atStart => exact ⟨rfl, 0, 0, by omega, by omega, rfl, rfl, fun t ht => by simp at ht⟩
  case round =>
    obtain ⟨rfl, i, a, hi, ha, rfl, rfl, HE⟩ := hrel
    by_cases hlt : i < tl
    · obtain ⟨l, hd, hxl, b9, off9, oa9, c9, rfl, _, y9, _, hcl2, hsl⟩ := HT5.out.slc_at (i := i) (by have := HTL.out; omega)
      have HL8 := hide (HRR.out l (List.mem_of_getElem? hxl))
      have HS9 := hide hsl
      obtain ⟨ll, hll⟩ : ∃ n, n = l.length := ⟨_, rfl⟩
      have h8 : ll ≤ 8 := by rw [hll]; exact HL8.out.1
      rw [← hll] at y9 hcl2
      have HLL := hide hll
      have HTK : Hid (wt.take (i + 1) = wt.take i ++ [l]) := by show _ = _; rw [List.take_add_one, hxl]; rfl
      clear hd hxl hsl hll
      go_wp2_with fail
      go_loopw [3, 5] (fun sv iv wr2 => wr2 = wr ∧ ∃ j a' : Nat, j ≤ ll ∧ a' ≤ 320 * i + 40 * j ∧ sv = .int .i64 a' ∧ iv = .int .i64 j ∧ Hid (∀ k ∈ l.take j, k ≤ 40)) (fun _ iv _ => ll - (intOf iv).toNat)
      case atStart => exact ⟨by first | rfl | trivial, 0, a, by omega, by omega, rfl, rfl, fun t ht => by simp at ht⟩
      case round =>
        obtain ⟨rfl, j, a', hj, ha', rfl, rfl, HF⟩ := hrel
        by_cases hlj : j < ll
        · obtain ⟨k, _, hxk, _, b2, off2, rfl, _, c3⟩ := HS9.out.int_at (i := j) (by have := HLL.out; omega)
          have hk0 := HL8.out.2 k (List.mem_of_getElem? hxk)
          by_cases hk40 : k ≤ 40
          · obtain ⟨kn, rfl⟩ := Int.eq_ofNat_of_zero_le hk0
            have HF2 : Hid (∀ x ∈ l.take (j + 1), x ≤ 40) := fun x hx => by
              rw [List.take_add_one, hxk] at hx
              rcases List.mem_append.1 hx with hx | hx
              · exact HF.out x hx
              · simp at hx; rw [hx]; exact hk40
            have q1 : ¬ (40 : Int) < kn := by omega
            clear hxk hk0
            go_wp2_with fail
            go_roundw
            case rel => exact ⟨by first | rfl | trivial, j + 1, a' + kn, by omega, by omega, by go_num, by go_num, HF2⟩
            case measure => simp [intOf]; omega
          · have q1 : (40 : Int) < k := by omega
            clear hk40 hxk
            go_wp2_with fail
            go_ret
            exact ⟨_, rfl, (fun h => by cases h), HB.out⟩
        · have HTN : Hid (∀ t ∈ wt.take (i + 1), ∀ k ∈ t, k ≤ 40) := fun t ht k hk => by
            rw [HTK.out] at ht
            rcases List.mem_append.1 ht with ht | ht
            · exact HE.out t ht k hk
            · simp at ht
              subst ht
              have := HF.out k
              rw [List.take_of_length_le (by have := HLL.out; omega)] at this
              exact this hk
          go_wp2_with fail
          go_roundw
          case rel => exact ⟨by first | rfl | trivial, i + 1, a', by omega, by omega, by first | rfl | trivial, by go_num, HTN⟩
          case measure => simp [intOf]; omega
    · have HA : Hid (∀ t ∈ wt, ∀ k ∈ t, k ≤ 40) := by
        have := HE.out
        rw [List.take_of_length_le (by have := HTL.out; omega)] at this
        exact this
      go_wp2_with fail
      go_ret
      exact ⟨_, rfl, fun _ => HA.out, HB.out⟩

end Go.Proofs.YtnigfddanoaonaaGreat

set_option linter.unusedVariables false
set_option linter.unusedSimpArgs false
namespace Go.Proofs.YtnigfddanoaonaaGreat
open Go.RowKit

theorem ruleInfoN : (Tryz.prog.info? 99).map (fun i => (i.zero, i.size, i.bytes)) = some (some (.agg #[.int .i64 0, .slice none 0 0]), 2, 32) := by kernel_rfl
theorem rowInfoN : (Tryz.prog.info? 100).map (fun i => (i.zero, i.size, i.bytes)) = some (some (.slice none 0 0), 1, 24) := by kernel_rfl
theorem prcInfoN : (Tryz.prog.info? 89).map (fun i => (i.zero, i.size, i.bytes)) = some (some (.agg #[.int .i64 0, .int .i64 0, .slice none 0 0]), 3, 40) := by kernel_rfl
theorem tabInfoN : (Tryz.prog.info? 23).map (fun i => (i.zero, i.size, i.bytes)) = some (some (.slice none 0 0), 1, 24) := by kernel_rfl
theorem intInfoN : (Tryz.prog.info? 3).map (fun i => (i.zero, i.size, i.bytes)) = some (some (.int .i64 0), 1, 8) := by kernel_rfl
theorem intSizeN : (Tryz.prog.info? 3).map (·.size) = some 1 := by kernel_rfl
theorem ruleSizeN : (Tryz.prog.info? 99).map (·.size) = some 2 := by kernel_rfl
theorem alloc_size' (w : World) (o : Obj) : (w.alloc o).heap.size = w.heap.size + 1 := by simp
theorem results_cell_row {P : Program} {fn : Func} {p : Tmp} {ty : TypeId} (h : fn.results = #[.cell p ty]) (tmps : Array Value) (w : World) (g : Nat) (t : TypeId) (cs : Array Value) (fr : Nat × Nat) (d : TypeDesc)
    (hp : tmps.getD p undef = .pointer (some ⟨g, 0, none⟩)) (hg : w.heap[g]? = some (.cells cs t fr))
    (hu : P.underlying ty = some d) (hd : (match d with | .struct _ | .array _ _ => true | _ => false) = true) (hi : (P.info? ty).map (·.size) = some cs.size) :
    (results fn tmps).run P w = .ok (.agg cs) w := by
  have hp' : tmps[p]?.getD undef = .pointer (some ⟨g, 0, none⟩) := by simpa using hp
  simp only [results, h]
  simp [hp', asAddr, Result.andThen, Sem.run_bind, run_loadVar_row w g t ty cs fr d hg hu hd hi]
theorem ownsRow_lt {w : World} {base : Nat} {e : TypeId} {sz g n m c : Nat} {zs : List Value} (h : w.ownsRow base e sz (.slice (some ⟨g, 0, none⟩) n c) m zs) : g < w.heap.size := by
  rcases h.2 with ⟨hh, _⟩ | ⟨g', cap, cur, hh, _, hg, _⟩
  · cases hh
  · injection hh with hh; injection hh with hh; injection hh with hh; subst hh
    exact (Array.getElem?_eq_some_iff.1 hg).1
/-- In the memory that was there, or in blocks from K on. -/
def OldNew (F : Foot) (B K : Nat) : Foot := fun k => (F k ∧ k < B) ∨ K ≤ k

set_option maxRecDepth 100000 in
set_option maxHeartbeats 4000000 in
theorem ncopied_any (x : Nwk) (op : Option Addr) (cp : Nat) (os : Option Addr) (cs : Nat) (ow : Option Addr) (cw : Nat) (F : Foot) (w : World)
    (hp : SliceR prcR 3 F w op x.procs) (hs : SliceR intR 1 F w os x.state) (ht : SliceR (slcR intR 1) 1 F w ow x.waiting) (hr : Right x) :
    Calls Tryz.prog 50 #[.agg #[.slice op x.procs.length cp, .slice os x.procs.length cs, .slice ow x.procs.length cw]] w fun e w' =>
      ∃ (vp tw : Value) (rs : List Rw) (K H gs : Nat), e = .returned (.agg #[vp, .slice (some ⟨gs, 0, none⟩) x.procs.length x.procs.length, tw]) ∧ w.heap.size ≤ gs ∧ gs < K ∧ K ≤ H ∧ H ≤ w'.heap.size ∧ (∀ g, vp.ownBlock = some g → g < H) ∧
        OwnS prcR 3 K 89 (fun k => InF (OldNew F w.heap.size K) vp k ∧ k < H) w' vp x.procs ∧ Row1 (Value.int .i64) w' gs 3 x.state [] ∧ RTab H tw rs w' ∧ tabL rs = x.waiting ∧ Below w.heap.size w w' := by
  obtain ⟨n, hn⟩ : ∃ n, n = x.procs.length := ⟨_, rfl⟩
  have h1n : 1 ≤ n := by rw [hn]; exact hr.n.1
  have hn12 : n ≤ 12 := by rw [hn]; exact hr.n.2
  have hst : x.state.length = n := by rw [hn]; exact hr.nst
  have hwt : x.waiting.length = n := by rw [hn]; exact hr.nwt
  rw [← hn]
  obtain ⟨W1, e1⟩ : ∃ W1, w.alloc (.cells #[.slice op n cp, .slice os n cs, .slice ow n cw] 26) = W1 := ⟨_, rfl⟩
  have bx1 : Box W1 w.heap.size [.slice op n cp, .slice os n cs, .slice ow n cw] 26 := by rw [← e1]; exact Box.new w [.slice op n cp, .slice os n cs, .slice ow n cw] 26
  have bb1 := bnew (Below.refl w.heap.size w) (.cells #[.slice op n cp, .slice os n cs, .slice ow n cw] 26)
  rw [e1] at bb1
  have z1 : W1.heap.size = w.heap.size + 1 := by rw [← e1]; simp
  obtain ⟨W2, e2⟩ : ∃ W2, W1.alloc (.cells #[.slice none 0 0, .slice none 0 0, .slice none 0 0] 26) = W2 := ⟨_, rfl⟩
  have bx2 : Box W2 W1.heap.size [.slice none 0 0, .slice none 0 0, .slice none 0 0] 26 := by rw [← e2]; exact Box.new W1 [.slice none 0 0, .slice none 0 0, .slice none 0 0] 26
  have bb2 := bnew (Below.refl W1.heap.size W1) (.cells #[.slice none 0 0, .slice none 0 0, .slice none 0 0] 26)
  rw [e2] at bb2
  have z2 : W2.heap.size = W1.heap.size + 1 := by rw [← e2]; simp
  have hb2 := bb1.trans (bb2.mono bb1.size)
  have bx1 := bx1.below bb2
  have hP := hide (hp.wide prcR_ok (by omega) (F' := fun k => F k ∧ k < w.heap.size) (fun k h hl => ⟨h, hl⟩))
  have hS := hide (hs.loc intR_ok (by omega))
  have hT := hide (ht.loc tabR' (by omega))
  have d0 := bx1.cell 0
  have d1 := bx1.cell 1
  have d2 := bx1.cell 2
  simp only [List.getElem?_cons_zero, List.getElem?_cons_succ] at d0 d1 d2
  have HB2 := hide hb2
  have HX1 := hide bx1
  have HX2 := hide bx2
  have HR := hide hr
  have HN := hide hn
  have HST := hide hst
  have HWT := hide hwt
  have Z1 := hide z1
  have Z2 := hide z2
  clear hp hs ht hr hn hst hwt bx1 bx2 bb1 bb2 hb2 z1 z2
  go_enter Tryz.func50, Tryz.ntmps50
  go_wp2_with (first
    | (at_make
       refine wpList_make_cells _ rfl _ _ 23 rfl 3 (.int .i64 0) 1 8 Tryz.underlying23 intInfoN .i64 .i64 _ _ n rfl rfl rfl rfl (by omega) (by unfold maxLen; omega) (fun w3 zs h3 g3 => ?_)
       have hb3 : Below W2.heap.size W2 w3 := (Below.refl _ _).grown g3 (Nat.le_refl _) fun k hk => by cases hk
       have m2 := (HX1.out.below hb3).cell 1
       have lw3 := (HX1.out.below hb3).lt
       simp only [List.getElem?_cons_zero, List.getElem?_cons_succ] at m2
       have HO3 := hide h3
       have HB3 := hide hb3
       clear h3 g3 hb3)
    | (refine wpList_copy_fresh intR_ok rfl _ _ 23 23 rfl 3 Tryz.underlying23 intSizeN W2.heap.size n os cs rfl rfl x.state zs (ownsRow_keep HO3.out (fun g hg => (bnew (Below.refl w3.heap.size w3) _).block g (by simp [Value.ownBlock] at hg; have := ownsRow_lt HO3.out; omega))) HST.out (by omega) (by omega) ((hS.out.below intR_ok HB2.out).below intR_ok (HB3.out.alloc HB3.out.size _)) (fun h => by have h9 : W2.heap.size < w.heap.size := h; have := Z1.out; have := Z2.out; omega) (fun w5 h5 g5 => ?_)
       have hs3 := ownsRow_lt HO3.out
       have bx4 := Box.new w3 [.slice none 0 0, .slice (some ⟨W2.heap.size, 0, none⟩) n n, .slice none 0 0] 26
       have hb4 : Below W2.heap.size W2 (w3.alloc (.cells #[.slice none 0 0, .slice (some ⟨W2.heap.size, 0, none⟩) n n, .slice none 0 0] 26)) := HB3.out.alloc HB3.out.size _
       have hb5 : Below W2.heap.size W2 w5 := hb4.trans ((Below.refl _ _).grown g5 (by rw [alloc_size']; omega) fun k hk => by injection hk with hk; omega)
       have HX5 := hide (bx4.grown g5 (fun e => by injection e with e; omega))
       have HW5 := hide hb5
       have HS5 := hide h5
       have c0 := (HX1.out.below hb5).cell 0
       simp only [List.getElem?_cons_zero] at c0
       clear bx4 hb4 g5 h5 hb5 m2 lw3))
  obtain ⟨po, hpo⟩ : ∃ po, po = w3.heap.size := ⟨_, rfl⟩
  obtain ⟨gs, hgs⟩ : ∃ gs, gs = W2.heap.size := ⟨_, rfl⟩
  rw [← hpo] at HX5 hs3 ⊢
  rw [← hgs] at HX5 HS5 HW5 hs3 ⊢
  have HPO := hide hpo
  have HGS := hide hgs
  have HRS : Hid (Row1 (Value.int .i64) w5 gs 3 x.state []) := by
    obtain ⟨g, cap, rest, he, _, hc, _, hrow, _⟩ := HS5.out.row (by intro e; have := HST.out; rw [e] at this; simp at this; omega)
    injection he with e1 e2 e3
    injection e1 with e1
    injection e1 with e1
    have := HST.out
    have hr0 : rest = [] := List.eq_nil_of_length_eq_zero (by omega)
    rw [hr0, ← e1] at hrow
    exact hrow
  have hB0 : w.heap.size + 2 ≤ gs := by have := Z1.out; have := Z2.out; omega
  clear hpo hgs HO3 HB3 HS5 d0 d1 d2
  go_loopg [26] n (fun gm iv wr => ∃ (i : Nat) (vp : Value), i ≤ n ∧ gm = n - i ∧ iv = .int .i64 i ∧ Hid (OwnS prcR 3 (po + 1) 89 (InF (OldNew F w.heap.size (po + 1)) vp) wr vp (x.procs.take i)) ∧ Hid (Box wr po [vp, .slice (some ⟨gs, 0, none⟩) n n, .slice none 0 0] 26) ∧ Hid (Below po w5 wr))
  case atStart => exact ⟨0, _, by omega, by omega, rfl, OwnS.nil _ _ _ _ _ _, HX5, Below.refl _ _⟩
  case round =>
    obtain ⟨i, vp, hi, hgm, rfl, HO, HX, HB⟩ := hrel
    have HGM := hide hgm
    clear hgm
    have hbw : Below w.heap.size w wr := HB2.out.trans ((HW5.out.mono (by omega)).trans (HB.out.mono (by omega)))
    have hpl := HX.out.lt
    by_cases hlt : i < n
    · have hip : i < x.procs.length := by have := HN.out; omega
      obtain ⟨S, Le, rs, b7, off7, oR, cR, hd7, hpr, hoP, _, y0, y1, y2, iS, iL, hrc, _, hrs⟩ := (hP.out.keep (w' := wr) prcR_ok (fun k hk _ => hbw.block k hk.2)).prc_at hip
      subst hoP
      obtain ⟨hsm1, hsm2⟩ := copy_small (HR.out.proc i _ hpr)
      simp only at hsm1 hsm2
      have hrl := fun (j : Nat) (row : List Rul) (hj : rs[j]? = some row) => valid_row (HR.out.proc i _ hpr) hj
      simp only at hrl
      have hle := (check_zero (HR.out.proc i _ hpr)).2.2.1.1
      simp only at hle
      obtain ⟨oV, cV, hvp, _, _⟩ := HO.out.slice prcR_ok
      rw [List.length_take, Nat.min_eq_left (by omega)] at hvp
      have o0 := HX.out.cell 0
      simp only [List.getElem?_cons_zero] at o0
      have HPR := hide hpr
      have HSM := hide hsm2
      have HRL := hide hrl
      have HRS2 := hide hrs
      have HRC := hide hrc
      obtain ⟨rn, hrn⟩ : ∃ rn, rn = rs.length := ⟨_, rfl⟩
      have HRN := hide hrn
      rw [← hrn] at y2 hsm1
      have HBW := hide hbw
      have HLE := hide hle
      have HVP := hide hvp
      clear hd7 hpr hsm2 hrl hrs hrc hrn hbw hle hvp o0
      go_wp2_with fail
      obtain ⟨H, hH⟩ : ∃ H, H = wr.heap.size := ⟨_, rfl⟩
      obtain ⟨W7, e7⟩ : ∃ W7, (wr.alloc (.cells #[.int .i64 S, .int .i64 Le, .slice oR rn cR] 89)).alloc (.cells #[.int .i64 S, .int .i64 Le, .slice none 0 0] 89) = W7 := ⟨_, rfl⟩
      have bxp : Box W7 wr.heap.size [.int .i64 S, .int .i64 Le, .slice oR rn cR] 89 := by rw [← e7]; exact (Box.new wr [.int .i64 S, .int .i64 Le, .slice oR rn cR] 89).next _
      have bxq : Box W7 (wr.heap.size + 1) [.int .i64 S, .int .i64 Le, .slice none 0 0] 89 := by
        rw [← e7]
        have := Box.new (wr.alloc (.cells #[.int .i64 S, .int .i64 Le, .slice oR rn cR] 89)) [.int .i64 S, .int .i64 Le, .slice none 0 0] 89
        rw [alloc_size'] at this
        exact this
      have hb7 : Below wr.heap.size wr W7 := by rw [← e7]; exact bnew (bnew (Below.refl _ _) _) _
      have hz7 : W7.heap.size = wr.heap.size + 2 := by rw [← e7, alloc_size', alloc_size']
      rw [e7]
      rw [← hH] at bxp bxq hb7 hz7
      rw [← hH]
      have HXP := hide bxp
      have HXQ := hide bxq
      have HB7 := hide hb7
      have HH := hide hH
      have HOV := hide (HO.out.block)
      have HOH : Hid (OwnS prcR 3 (po + 1) 89 (fun k => InF (OldNew F w.heap.size (po + 1)) vp k ∧ k < H) wr vp (x.procs.take i)) := HO.out.wide prcR_ok fun k hk hkl => ⟨hk, by have := HH.out; omega⟩
      have HXO : Hid (Box wr po [vp, .slice (some ⟨gs, 0, none⟩) n n, .slice none 0 0] 26) := HX.out
      rw [← hH] at HOV hpl
      clear e7 bxp bxq hb7 hH y0 y1 y2 c0
      go_loopg [38] rn (fun gm2 sv wx => ∃ (s : Nat) (vq : Value), s ≤ rn ∧ gm2 = rn - s ∧ sv = .int .i64 s ∧ Hid (OwnS (slcR ruleR 2) 1 (H + 2) 100 (InF (OldNew F w.heap.size (H + 2)) vq) wx vq (rs.take s)) ∧ Hid (Box wx (H + 1) [.int .i64 S, .int .i64 Le, vq] 89) ∧ Hid (Below (H + 1) W7 wx))
      case atStart => exact ⟨0, _, by omega, by omega, rfl, OwnS.nil _ _ _ _ _ _, HXQ, Below.refl _ _⟩
      case round =>
        obtain ⟨s, vq, hs, hgm2, rfl, HOq, HXq, HBq⟩ := hrel
        have HGM2 := hide hgm2
        clear hgm2
        have hql := HXq.out.lt
        have hkeep : ∀ k, k < H → wr.heap[k]? = W7.heap[k]? := fun k hk => HBq.out.block k (by omega)
        by_cases hls : s < rn
        · have hbw2 : ∀ k, k < w.heap.size → wr.heap[k]? = w.heap[k]? := fun k hk => by
            rw [hkeep k (by omega), HB7.out.block k (by omega)]
            exact HBW.out.block k hk
          obtain ⟨row, hd, hrow, b9, off9, oW, cW, hoR, _, y9, hcw, _, hsw⟩ := (HRS2.out.keep (w' := wr) rowR_ok (fun k hk _ => by have hk' : k < w.heap.size := hk.2; rw [hkeep k (by omega), HB7.out.block k (by omega)])).slc_at (i := s) (by have := HRN.out; omega)
          subst hoR
          have hln := HRL.out s row hrow
          have hm := HSM.out row (List.mem_of_getElem? hrow)
          obtain ⟨hm1, hm2⟩ := hm
          have HM2 := hide hm2
          have HRW := hide hrow
          have HSW := hide hsw
          obtain ⟨oQq, cQq, hvq, _, _⟩ := HOq.out.slice rowR_ok
          rw [List.length_take, Nat.min_eq_left (by have := HRN.out; omega)] at hvq
          have HVQ := hide hvq
          obtain ⟨ln, hll⟩ : ∃ ln, ln = row.length := ⟨_, rfl⟩
          have HLL := hide hll
          rw [← hll] at y9 hm1
          have hl1 : 1 ≤ ln := by have := HLE.out; omega
          obtain ⟨G, hG⟩ : ∃ G, G = wr.heap.size := ⟨_, rfl⟩
          have HG := hide hG
          have hGH : H + 2 ≤ G := by have := HBq.out.size; omega
          have HOqG : Hid (OwnS (slcR ruleR 2) 1 (H + 2) 100 (fun k => InF (OldNew F w.heap.size (H + 2)) vq k ∧ k < G) wr vq (rs.take s)) := HOq.out.wide rowR_ok fun k hk hkl => ⟨hk, by omega⟩
          have OVq : Hid (∀ g, vq.ownBlock = some g → H + 2 ≤ g ∧ g < G) := fun g hg => by have := HOq.out.block g hg; omega
          clear hd hrow hsw hln hm2 hll hvq hG hcw
          go_wp2_with (first
            | (at_make
               refine wpList_make_cells _ rfl _ _ 100 rfl 99 (.agg #[.int .i64 0, .slice none 0 0]) 2 32 Tryz.underlying100 ruleInfoN .i64 .i64 _ _ ln rfl rfl rfl rfl (by omega) (by unfold maxLen; omega) (fun y3 zs h3 g3 => ?_)
               have HO3 := hide h3
               have HG3 := hide g3
               clear h3 g3)
            | (refine wpList_copy_fresh ruleR_ok rfl _ _ 100 100 rfl 99 Tryz.underlying100 ruleSizeN wr.heap.size ln oW cW rfl rfl row zs HO3.out HLL.out.symm (by omega) (by omega) (HSW.out.keep (w' := y3) ruleR_ok (fun k hk hkl => HG3.out.block k hkl (fun e => by cases e))) (fun h => by have h9 : wr.heap.size < w.heap.size := h.2; omega) (fun y5 h5 g5 => ?_)
               have hy3 := ownsRow_lt HO3.out
               have HG5 := hide g5
               have HS5 := hide (h5.wide ruleR_ok (F' := fun k => OldNew F w.heap.size wr.heap.size k ∧ k ≠ wr.heap.size) (fun k hk _ => ⟨.inl hk, fun e => by have hk' : k < w.heap.size := hk.2; omega⟩))
               have hb35 : Below wr.heap.size wr y5 := ((Below.refl _ _).grown HG3.out (Nat.le_refl _) fun k hk => by cases hk).trans ((Below.refl _ _).grown g5 (by omega) fun k hk => by injection hk with hk; omega)
               have HB35 := hide hb35
               clear g5 h5 hb35))
          rw [← HG.out] at HS5 HB35
          rw [← HG.out]
          have hy5 : G + 1 ≤ y5.heap.size := by
            have h1 := HG5.out.size
            rw [HG.out]
            omega
          clear HO3 HG3 HG5 hy3
          go_loopg [50] ln (fun gm3 av wy => ∃ (a : Nat), a ≤ ln ∧ gm3 = ln - a ∧ av = .int .i64 a ∧ Hid (OwnS ruleR 2 G 99 (fun k => OldNew F w.heap.size G k ∧ k ≠ G) wy (.slice (some ⟨G, 0, none⟩) ln ln) row) ∧ Hid (Below G y5 wy))
          case atStart => exact ⟨0, by omega, by omega, rfl, HS5, Below.refl _ _⟩
          case round =>
            obtain ⟨a, ha, hgm3, rfl, HOa, HBa⟩ := hrel
            have HGM3 := hide hgm3
            clear hgm3
            by_cases hla : a < ln
            · obtain ⟨⟨nx, st⟩, hru⟩ : ∃ r, row[a]? = some r := ⟨_, List.getElem?_eq_getElem (by have := HLL.out; omega)⟩
              have hm3 := HM2.out _ (List.mem_of_getElem? hru)
              simp only at hm3
              obtain ⟨g33, hc33, hog, hg331, hg332, hrow33, ⟨oQ, cQ, rfl, iN, hcq, _, hsq⟩⟩ := HOa.out.hole hru
              injection hog with hog
              injection hog with hog
              subst hog
              simp only at hrow33 iN hcq hsq
              have zz := hrow33.cell (j := 1) (by omega)
              have zf := hrow33.free (a * 2 + 1)
              simp only [List.getElem?_cons_zero, List.getElem?_cons_succ] at zz
              have HCO := hide (cloneO_any st oQ cQ _ wr hsq hcq (by omega))
              have HRU := hide hru
              have HR33 := hide hrow33
              obtain ⟨sn, hsn⟩ : ∃ sn, sn = st.length := ⟨_, rfl⟩
              have HSN := hide hsn
              rw [← hsn] at HCO zz hm3
              clear hru hrow33 hsq hsn hcq
              go_wp2_with (go_at_call 95; refine HCO.out.mono ?_
                           rintro e w6 ⟨v49, rfl, h49, hb49⟩
                           obtain ⟨o49, c49, hv49, hc49, hs49⟩ := h49.slice outR_ok
                           rw [← HSN.out] at hv49 hc49
                           subst hv49
                           have hr33 := HR33.out.keep ruleR_ok (hb49.block _ hg332) (SameOn.of_below hb49)
                           have zz := hr33.cell (j := 1) (by omega)
                           have zf := hr33.free (a * 2 + 1)
                           simp only [List.getElem?_cons_zero, List.getElem?_cons_succ] at zz
                           have HR34 := hide hr33
                           have HS49 := hide hs49
                           have HB49 := hide hb49
                           clear h49 hb49 hs49 hr33)
              go_roundg (ln - (a + 1))
              case measure => have := HGM3.out; omega
              case rel =>
                have hput := HR34.out.put ruleR_ok (fun h => h.2 rfl) (j := 1) (by omega) (u := .slice o49 sn c49) rfl
                simp only [List.set_cons_succ, List.set_cons_zero] at hput
                have hs50 : SliceR outR 2 (fun k => OldNew F w.heap.size G k ∧ k ≠ G) (w6.setCell ⟨G, a * 2 + 1, none⟩ (.slice o49 sn c49)) o49 st := by
                  refine (HS49.out.wide outR_ok (by decide) (F' := fun k => OldNew F w.heap.size G k ∧ k ≠ G) fun k hk _ => ?_).keep outR_ok fun k hk _ => Below.heap_setCell _ _ _ k hk.2
                  rcases hk with hk | hk
                  · exact hk.1
                  · exact ⟨.inr (by omega), by omega⟩
                have hfill := hput.fill HRU.out ⟨o49, c49, by simp [HSN.out], iN, by simp only; have := HSN.out; omega, by simp only; have := HSN.out; omega, hs50⟩
                exact ⟨a + 1, by omega, rfl, by go_num, hfill, (HBa.out.trans (HB49.out.mono (by omega))).setCell (Nat.le_refl _) _⟩
            · have hla2 := hla
              have hvq := HVQ.out
              subst hvq
              have hbG := HB35.out.trans HBa.out
              have howq := (HOqG.out.keep (w' := wr) rowR_ok (fun g hg => hbG.block g (OVq.out g hg).2) (fun k hk _ => hbG.block k hk.2)).wide rowR_ok (F' := InF (OldNew F w.heap.size (H + 2)) (.slice oQq s cQq)) (fun k hk _ => hk.1)
              have hxq := HXq.out.keep (w' := wr) (hbG.block (H + 1) (by omega))
              have hrep : slcR ruleR 2 (InF (OldNew F w.heap.size (H + 2)) (.slice oQq s cQq)) wr [.slice (some ⟨G, 0, none⟩) ln ln] row := by
                obtain ⟨o9, c9, e9, hc9, hs9⟩ := HOa.out.slice ruleR_ok
                injection e9 with q1 q2 q3
                refine ⟨o9, c9, by rw [q1, ← q2, q3], hc9, by omega, hs9.wide ruleR_ok (by decide) fun k hk _ => ?_⟩
                have hk2 : (F k ∧ k < w.heap.size) ∨ G ≤ k := by
                  rcases hk with hk | hk
                  · exact hk.1
                  · exact .inr hk
                refine ⟨?_, fun he => ?_⟩
                · rcases hk2 with h | h
                  · exact .inl h
                  · exact .inr (by omega)
                · have := OVq.out k he.symm
                  omega
              have k2 := hxq.cell 2
              have k2n := (hxq.next (.cells #[.slice (some ⟨G, 0, none⟩) ln ln] 100)).cell 2
              have lq := hxq.lt
              simp only [List.getElem?_cons_zero, List.getElem?_cons_succ] at k2 k2n
              have HOWQ := hide howq
              have HXQ2 := hide hxq
              have HREP := hide hrep
              have HBG := hide hbG
              have HTL : Hid ((rs.take s).length = s) := by show _ = _; rw [List.length_take, Nat.min_eq_left (by have := HRN.out; omega)]
              clear howq hxq hrep hbG
              go_wp2_with (at_builtin
                           refine wpList_append_in rfl (.tmp 65) (.tmp 67) 87 rfl (H + 2) 100 _ 1 24 Tryz.underlying87 rowInfoN rfl (by decide) rowR_ok (OldNew F w.heap.size (H + 2)) (.slice oQq s cQq) (rs.take s) (by simp [Act.eval, Act.put]) (HOWQ.out.new rowR_ok _) ⟨_, 0, none⟩ 1 [.slice (some ⟨G, 0, none⟩) ln ln] row (by simp [Act.eval, Act.put]) (World.news_of_block (heap_alloc_new _ _)) (rowR_ok.keep HREP.out (SameOn.of_below (bnew (Below.refl _ _) _))) (by rw [HTL.out]; omega) (by rw [HTL.out]; unfold maxLen; omega) (by rw [alloc_size']; omega) (fun v' w8 ho hb8 hg8 hat => ?_)
                           have hbx8 := (HXQ2.out.next (.cells #[.slice (some ⟨G, 0, none⟩) ln ln] 100)).grown hg8 (fun e => by have := OVq.out (H + 1) e.symm; omega)
                           have m2 := hbx8.cell 2
                           have mf := hbx8.free 2
                           obtain ⟨o8, c8, hv8, _, _⟩ := ho.slice rowR_ok
                           rw [List.length_append, HTL.out] at hv8
                           simp only [List.length_cons, List.length_nil, Nat.zero_add] at hv8
                           subst hv8
                           simp only [List.getElem?_cons_zero, List.getElem?_cons_succ] at m2
                           have HOW8 := hide ho
                           have HX8 := hide hbx8
                           have HB8 := hide hb8
                           clear ho hb8 hg8 hat hbx8 k2 k2n)
              go_roundg (rn - (s + 1))
              case measure => have := HGM2.out; omega
              case rel =>
                have hput := HX8.out.put 2 (.slice o8 (s + 1) c8)
                simp only [List.set_cons_zero, List.set_cons_succ] at hput
                refine ⟨s + 1, .slice o8 (s + 1) c8, by omega, rfl, by go_num, ?_, hput, ?_⟩
                · show OwnS _ _ _ _ _ _ _ _
                  rw [List.take_add_one, HRW.out]
                  exact HOW8.out.keep rowR_ok (fun g hg => Below.heap_setCell _ _ _ g (by have := (HOW8.out.block g hg).1; simp only; omega)) (fun k hk _ => Below.heap_setCell _ _ _ k (by have := hk.1; unfold OldNew at this; simp only; omega))
                · exact ((((HBq.out.trans (HBG.out.mono (by omega))).alloc (by omega) _).trans (HB8.out.mono (by omega))).setCell (Nat.le_refl _) _)
        · have hse : s = rn := by omega
          subst hse
          have hvp := HVP.out
          subst hvp
          have hbH := HB7.out.trans (HBq.out.mono (by omega))
          have hown := (HOH.out.keep (w' := wr) prcR_ok (fun g hg => hbH.block g (HOV.out g hg).2) (fun k hk _ => hbH.block k hk.2)).wide prcR_ok (F' := InF (OldNew F w.heap.size (po + 1)) (.slice oV i cV)) (fun k hk _ => hk.1)
          have hxo := HXO.out.keep (w' := wr) (hbH.block po hpl)
          obtain ⟨oq, cq, hvq, hcq, hsq⟩ := HOq.out.slice rowR_ok
          rw [List.take_of_length_le (by have := HRN.out; omega)] at hvq hcq hsq
          rw [← HRN.out] at hvq hcq
          subst hvq
          have hrep : prcR (InF (OldNew F w.heap.size (po + 1)) (.slice oV i cV)) wr [.int .i64 S, .int .i64 Le, .slice oq s cq] ⟨S, Le, rs⟩ := by
            refine ⟨oq, cq, by rw [HRN.out], iS, iL, by simp only; have := HRN.out; omega, by simp only; have := HRN.out; omega, hsq.wide rowR_ok (by decide) fun k hk _ => ?_⟩
            have hk2 : (F k ∧ k < w.heap.size) ∨ H + 2 ≤ k := by
              rcases hk with hk | hk
              · exact hk.1
              · exact .inr hk
            refine ⟨?_, fun he => ?_⟩
            · rcases hk2 with h | h
              · exact .inl h
              · exact .inr (by omega)
            · have := HOV.out k he.symm
              omega
          have q0 := HXq.out.cell 0
          have q1 := HXq.out.cell 1
          have q2 := HXq.out.cell 2
          have k0 := hxo.cell 0
          have k0n := (hxo.next (.cells #[.int .i64 S, .int .i64 Le, .slice oq s cq] 89)).cell 0
          have lpo := hxo.lt
          simp only [List.getElem?_cons_zero, List.getElem?_cons_succ] at q0 q1 q2 k0 k0n
          have HOWN := hide hown
          have HXO2 := hide hxo
          have HREP := hide hrep
          have HBH := hide hbH
          have HTL : Hid ((x.procs.take i).length = i) := by show _ = _; rw [List.length_take, Nat.min_eq_left (by have := HN.out; omega)]
          have HOV2 := hide (fun g hg => (HOV.out g hg).1)
          clear hown hxo hrep hbH hsq hcq
          go_wp2_with (at_builtin
                       refine wpList_append_in rfl (.tmp 72) (.tmp 74) 22 rfl (po + 1) 89 _ 3 40 Tryz.underlying22 prcInfoN rfl (by decide) prcR_ok (OldNew F w.heap.size (po + 1)) (.slice oV i cV) (x.procs.take i) (by simp [Act.eval, Act.put]) (HOWN.out.new prcR_ok _) ⟨_, 0, none⟩ 1 [.int .i64 S, .int .i64 Le, .slice oq s cq] ⟨S, Le, rs⟩ (by simp [Act.eval, Act.put]) (World.news_of_block (heap_alloc_new _ _)) (prcR_ok.keep HREP.out (SameOn.of_below (bnew (Below.refl _ _) _))) (by rw [HTL.out]; omega) (by rw [HTL.out]; unfold maxLen; omega) (by rw [alloc_size']; omega) (fun v' w8 ho hb8 hg8 hat => ?_)
                       have hbx8 := (HXO2.out.next (.cells #[.int .i64 S, .int .i64 Le, .slice oq s cq] 89)).grown hg8 (fun e => by have := HOV2.out po e.symm; omega)
                       have m0 := hbx8.cell 0
                       have mf := hbx8.free 0
                       obtain ⟨o8, c8, hv8, _, _⟩ := ho.slice prcR_ok
                       rw [List.length_append, HTL.out] at hv8
                       simp only [List.length_cons, List.length_nil, Nat.zero_add] at hv8
                       subst hv8
                       simp only [List.getElem?_cons_zero, List.getElem?_cons_succ] at m0
                       have HOW8 := hide ho
                       have HX8 := hide hbx8
                       have HB8 := hide hb8
                       clear ho hb8 hg8 hat hbx8 k0 k0n)
          go_roundg (n - (i + 1))
          case measure => have := HGM.out; omega
          case rel =>
            have hput := HX8.out.put 0 (.slice o8 (i + 1) c8)
            simp only [List.set_cons_zero, List.set_cons_succ] at hput
            refine ⟨i + 1, .slice o8 (i + 1) c8, by omega, rfl, by go_num, ?_, hput, ?_⟩
            · show OwnS _ _ _ _ _ _ _ _
              rw [List.take_add_one, HPR.out]
              exact HOW8.out.keep prcR_ok (fun g hg => Below.heap_setCell _ _ _ g (by have := (HOW8.out.block g hg).1; simp only; omega)) (fun k hk _ => Below.heap_setCell _ _ _ k (by have := hk.1; unfold OldNew at this; simp only; omega))
            · exact ((((HB.out.trans (HBH.out.mono (by omega))).alloc (by omega) _).trans (HB8.out.mono (by omega))).setCell (Nat.le_refl _) _)
    · have hie : i = n := by omega
      subst hie
      obtain ⟨oV, cV, hvp, _, _⟩ := HO.out.slice prcR_ok
      rw [List.length_take, Nat.min_eq_left (by have := HN.out; omega)] at hvp
      subst hvp
      have hO := HO.out
      rw [List.take_of_length_le (by have := HN.out; omega)] at hO
      obtain ⟨Hw, hHw⟩ : ∃ Hw, Hw = wr.heap.size := ⟨_, rfl⟩
      have HHw := hide hHw
      have HOV := hide (fun g hg => (hO.block g hg).2)
      rw [← hHw] at HOV
      have HOH : Hid (OwnS prcR 3 (po + 1) 89 (fun k => InF (OldNew F w.heap.size (po + 1)) (.slice oV i cV) k ∧ k < Hw) wr (.slice oV i cV) x.procs) := hO.wide prcR_ok fun k hk hkl => ⟨hk, by omega⟩
      have HOB := hide (fun g hg => (hO.block g hg).1)
      have hx1 := (HX1.out.under HW5.out (by omega)).under HB.out (by omega)
      have c2 := hx1.cell 2
      have c2o := HX.out.cell 2
      simp only [List.getElem?_cons_zero, List.getElem?_cons_succ] at c2 c2o
      have HBW := hide hbw
      clear hO hHw hx1 hbw
      rw [← HHw.out] at hpl
      go_wp2_with fail
      go_loopg [81] i (fun gm iv wx => ∃ (j : Nat) (tw : Value) (rs : List Rw), j ≤ i ∧ gm = i - j ∧ iv = .int .i64 j ∧ Hid (RTab Hw tw rs wx) ∧ Hid (tabL rs = x.waiting.take j) ∧ Hid (Box wx po [.slice oV i cV, .slice (some ⟨gs, 0, none⟩) i i, tw] 26) ∧ Hid (∀ k, k < Hw → k ≠ po → wx.heap[k]? = wr.heap[k]?) ∧ Hid (Below po wr wx))
      case atStart => exact ⟨0, _, [], by omega, by omega, rfl, RTab.nil _ _, rfl, HX.out, fun _ _ _ => rfl, Below.refl _ _⟩
      case round =>
        obtain ⟨j, tw, rs, hj, hgm2, rfl, HRT, HTB, HXo, HKP, HBj⟩ := hrel
        have HGM2 := hide hgm2
        clear hgm2
        have hbwj : ∀ k, k < w.heap.size → wr.heap[k]? = w.heap[k]? := fun k hk => (HBj.out.block k (by omega)).trans (HBW.out.block k hk)
        have hHwj : Hw ≤ wr.heap.size := by
          have := HBj.out.size
          have := HHw.out
          omega
        have hpoj : po < Hw := hpl
        have HPJ := hide hpoj
        by_cases hlj : j < i
        · obtain ⟨l, _, hwl, b1, off1, ol, cl, how, _, c4, hcl, hcl2, hsl⟩ := (hT.out.keep (w' := wr) tabR' (fun k hk _ => hbwj k hk)).slc_at (i := j) (by have := HWT.out; omega)
          subst how
          have hl8 : 1 ≤ l.length ∧ l.length ≤ 8 := by
            have hip : j < x.procs.length := by have := HN.out; omega
            have hpr := List.getElem?_eq_getElem hip
            have h1 := HR.out.wl j l _ hwl hpr
            have h2 := check_zero (HR.out.proc j _ hpr)
            omega
          have hrl : rs.length = j := by
            have := congrArg List.length HTB.out
            unfold tabL at this
            rw [List.length_map, List.length_take, Nat.min_eq_left (by have := HWT.out; omega)] at this
            exact this
          obtain ⟨ot, ct_, htw, _⟩ := HRT.out.len
          rw [hrl] at htw
          subst htw
          have HLEN : Hid ((rs.map Rw.val).length = j) := by show _ = _; rw [List.length_map]; exact hrl
          have m2 := HXo.out.cell 2
          have mf2 := HXo.out.free 2
          simp only [List.getElem?_cons_zero, List.getElem?_cons_succ] at m2
          have m2d : wr.drew.cell? ⟨po, 2, none⟩ = some (.slice ot j ct_) := m2
          have mf2d : wr.drew.frozen? ⟨po, 2, none⟩ = false := mf2
          have hcl3 := cloneIW_any l ol cl _ wr.drew (hsl.keep intR_ok (fun _ _ _ => rfl)) hcl (by omega)
          obtain ⟨ll, hll⟩ : ∃ ll, ll = l.length := ⟨_, rfl⟩
          have HLL := hide hll
          rw [← hll] at hcl3 c4 hl8 hcl
          have HCL := hide hcl3
          have HWL := hide hwl
          clear hwl hsl hcl2 hcl3 hll hrl
          go_wp2_with fail
          go_region_law (first
              | (refine step_append_at rfl (.tmp 86) (.tmp 89) 24 rfl Hw 23 _ 1 24 Tryz.underlying24 tabInfoN rfl (by decide) valR_ok Non (.slice ot j ct_) (rs.map Rw.val) (by simp [Act.eval, Act.put]) (OwnS.new valR_ok HT7.out _) ⟨_, 0, none⟩ 1 [.slice (some ⟨gr, 0, none⟩) ll capr] (.slice (some ⟨gr, 0, none⟩) ll capr) (by simp [Act.eval, Act.put]) (World.news_of_block (heap_alloc_new _ _)) ⟨rfl, rfl⟩ (fun _ h => h.elim) (by rw [HLEN.out]; omega) (by rw [HLEN.out]; unfold maxLen; omega) (by simp; omega) ?_; intro v' w8 ho hb hg hat; have hbm := (HM7.out.next _).grown hg (fun e => by obtain ⟨cur, hcur⟩ := own_heap HT7.out e.symm; exact ne_type HM7.out hcur (by decide) rfl); have k6 := hbm.cell 2; have kf := hbm.free 2; obtain ⟨o3, c3, hv3, _, _⟩ := ho.slice valR_ok; rw [List.length_append, HLEN.out] at hv3; simp only [List.length_cons, List.length_nil, Nat.zero_add] at hv3; subst hv3; simp only [List.getElem?_cons_zero, List.getElem?_cons_succ] at k6)
              | (go_simp; go_at_call 72; refine HCL.out.mono ?_; rintro e w7 ⟨v60, rfl, h60, hb60⟩; obtain ⟨gr, capr, rr, hv60, hgr, hcapr, _, hrow7, _⟩ := h60.row (by intro e; have := HLL.out; rw [e] at this; simp at this; omega); rw [← HLL.out] at hv60 hcapr; subst hv60; have hcr : ll ≤ capr := by { omega }; clear hcapr h60; have hs7 : wr.heap.size ≤ w7.heap.size := hb60.size; have HT7 := hide (HRT.out.tab.below valR_ok (Below.trans (Below.refl _ _).drew hb60)); have HM7 := hide (HXo.out.below (Below.trans (Below.refl _ _).drew hb60)); have m2 := HM7.out.cell 2; have mf2 := HM7.out.free 2; simp only [List.getElem?_cons_zero, List.getElem?_cons_succ] at m2; have m2n := cell_next m2 (.cells #[.slice (some ⟨gr, 0, none⟩) ll capr] 23); have HR7 := hide hrow7; have HB60 : Hid (Below wr.heap.size wr w7) := (Below.refl _ _).drew.trans hb60; clear hb60 hrow7))
          all_goals
            have hk8 : ∀ k, k < wr.heap.size → some k ≠ (Value.slice ot j ct_).ownBlock → w8.heap[k]? = wr.heap[k]? := fun k hk hne => (hg.block k (by show k < (w7.alloc _).heap.size; simp; omega) hne).trans ((Below.heap_alloc w7 _ k (by omega)).trans (HB60.out.block k hk))
            have hr8 : Row1 (Value.int .i64) w8 gr 3 l rr := HR7.out.keep ((hg.block gr (by have := HR7.out.lt; show gr < (w7.alloc _).heap.size; simp; omega) (fun e => by obtain ⟨cur, hcur⟩ := own_heap HT7.out e.symm; exact ne_type HR7.out hcur (by decide) rfl)).trans (Below.heap_alloc w7 _ gr HR7.out.lt))
            have hpw := HRT.out.push (r := ⟨gr, capr, l, rr⟩) (by unfold Rw.val slV; rw [← HLL.out]; exact ho) hk8 hr8 hgr hHwj (by show l.length ≤ capr; rw [← HLL.out]; exact hcr)
            have hput := hbm.put 2 (.slice o3 (j + 1) c3)
            simp only [List.set_cons_zero, List.set_cons_succ] at hput
            have hown : ∀ k, (Value.slice ot j ct_).ownBlock = some k → Hw ≤ k := fun k hk => (HRT.out.tab.block k hk).1
            have hwz : wr.heap.size ≤ w8.heap.size := by have := hg.size; simp at this; omega
            have hbx : RTab Hw (.slice o3 (j + 1) c3) (rs ++ [⟨gr, capr, l, rr⟩]) (w8.setCell ⟨po, 2, none⟩ (.slice o3 (j + 1) c3)) :=
              hpw.above fun k _ hk => Below.heap_setCell _ _ _ k (by simp only; omega)
            have hkp : ∀ k, k < wr.heap.size → k < Hw → k ≠ po → (w8.setCell ⟨po, 2, none⟩ (.slice o3 (j + 1) c3)).heap[k]? = wr.heap[k]? := fun k hk hk2 hk3 =>
              (Below.heap_setCell _ _ _ k hk3).trans (hk8 k hk fun e => by have := hown k e.symm; omega)
            have hbl : Below po wr (w8.setCell ⟨po, 2, none⟩ (.slice o3 (j + 1) c3)) :=
              ((((HB60.out.mono (B' := po) (Nat.le_trans (Nat.le_of_lt HPJ.out) hHwj)).alloc (Nat.le_trans (Nat.le_trans (Nat.le_of_lt HPJ.out) hHwj) hs7) (.cells #[.slice (some ⟨gr, 0, none⟩) ll capr] 23)).trans (hb.mono (B' := po) (Nat.le_of_lt HPJ.out))).setCell (Nat.le_refl _) _)
            have HP8 := hide hput
            have HT8 := hide hbx
            have HK8 := hide hkp
            have HB8 := hide hbl
            clear hk8 hr8 hpw hput hown hbx hkp hbl ho hb hg hat hbm k6 kf m2 mf2 m2d mf2d m2n
            go_wp2_with fail
            go_roundg (i - (j + 1))
            case measure => have := HGM2.out; omega
            case rel => exact ⟨j + 1, .slice o3 (j + 1) c3, rs ++ [(⟨gr, capr, l, rr⟩ : Rw)], by omega, rfl, by go_num, HT8.out, by show _ = _; rw [List.take_add_one, HWL.out]; unfold tabL; rw [List.map_append]; have := HTB.out; unfold tabL at this; rw [this]; rfl, HP8.out, (fun k hk hk2 => (HK8.out k (by omega) hk hk2).trans (HKP.out k hk hk2)), HBj.out.trans HB8.out⟩
        · have hje : j = i := by omega
          subst hje
          have hp1 : W1.heap.size < gs := by have := Z2.out; have := HGS.out; omega
          have hpw : w.heap.size ≤ W1.heap.size := by have := Z1.out; omega
          have hz2 := ((HX2.out.under HW5.out hp1).under HB.out (by omega)).under HBj.out (by omega)
          have r0 := hz2.cell 0
          have r1 := hz2.cell 1
          have r2 := hz2.cell 2
          have rf := hz2.free
          have o0 := HXo.out.cell 0
          have o1 := HXo.out.cell 1
          have o2 := HXo.out.cell 2
          simp only [List.getElem?_cons_zero, List.getElem?_cons_succ] at r0 r1 r2 o0 o1 o2
          obtain ⟨ot, ct_, htw, _⟩ := HRT.out.len
          have hrl : rs.length = j := by
            have := congrArg List.length HTB.out
            unfold tabL at this
            rw [List.length_map, List.length_take, Nat.min_eq_left (by have := HWT.out; omega)] at this
            exact this
          rw [hrl] at htw
          subst htw
          have HZ2 := hide hz2
          clear hz2 hrl c2 c2o
          go_wp2_with fail
          have hfin := ((HZ2.out.put 0 (.slice oV j cV)).put 1 (.slice (some ⟨gs, 0, none⟩) j j)).put 2 (.slice ot j ct_)
          simp only [List.set_cons_zero, List.set_cons_succ] at hfin
          obtain ⟨W9, e9⟩ : ∃ W9, ((wr.setCell ⟨W1.heap.size, 0, none⟩ (.slice oV j cV)).setCell ⟨W1.heap.size, 1, none⟩ (.slice (some ⟨gs, 0, none⟩) j j)).setCell ⟨W1.heap.size, 2, none⟩ (.slice ot j ct_) = W9 := ⟨_, rfl⟩
          rw [e9] at hfin ⊢
          have hk9 : ∀ k, k ≠ W1.heap.size → W9.heap[k]? = wr.heap[k]? := fun k hk => by
            rw [← e9, Below.heap_setCell _ _ _ k hk, Below.heap_setCell _ _ _ k hk, Below.heap_setCell _ _ _ k hk]
          have hs9 : W9.heap.size = wr.heap.size := by rw [← e9]; simp [World.setCell]
          have hB9 : Below w.heap.size w W9 := by
            rw [← e9]
            exact (((HBW.out.trans (HBj.out.mono (by omega))).setCell hpw _).setCell hpw _).setCell hpw _
          refine bodyPost_ret (results_cell_row rfl _ _ W1.heap.size 26 _ (0, 0) _ rfl hfin Tryz.underlying26 rfl (by kernel_rfl)) rfl ?_
          refine ⟨.slice oV j cV, .slice ot j ct_, rs, po + 1, Hw, gs, rfl, by omega, by omega, by omega, by rw [hs9]; exact hHwj, HOV.out, ?_, ?_, ?_, ?_, hB9⟩
          · exact HOH.out.keep prcR_ok (fun g hg => by
              have h1 := HOB.out g hg
              have h2 := HOV.out g hg
              rw [hk9 g (by omega), HKP.out g h2 (by omega)]) (fun k hk hkl => by
              have h1 := hk.1.1
              unfold OldNew at h1
              have h2 := hk.2
              rw [hk9 k (by omega), HKP.out k h2 (by omega)])
          · exact HRS.out.keep (by
              rw [hk9 gs (by omega), HKP.out gs (by omega) (by omega)]
              exact HB.out.block gs (by omega))
          · exact HRT.out.above fun k hk hk2 => hk9 k (by omega)
          · have := HTB.out
            rw [List.take_of_length_le (by have := HWT.out; omega)] at this
            exact this

end Go.Proofs.YtnigfddanoaonaaGreat

set_option linter.unusedVariables false
set_option linter.unusedSimpArgs false
namespace Go.Proofs.YtnigfddanoaonaaGreat
open Go.RowKit

/-- The machine at block p holds the network x; its processors lie where they are not changed. -/
structure Mach (O : Foot) (B0 K H p gs : Nat) (vp tw : Value) (rs : List Rw) (x : Nwk) (W : World) : Prop where
  main : Box W p [vp, .slice (some ⟨gs, 0, none⟩) x.procs.length x.procs.length, tw] 149
  procs : OwnS prcR 3 K 89 (fun k => InF (OldNew O B0 K) vp k ∧ k < H) W vp x.procs
  vlt : ∀ g, vp.ownBlock = some g → g < H
  sts : Row1 (Value.int .i64) W gs 3 x.state []
  tab : RTab H tw rs W
  tabs : tabL rs = x.waiting
  low : B0 ≤ gs ∧ gs < K ∧ K ≤ H ∧ H ≤ p
def machV (p : Nat) : Value := .pointer (some ⟨p, 0, none⟩)
section
variable {O : Foot} {B0 K H p gs : Nat} {vp tw : Value} {rs : List Rw} {x : Nwk} {W W' : World}
theorem Mach.below (h : Mach O B0 K H p gs vp tw rs x W) (hb : Below W.heap.size W W') : Mach O B0 K H p gs vp tw rs x W' :=
  { h with main := h.main.below hb, procs := h.procs.below prcR_ok hb, sts := h.sts.below hb, tab := h.tab.below hb }
theorem Mach.rlen (h : Mach O B0 K H p gs vp tw rs x W) : rs.length = x.waiting.length := by rw [← h.tabs]; unfold tabL; rw [List.length_map]
theorem Mach.row (h : Mach O B0 K H p gs vp tw rs x W) {i : Nat} {l : List Int} (hl : x.waiting[i]? = some l) : ∃ r, rs[i]? = some r ∧ r.l = l := by
  rw [← h.tabs] at hl
  unfold tabL at hl
  rw [List.getElem?_map, Option.map_eq_some_iff] at hl
  obtain ⟨r, h1, h2⟩ := hl
  exact ⟨r, h1, h2⟩
end

set_option maxHeartbeats 1000000 in
theorem nstart_any (x : Nwk) (op : Option Addr) (cp : Nat) (os : Option Addr) (cs : Nat) (ow : Option Addr) (cw : Nat) (F : Foot) (w : World)
    (hp : SliceR prcR 3 F w op x.procs) (hs : SliceR intR 1 F w os x.state) (ht : SliceR (slcR intR 1) 1 F w ow x.waiting) (hr : Right x) :
    Calls Tryz.prog 45 #[.agg #[.slice op x.procs.length cp, .slice os x.procs.length cs, .slice ow x.procs.length cw]] w fun e w' =>
      ∃ (B0 K H p gs : Nat) (vp tw : Value) (rs : List Rw), e = .returned (.iface 147 (machV p)) ∧ w.heap.size ≤ B0 ∧ Mach F B0 K H p gs vp tw rs x w' ∧ Below w.heap.size w w' := by
  obtain ⟨n, hn⟩ : ∃ n, n = x.procs.length := ⟨_, rfl⟩
  obtain ⟨W1, e1⟩ : ∃ W1, w.alloc (.cells #[.slice op n cp, .slice os n cs, .slice ow n cw] 26) = W1 := ⟨_, rfl⟩
  have bx1 : Box W1 w.heap.size [.slice op n cp, .slice os n cs, .slice ow n cw] 26 := by rw [← e1]; exact Box.new w [.slice op n cp, .slice os n cs, .slice ow n cw] 26
  have bb1 := bnew (Below.refl w.heap.size w) (.cells #[.slice op n cp, .slice os n cs, .slice ow n cw] 26)
  rw [e1] at bb1
  have HC := hide (ncopied_any x op cp os cs ow cw F W1 (hp.below prcR_ok bb1) (hs.below intR_ok bb1) (ht.below tabR' bb1) hr)
  rw [← hn] at HC ⊢
  have HN := hide hn
  have d0 := bx1.cell 0
  have d1 := bx1.cell 1
  have d2 := bx1.cell 2
  simp only [List.getElem?_cons_zero, List.getElem?_cons_succ] at d0 d1 d2
  have HB1 := hide bb1
  clear hp hs ht hr hn bx1 bb1
  go_enter Tryz.func45, Tryz.ntmps45
  go_wp2_with (go_at_call 50; refine HC.out.mono ?_; rintro e w2 ⟨vp, tw, rs, K, H, gs, rfl, h1, h2, h3, h3b, h4, h5, h6, h7, h8, h9⟩; have HK := hide (And.intro h1 (And.intro h2 (And.intro h3 (And.intro h4 (And.intro h5 (And.intro h6 (And.intro h7 (And.intro h8 h9)))))))); have HK2 := hide h3b; obtain ⟨oV, cV, hvp, _, _⟩ := h5.slice prcR_ok; obtain ⟨oT, cT, htw, _⟩ := h7.len; subst hvp htw; clear h1 h2 h3 h3b h4 h5 h6 h7 h8 h9)
  go_ret
  obtain ⟨h1, h2, h3, h4, h5, h6, h7, h8, h9⟩ := HK.out
  have hbn := bnew (Below.refl w2.heap.size w2) (.cells #[.slice oV x.procs.length cV, .slice (some ⟨gs, 0, none⟩) n n, .slice oT rs.length cT] 149)
  have hbx := Box.new w2 [.slice oV x.procs.length cV, .slice (some ⟨gs, 0, none⟩) n n, .slice oT rs.length cT] 149
  rw [HN.out] at hbx hbn ⊢
  refine ⟨W1.heap.size, K, H, w2.heap.size, gs, _, _, rs, rfl, HB1.out.size, ⟨hbx, h5.below prcR_ok hbn, h4, h6.below hbn, h7.below hbn, h8, ⟨h1, h2, h3, ?_⟩⟩, ?_⟩
  · exact HK2.out
  · exact (HB1.out.trans (h9.mono HB1.out.size)).trans (hbn.mono (Nat.le_trans HB1.out.size h9.size))


section
variable {O : Foot} {B0 K H p gs : Nat} {vp tw : Value} {rs : List Rw} {x : Nwk} {W : World}
set_option maxHeartbeats 1000000 in
theorem nnet_any (h : Mach O B0 K H p gs vp tw rs x W) : Calls Tryz.prog 199 #[machV p] W fun e w' => e = .returned (.agg #[vp, .slice (some ⟨gs, 0, none⟩) x.procs.length x.procs.length, tw]) ∧ Below W.heap.size W w' := by
  obtain ⟨oV, cV, hvp, _, _⟩ := h.procs.slice prcR_ok
  obtain ⟨oT, cT, htw, _⟩ := h.tab.len
  subst hvp htw
  have hm := h.main
  obtain ⟨n, hn⟩ : ∃ n, n = x.procs.length := ⟨_, rfl⟩
  obtain ⟨m, hm2⟩ : ∃ m, m = rs.length := ⟨_, rfl⟩
  rw [← hn, ← hm2] at hm ⊢
  have c0 := hm.cell 0
  have c1 := hm.cell 1
  have c2 := hm.cell 2
  have lp := hm.lt
  simp only [List.getElem?_cons_zero, List.getElem?_cons_succ] at c0 c1 c2
  unfold machV
  clear h hn hm2 hm
  go_enter Tryz.func199, Tryz.ntmps199
  go_wp2_with fail
  have hb := Box.new W [.slice oV n cV, .slice (some ⟨gs, 0, none⟩) n n, .slice oT m cT] 26
  refine bodyPost_ret (results_cell_row rfl _ _ W.heap.size 26 _ (0, 0) _ rfl hb Tryz.underlying26 rfl (by kernel_rfl)) rfl ?_
  exact ⟨rfl, bnew (Below.refl _ _) _⟩

def mvR : Rep (Nat × Nat) := fun _ _ cs x => cs = [.int .i64 (x.1 : Nat), .int .i64 (x.2 : Nat)]
theorem mvR_ok : RepOk mvR 2 where
  len := by rintro F w cs x rfl; rfl
  one := by rintro F w cs x rfl u hu; simp at hu; rcases hu with rfl | rfl <;> rfl
  keep := by rintro F w w' cs x h _; exact h
  wide := by rintro F F' w cs x h _; exact h
/-- The letters of one processor that may be read. -/
def rowMv (p : Nat) (l : List Int) (k : Nat) : List (Nat × Nat) := ((List.range k).filter fun a => decide (0 < l.getD a 0)).map fun a => (p, a)
/-- The moves: the letters that wait, in order. -/
def movesS (wt : List (List Int)) : List (Nat × Nat) := (List.range wt.length).flatMap fun p => rowMv p (wt.getD p []) (wt.getD p []).length
def movesUpto (wt : List (List Int)) (i : Nat) : List (Nat × Nat) := (List.range i).flatMap fun p => rowMv p (wt.getD p []) (wt.getD p []).length
theorem rowMv_succ (p : Nat) (l : List Int) (k : Nat) : rowMv p l (k + 1) = rowMv p l k ++ (if 0 < l.getD k 0 then [(p, k)] else []) := by
  unfold rowMv
  rw [List.range_succ, List.filter_append, List.map_append]
  congr 1
  by_cases h : 0 < l.getD k 0
  · rw [if_pos h, List.filter_cons_of_pos (by simpa using h)]
    rfl
  · rw [if_neg h, List.filter_cons_of_neg (by simpa using h)]
    rfl
theorem movesUpto_succ (wt : List (List Int)) (i : Nat) : movesUpto wt (i + 1) = movesUpto wt i ++ rowMv i (wt.getD i []) (wt.getD i []).length := by
  unfold movesUpto
  rw [List.range_succ, List.flatMap_append]
  simp
theorem rowMv_len (p : Nat) (l : List Int) (k : Nat) : (rowMv p l k).length ≤ k := by
  unfold rowMv
  rw [List.length_map]
  exact Nat.le_trans (List.length_filter_le _ _) (by simp)
theorem movesUpto_len {wt : List (List Int)} (h8 : ∀ l ∈ wt, l.length ≤ 8) : ∀ i, (movesUpto wt i).length ≤ 8 * i
  | 0 => by simp [movesUpto]
  | i + 1 => by
    rw [movesUpto_succ, List.length_append]
    have h1 := movesUpto_len h8 i
    have h2 := rowMv_len i (wt.getD i []) (wt.getD i []).length
    have h3 : (wt.getD i []).length ≤ 8 := by
      rw [List.getD_eq_getElem?_getD]
      rcases hx : wt[i]? with _ | l
      · simp
      · exact h8 l (List.mem_of_getElem? hx)
    omega
theorem mvInfoN : (Tryz.prog.info? 80).map (fun i => (i.zero, i.size, i.bytes)) = some (some (.agg #[.int .i64 0, .int .i64 0]), 2, 16) := by kernel_rfl

theorem mv_lit (w : World) (i j : Nat) : SliceR mvR 2 All (w.alloc (.cells #[.int .i64 (i : Nat), .int .i64 (j : Nat)] 80)) (some ⟨w.heap.size, 0, none⟩) [(i, j)] :=
  SliceR.lit (F := All) mvR_ok w 80 [[.int .i64 (i : Nat), .int .i64 (j : Nat)]] [(i, j)] (fun k y hy => by match k, hy with | 0, hy => simp at hy; subst hy; exact ⟨_, rfl, rfl⟩) rfl (fun _ h => h) trivial

set_option maxRecDepth 100000 in
set_option maxHeartbeats 2000000 in
theorem nmoves_any (h : Mach O B0 K H p gs vp tw rs x W) (h12 : x.waiting.length ≤ 12) (h8 : ∀ l ∈ x.waiting, l.length ≤ 8) :
    Calls Tryz.prog 198 #[machV p] W fun e w' => ∃ v, e = .returned v ∧ OwnS mvR 2 W.heap.size 80 Non w' v (movesS x.waiting) ∧ Below W.heap.size W w' := by
  obtain ⟨oV, cV, hvp, _, _⟩ := h.procs.slice prcR_ok
  obtain ⟨oT, cT, htw, _⟩ := h.tab.len
  subst hvp htw
  obtain ⟨n, hn⟩ : ∃ n, n = x.waiting.length := ⟨_, rfl⟩
  have hm := h.main
  have HM := hide h
  have HN := hide hn
  have H8 := hide h8
  rw [h.rlen, ← hn] at hm
  rw [← hn] at h12
  have c2 := hm.cell 2
  simp only [List.getElem?_cons_zero, List.getElem?_cons_succ] at c2
  unfold machV
  clear h hn hm h8
  go_enter Tryz.func198, Tryz.ntmps198
  go_wp2_with fail
  go_loopg [3, 14] n (fun gm v iv wr => ∃ i : Nat, i ≤ n ∧ gm = n - i ∧ iv = .int .i64 i ∧ Hid (OwnS mvR 2 W.heap.size 80 Non wr v (movesUpto x.waiting i)) ∧ Hid (Below W.heap.size W wr))
  case atStart => exact ⟨0, by omega, by omega, rfl, OwnS.nil _ _ _ _ _ _, Below.refl _ _⟩
  case round =>
    obtain ⟨i, hi, hgm, rfl, HO, HB⟩ := hrel
    have HGM := hide hgm
    clear hgm
    by_cases hlt : i < n
    · obtain ⟨l, hl⟩ : ∃ l, x.waiting[i]? = some l := ⟨_, List.getElem?_eq_getElem (by have := HN.out; omega)⟩
      obtain ⟨r, hr, hrl⟩ := HM.out.row hl
      obtain ⟨g, cap, htw, _, _, hcell, hrow, _, _, _⟩ := (HM.out.below HB.out).tab.get hr
      injection htw with e1 e2 e3
      subst e1 e3
      clear e2
      rw [hrl] at hcell hrow
      unfold slV at hcell
      have HLG : Hid (x.waiting.getD i [] = l) := by show _ = _; rw [List.getD_eq_getElem?_getD, hl]; rfl
      have hl8 := H8.out l (List.mem_of_getElem? hl)
      have HRW := hide hrow
      obtain ⟨ll, hll⟩ : ∃ n, n = l.length := ⟨_, rfl⟩
      rw [← hll] at hcell hl8
      have HLL := hide hll
      clear hl hr hrl hrow hll
      go_wp2_with fail
      go_loopg [3, 21] ll (fun gm2 v jv wx => ∃ j : Nat, j ≤ ll ∧ gm2 = ll - j ∧ jv = .int .i64 j ∧ Hid (OwnS mvR 2 W.heap.size 80 Non wx v (movesUpto x.waiting i ++ rowMv i l j)) ∧ Hid (Below W.heap.size W wx) ∧ Hid (Row1 (Value.int .i64) wx r.g 3 l r.rest))
      case atStart => exact ⟨0, by omega, by omega, rfl, by show OwnS _ _ _ _ _ _ _ _; simpa [rowMv] using HO.out, HB, HRW⟩
      case round =>
        obtain ⟨j, hj, hgm2, rfl, HOj, HBj, HRj⟩ := hrel
        have HGM2 := hide hgm2
        clear hgm2
        by_cases hlj : j < ll
        · have hjl : j < l.length := by have := HLL.out; omega
          have c3 := HRj.out.cell (List.getElem?_eq_getElem hjl)
          have HG : Hid (l.getD j 0 = l[j]) := by show _ = _; rw [List.getD_eq_getElem?_getD, List.getElem?_eq_getElem hjl]; rfl
          generalize l[j] = xj at c3 HG
          by_cases hx : 0 < xj
          · have HS : Hid (rowMv i l (j + 1) = rowMv i l j ++ [(i, j)]) := by show _ = _; rw [rowMv_succ, HG.out, if_pos hx]
            have hbd : (movesUpto x.waiting i ++ rowMv i l j).length ≤ 1000 := by
              rw [List.length_append]
              have h1 := movesUpto_len H8.out i
              have h2 := rowMv_len i l j
              omega
            have HBD := hide hbd
            have hW := HBj.out.size
            clear hbd
            go_wp2_with (at_builtin; refine wpList_append_rep rfl (.tmp 28) (.tmp 32) 76 rfl W.heap.size 80 _ 2 16 Tryz.underlying76 mvInfoN rfl (by decide) mvR_ok Non All _ (movesUpto x.waiting i ++ rowMv i l j) (by simp [Act.eval, Act.put]) (HOj.out.new mvR_ok _) (some ⟨wr.heap.size, 0, none⟩) 1 [(i, j)] (by simp [Act.eval, Act.put]) (mv_lit wr i j) (fun _ _ h => h) (fun _ h => h.elim) (by simp only [List.length_cons, List.length_nil]; have := HBD.out; omega) (by simp only [List.length_cons, List.length_nil]; have := HBD.out; omega) (by rw [alloc_size']; omega) (fun v' w8 ho hb8 hg8 => ?_); have HO8 := hide ho; have HB8 : Hid (Below W.heap.size W w8) := (HBj.out.alloc hW _).trans hb8; have HR8 : Hid (Row1 (Value.int .i64) w8 r.g 3 l r.rest) := (HRj.out.new _).keep (hg8.block _ (by rw [alloc_size']; have := HRj.out.lt; omega) (fun e => by obtain ⟨cur, hcur⟩ := own_heap HOj.out e.symm; exact ne_type HRj.out hcur (by decide) rfl)); clear ho hb8 hg8)
            go_roundg (ll - (j + 1))
            case rel => exact ⟨j + 1, by omega, rfl, by go_num, by show OwnS _ _ _ _ _ _ _ _; rw [HS.out, ← List.append_assoc]; exact HO8.out, HB8, HR8⟩
            case measure => have := HGM2.out; omega
          · have HS : Hid (rowMv i l (j + 1) = rowMv i l j) := by show _ = _; rw [rowMv_succ, HG.out, if_neg hx, List.append_nil]
            go_wp2_with fail
            go_roundg (ll - (j + 1))
            case rel => exact ⟨j + 1, by omega, rfl, by go_num, by show OwnS _ _ _ _ _ _ _ _; rw [HS.out]; exact HOj.out, HBj, HRj⟩
            case measure => have := HGM2.out; omega
        · have hje : j = ll := by omega
          subst hje
          have HOE : Hid (OwnS mvR 2 W.heap.size 80 Non wr u3 (movesUpto x.waiting (i + 1))) := by
            show OwnS _ _ _ _ _ _ _ _
            rw [movesUpto_succ, HLG.out, ← HLL.out]
            exact HOj.out
          go_wp2_with fail
          go_roundg (n - (i + 1))
          case rel => exact ⟨i + 1, by omega, rfl, by go_num, HOE, HBj⟩
          case measure => have := HGM.out; omega
    · have hie : i = n := by omega
      subst hie
      go_wp2_with fail
      go_ret
      exact ⟨_, rfl, by unfold movesS; rw [← HN.out]; exact HO.out, HB.out⟩
end

end Go.Proofs.YtnigfddanoaonaaGreat

set_option linter.unusedVariables false
namespace Go.Proofs.YtnigfddanoaonaaGreat
open Go.RowKit

theorem set_mid (U V : List Out) (x y : Out) : (U ++ x :: V).set U.length y = U ++ y :: V := by
  rw [List.set_append_right _ _ (Nat.le_refl _)]
  simp
theorem get_mid (U V : List Out) (x : Out) : (U ++ x :: V)[U.length]? = some x := by
  rw [List.getElem?_append_right (Nat.le_refl _)]
  simp

theorem RowO.draw {w : World} {g : Nat} {d : List Out} {rest : List Value} (h : RowO w g d rest) : RowO w.drew g d rest := h

set_option maxRecDepth 100000 in
set_option maxHeartbeats 4000000 in
theorem swapRange_any (X A M B Y : List Out) (rest : List Value) (g kb n a b m c : Nat) (w : World) (hr : RowO w g (X ++ (A ++ (M ++ (B ++ Y)))) rest) (hn : Hid (n = (X ++ (A ++ (M ++ (B ++ Y)))).length)) (ha : Hid (a = X.length)) (hb : Hid (b = X.length + A.length + M.length)) (hmA : Hid (m = A.length)) (hmB : Hid (m = B.length)) (hlen : n ≤ 1000000000000000) :
    Calls Tryz.prog 181 #[.slice (some ⟨g, 0, none⟩) n c, .int .i64 a, .int .i64 b, .int .i64 m, .func (.func 170) #[] #[.pointer (some ⟨kb, 0, none⟩)]] w fun e w' =>
      e = .returned (.tuple #[]) ∧ RowO w' g (X ++ (B ++ (M ++ (A ++ Y)))) rest ∧ w.grownBy w' (some g) := by
  have hbd : a + m ≤ b ∧ b + m ≤ n := by
    have h1 := hn.out; have h2 := ha.out; have h3 := hb.out; have h4 := hmA.out; have h5 := hmB.out
    simp at h1; omega
  have hb1 := hbd.1
  have hb2 := hbd.2
  clear hbd
  go_enter Tryz.func181, Tryz.ntmps181
  go_wp2_with fail
  go_loopw [10] (fun i wr => ∃ (k : Nat) (A1 A2 B1 B2 : List Out), i = .int .i64 k ∧ k ≤ m ∧ Hid (A = A1 ++ A2) ∧ Hid (B = B1 ++ B2) ∧ Hid (k = A1.length) ∧ Hid (k = B1.length) ∧
    RowO wr g (X ++ (B1 ++ (A2 ++ (M ++ (A1 ++ (B2 ++ Y)))))) rest ∧ w.grownBy wr (some g)) (fun i _ => m - (intOf i).toNat)
  case atStart => exact ⟨0, [], A, [], B, rfl, by omega, rfl, rfl, rfl, rfl, by simpa using hr, grown_refl _ _⟩
  case round =>
    obtain ⟨k, A1, A2, B1, B2, rfl, hkm, HA, HB, HK, HK', hrr, hgr⟩ := hrel
    by_cases hlt : k < m
    · have hA2 : A2 ≠ [] := by intro h; have h1 := HA.out; have h2 := hmA.out; have h3 := HK.out; subst h; subst h1; simp at h2; omega
      have hB2 : B2 ≠ [] := by intro h; have h1 := HB.out; have h2 := hmB.out; have h3 := HK'.out; subst h; subst h1; simp at h2; omega
      obtain ⟨⟨xt, xl⟩, A3, rfl⟩ := List.exists_cons_of_ne_nil hA2
      obtain ⟨⟨yt, yl⟩, B3, rfl⟩ := List.exists_cons_of_ne_nil hB2
      clear hA2 hB2
      have HP : Hid (a + k = (X ++ B1).length) := by have h1 := ha.out; have h2 := HK'.out; show _ = _; simp; omega
      have HQ : Hid (b + k = (X ++ (B1 ++ ⟨xt, xl⟩ :: (A3 ++ (M ++ A1)))).length) := by
        have h1 := hb.out; have h2 := HK'.out; have h3 := HA.out; have h4 := HK.out; show _ = _; subst h3; simp at h1 ⊢; omega
      have HQ' : Hid (b + k = (X ++ (B1 ++ ⟨yt, yl⟩ :: (A3 ++ (M ++ A1)))).length) := by have h := HQ.out; show _ = _; simp at h ⊢; omega
      have e1 : X ++ (B1 ++ (⟨xt, xl⟩ :: A3 ++ (M ++ (A1 ++ (⟨yt, yl⟩ :: B3 ++ Y))))) = (X ++ B1) ++ ⟨xt, xl⟩ :: (A3 ++ (M ++ (A1 ++ ⟨yt, yl⟩ :: (B3 ++ Y)))) := by simp
      have e2 : X ++ (B1 ++ (⟨xt, xl⟩ :: A3 ++ (M ++ (A1 ++ (⟨yt, yl⟩ :: B3 ++ Y))))) = (X ++ (B1 ++ ⟨xt, xl⟩ :: (A3 ++ (M ++ A1)))) ++ ⟨yt, yl⟩ :: (B3 ++ Y) := by simp
      have hxd : (X ++ (B1 ++ (⟨xt, xl⟩ :: A3 ++ (M ++ (A1 ++ (⟨yt, yl⟩ :: B3 ++ Y))))))[a + k]? = some ⟨xt, xl⟩ := by rw [e1, HP.out]; exact get_mid _ _ _
      have hyd : (X ++ (B1 ++ (⟨xt, xl⟩ :: A3 ++ (M ++ (A1 ++ (⟨yt, yl⟩ :: B3 ++ Y))))))[b + k]? = some ⟨yt, yl⟩ := by rw [e2, HQ.out]; exact get_mid _ _ _
      obtain ⟨cx0, cx1⟩ := hrr.cells hxd
      obtain ⟨cy0, cy1⟩ := hrr.cells hyd
      have f0 := hrr.free ((a + k) * 2)
      have f1 := hrr.free ((a + k) * 2 + 1)
      have f2 := hrr.free ((b + k) * 2)
      have f3 := hrr.free ((b + k) * 2 + 1)
      have hlx : a + k < (X ++ (B1 ++ (⟨xt, xl⟩ :: A3 ++ (M ++ (A1 ++ (⟨yt, yl⟩ :: B3 ++ Y)))))).length := (List.getElem?_eq_some_iff.1 hxd).1
      have hly : b + k < ((X ++ (B1 ++ (⟨xt, xl⟩ :: A3 ++ (M ++ (A1 ++ (⟨yt, yl⟩ :: B3 ++ Y)))))).set (a + k) ⟨yt, yl⟩).length := by rw [List.length_set]; exact (List.getElem?_eq_some_iff.1 hyd).1
      have hput := RowO.put (RowO.put hrr hlx yt yl) hly xt xl
      have hgrn := grown_drew (grown_set (grown_set (grown_set (grown_set hgr ((a + k) * 2) (.int .i64 yt)) ((a + k) * 2 + 1) (.int .i64 yl)) ((b + k) * 2) (.int .i64 xt)) ((b + k) * 2 + 1) (.int .i64 xl))
      have hsw : ((X ++ (B1 ++ (⟨xt, xl⟩ :: A3 ++ (M ++ (A1 ++ (⟨yt, yl⟩ :: B3 ++ Y)))))).set (a + k) ⟨yt, yl⟩).set (b + k) ⟨xt, xl⟩ = X ++ ((B1 ++ [⟨yt, yl⟩]) ++ (A3 ++ (M ++ ((A1 ++ [⟨xt, xl⟩]) ++ (B3 ++ Y))))) := by
        rw [e1, HP.out, set_mid]
        rw [show (X ++ B1) ++ ⟨yt, yl⟩ :: (A3 ++ (M ++ (A1 ++ ⟨yt, yl⟩ :: (B3 ++ Y)))) = (X ++ (B1 ++ ⟨yt, yl⟩ :: (A3 ++ (M ++ A1)))) ++ ⟨yt, yl⟩ :: (B3 ++ Y) from by simp, HQ'.out, set_mid]
        simp
      rw [hsw] at hput
      have HPUT := hide (RowO.draw hput)
      have HGRN := hide hgrn
      have h1 : a + k < n := by omega
      have h2 : b + k < n := by omega
      have h3 : a + k < b + k := by omega
      clear hxd hyd hlx hly hput hgrn hsw e1 e2 hrr hgr
      go_wp2_with fail
      go_region
      go_wp2_with fail
      go_roundw
      case rel =>
        refine ⟨k + 1, A1 ++ [⟨xt, xl⟩], A3, B1 ++ [⟨yt, yl⟩], B3, by go_num, by omega, ?_, ?_, ?_, ?_, HPUT.out, HGRN.out⟩
        · have h := HA.out; show _ = _; simpa using h
        · have h := HB.out; show _ = _; simpa using h
        · have h := HK.out; show _ = _; simp; omega
        · have h := HK'.out; show _ = _; simp; omega
      case measure => simp [intOf]; omega
    · go_wp2_with fail
      go_end0
      refine ⟨rfl, ?_, hgr⟩
      have hA2 : A2 = [] := by
        have h1 := HA.out; have h2 := hmA.out; have h3 := HK.out
        apply List.eq_nil_of_length_eq_zero; rw [h1] at h2; simp at h2; omega
      have hB2 : B2 = [] := by
        have h1 := HB.out; have h2 := hmB.out; have h3 := HK'.out
        apply List.eq_nil_of_length_eq_zero; rw [h1] at h2; simp at h2; omega
      have h1 := HA.out
      have h2 := HB.out
      subst hA2 hB2
      rw [List.append_nil] at h1 h2
      subst h1 h2
      simpa using hrr

theorem swapRange_int (X A M B Y : List Out) (rest : List Value) (g kb n c : Nat) (P Q N : Int) (w : World) (hr : RowO w g (X ++ (A ++ (M ++ (B ++ Y)))) rest) (hn : Hid (n = (X ++ (A ++ (M ++ (B ++ Y)))).length)) (hP : Hid (P = X.length)) (hQ : Hid (Q = X.length + A.length + M.length)) (hA : Hid (N = A.length)) (hB : Hid (N = B.length)) (hlen : n ≤ 1000000000000000) :
    Calls Tryz.prog 181 #[.slice (some ⟨g, 0, none⟩) n c, .int .i64 P, .int .i64 Q, .int .i64 N, .func (.func 170) #[] #[.pointer (some ⟨kb, 0, none⟩)]] w fun e w' =>
      e = .returned (.tuple #[]) ∧ RowO w' g (X ++ (B ++ (M ++ (A ++ Y)))) rest ∧ w.grownBy w' (some g) := by
  have h1 := hP.out
  have h2 := hQ.out
  have h3 := hA.out
  have h4 := hB.out
  subst h1 h2 h3
  have := swapRange_any X A M B Y rest g kb n X.length (X.length + A.length + M.length) A.length c w hr hn rfl rfl rfl (by show _ = _; omega) hlen
  simpa using this

set_option maxRecDepth 100000 in
set_option maxHeartbeats 4000000 in
theorem rotate_any (X A B Y : List Out) (rest : List Value) (g kb n c : Nat) (P Q E : Int) (w : World) (hr : RowO w g (X ++ (A ++ (B ++ Y))) rest) (hn : Hid (n = (X ++ (A ++ (B ++ Y))).length)) (hP : Hid (P = X.length)) (hQ : Hid (Q = X.length + A.length)) (hE : Hid (E = X.length + A.length + B.length)) (hA : Hid (A ≠ [])) (hB : Hid (B ≠ [])) (hlen : n ≤ 1000000000000000) :
    Calls Tryz.prog 180 #[.slice (some ⟨g, 0, none⟩) n c, .int .i64 P, .int .i64 Q, .int .i64 E, .func (.func 170) #[] #[.pointer (some ⟨kb, 0, none⟩)]] w fun e w' =>
      e = .returned (.tuple #[]) ∧ RowO w' g (X ++ (B ++ (A ++ Y))) rest ∧ w.grownBy w' (some g) := by
  have hbd : 0 ≤ P ∧ P < Q ∧ Q < E ∧ E ≤ n := by
    have h1 := hn.out; have h2 := hP.out; have h3 := hQ.out; have h4 := hE.out
    have h5 := List.length_pos_iff.2 hA.out
    have h6 := List.length_pos_iff.2 hB.out
    simp at h1; omega
  have hb0 := hbd.1
  have hb1 := hbd.2.1
  have hb2 := hbd.2.2.1
  have hb3 := hbd.2.2.2
  clear hbd
  go_enter Tryz.func180, Tryz.ntmps180
  go_wp2_with fail
  go_loopw [10, 11] (fun iv jv wr => ∃ (i j : Nat) (U A' B' V : List Out), iv = .int .i64 i ∧ jv = .int .i64 j ∧ 0 < i ∧ 0 < j ∧ i ≤ n ∧ j ≤ n ∧ i ≤ Q ∧ Q + j ≤ n ∧ Hid (i = A'.length) ∧ Hid (j = B'.length) ∧ Hid (Q = U.length + A'.length) ∧ Hid (n = (U ++ (A' ++ (B' ++ V))).length) ∧
    Hid (U ++ (B' ++ (A' ++ V)) = X ++ (B ++ (A ++ Y))) ∧ RowO wr g (U ++ (A' ++ (B' ++ V))) rest ∧ w.grownBy wr (some g)) (fun i j _ => (intOf i).toNat + (intOf j).toNat)
  case atStart =>
    have h1 := hn.out; have h2 := hP.out; have h3 := hQ.out; have h4 := hE.out
    have h5 := List.length_pos_iff.2 hA.out
    have h6 := List.length_pos_iff.2 hB.out
    simp at h1
    refine ⟨A.length, B.length, X, A, B, Y, ?_, ?_, h5, h6, by omega, by omega, by omega, by omega, rfl, rfl, hQ, hn, rfl, hr, grown_refl _ _⟩
    · congr 1; omega
    · congr 1; omega
  case round =>
    obtain ⟨i, j, U, A', B', V, rfl, rfl, hi0, hj0, hin, hjn, hiQ, hjQ, HI, HJ, HQ, HN, HT, hrr, hgr⟩ := hrel
    by_cases hij : i = j
    · have hq : ((i : Int) != (j : Int)) = false := by simp [hij]
      have HIJ := hide hij
      clear hij
      go_wp2_with fail
      refine (swapRange_int U A' [] B' V rest g kb n c _ _ _ wr (by simpa using hrr) (by show _ = _; have := HN.out; simpa using this) (by show _ = _; have := HQ.out; have := HI.out; omega) (by show _ = _; have := HQ.out; simp; omega) (by show _ = _; have := HI.out; omega) (by show _ = _; have := HI.out; have := HJ.out; have := HIJ.out; omega) hlen).mono ?_
      rintro e w2 ⟨rfl, hr2, hg2⟩
      go_wp2_with fail
      go_end0
      refine ⟨rfl, ?_, grown_trans hgr hg2⟩
      rw [← HT.out]
      simpa using hr2
    · have hq : ((i : Int) != (j : Int)) = true := by simp; omega
      by_cases hlt : j < i
      · obtain ⟨A1, A2, hA12, hA1⟩ : ∃ A1 A2, A' = A1 ++ A2 ∧ A1.length = j := ⟨A'.take j, A'.drop j, (List.take_append_drop _ _).symm, by have := HI.out; simp; omega⟩
        subst hA12
        have HA1 := hide hA1
        clear hA1 hij
        go_wp2_with fail
        refine (swapRange_int U A1 A2 B' V rest g kb n c _ _ _ wr (by simpa using hrr) (by show _ = _; have := HN.out; simpa using this) (by show _ = _; have := HQ.out; have := HI.out; omega) (by show _ = _; have := HQ.out; simp at this; omega) (by show _ = _; have := HA1.out; omega) (by show _ = _; have := HJ.out; omega) hlen).mono ?_
        rintro e w2 ⟨rfl, hr2, hg2⟩
        go_wp2_with fail
        go_roundw
        case rel =>
          refine ⟨i - j, j, U ++ B', A2, A1, V, ?_, rfl, by omega, hj0, by omega, hjn, by omega, hjQ, ?_, ?_, ?_, ?_, ?_, by simpa using hr2, grown_trans hgr hg2⟩
          · congr 1; omega
          · have h1 := HI.out; have h2 := HA1.out; show _ = _; simp at h1; omega
          · have h2 := HA1.out; show _ = _; omega
          · have h1 := HI.out; have h2 := HA1.out; have h3 := HQ.out; have h4 := HJ.out; show _ = _; simp at h1 h3 ⊢; omega
          · have h1 := HN.out; show _ = _; simp at h1 ⊢; omega
          · have h1 := HT.out; show _ = _; simpa using h1
        case measure => simp [intOf]; omega
      · have hlt2 : i < j := by omega
        obtain ⟨B1, B2, hB12, hB2⟩ : ∃ B1 B2, B' = B1 ++ B2 ∧ B2.length = i := ⟨B'.take (j - i), B'.drop (j - i), (List.take_append_drop _ _).symm, by have := HJ.out; simp; omega⟩
        subst hB12
        have HB2 := hide hB2
        clear hB2 hij
        go_wp2_with fail
        refine (swapRange_int U A' B1 B2 V rest g kb n c _ _ _ wr (by simpa using hrr) (by show _ = _; have := HN.out; simpa using this) (by show _ = _; have := HQ.out; have := HI.out; omega) (by show _ = _; have h1 := HQ.out; have h2 := HJ.out; have h3 := HB2.out; simp at h2; omega) (by show _ = _; have := HI.out; omega) (by show _ = _; have := HB2.out; omega) hlen).mono ?_
        rintro e w2 ⟨rfl, hr2, hg2⟩
        go_wp2_with fail
        go_roundw
        case rel =>
          refine ⟨i, j - i, U, B2, B1, A' ++ V, rfl, ?_, hi0, by omega, hin, by omega, hiQ, by omega, ?_, ?_, ?_, ?_, ?_, by simpa using hr2, grown_trans hgr hg2⟩
          · congr 1; omega
          · have h2 := HB2.out; show _ = _; omega
          · have h1 := HJ.out; have h2 := HB2.out; show _ = _; simp at h1; omega
          · have h1 := HI.out; have h2 := HB2.out; have h3 := HQ.out; show _ = _; omega
          · have h1 := HN.out; show _ = _; simp at h1 ⊢; omega
          · have h1 := HT.out; show _ = _; simpa using h1
        case measure => simp [intOf]; omega

end Go.Proofs.YtnigfddanoaonaaGreat

set_option linter.unusedVariables false
namespace Go.Proofs.YtnigfddanoaonaaGreat
open Go.RowKit

theorem srt_join {A B : List Out} (hA : Srt A) (hB : Srt B) (h : ∀ x y, A.getLast? = some x → B.head? = some y → leO x y) : Srt (A ++ B) := by
  refine List.pairwise_append.2 ⟨hA, hB, fun x hx y hy => ?_⟩
  have hA2 : A ≠ [] := by rintro rfl; simp at hx
  have hB2 : B ≠ [] := by rintro rfl; simp at hy
  obtain ⟨b, B', rfl⟩ := List.exists_cons_of_ne_nil hB2
  have h1 := h _ b (List.getLast?_eq_some_getLast hA2) rfl
  have h2 : leO x (A.getLast hA2) := by
    have h3 : A.dropLast ++ [A.getLast hA2] = A := List.dropLast_concat_getLast hA2
    rw [← h3] at hx hA
    rcases List.mem_append.1 hx with hx | hx
    · exact (List.pairwise_append.1 hA).2.2 x hx _ (List.mem_singleton.2 rfl)
    · rw [List.mem_singleton.1 hx]; exact leO_refl _
  have h4 : leO b y := by
    rcases List.mem_cons.1 hy with rfl | hy
    · exact leO_refl _
    · exact (List.pairwise_cons.1 hB).1 y hy
  exact leO_trans h2 (leO_trans h1 h4)
theorem srt_left {A B : List Out} (h : Srt (A ++ B)) : Srt A := (List.pairwise_append.1 h).1
theorem srt_right {A B : List Out} (h : Srt (A ++ B)) : Srt B := (List.pairwise_append.1 h).2.1

theorem mem_last {A : List Out} {x : Out} (h : Srt A) (hx : x ∈ A) : ∃ y, A.getLast? = some y ∧ leO x y := by
  have hA2 : A ≠ [] := by rintro rfl; simp at hx
  refine ⟨_, List.getLast?_eq_some_getLast hA2, ?_⟩
  have h3 : A.dropLast ++ [A.getLast hA2] = A := List.dropLast_concat_getLast hA2
  rw [← h3] at hx h
  rcases List.mem_append.1 hx with hx | hx
  · exact (List.pairwise_append.1 h).2.2 x hx _ (List.mem_singleton.2 rfl)
  · rw [List.mem_singleton.1 hx]; exact leO_refl _
theorem mem_head {A : List Out} {x : Out} (h : Srt A) (hx : x ∈ A) : ∃ y, A.head? = some y ∧ leO y x := by
  match A, hx, h with
  | b :: B, hy, h =>
    refine ⟨b, rfl, ?_⟩
    rcases List.mem_cons.1 hy with rfl | hy
    · exact leO_refl _
    · exact (List.pairwise_cons.1 h).1 _ hy

theorem merge_parts {A1 A2 B1 B2 : List Out} (hA : Srt (A1 ++ A2)) (hB : Srt (B1 ++ B2)) (h1 : ∀ x y, A1.getLast? = some x → B2.head? = some y → leO x y) (h2 : ∀ x y, B1.getLast? = some x → A2.head? = some y → leO x y) :
    isort (A1 ++ B1) ++ isort (A2 ++ B2) = isort ((A1 ++ A2) ++ (B1 ++ B2)) := by
  rw [isort_join]
  · refine isort_perm_eq ?_
    simp only [List.append_assoc]
    refine List.Perm.append_left A1 ?_
    rw [← List.append_assoc, ← List.append_assoc]
    exact List.Perm.append_right B2 List.perm_append_comm
  · have a1 := srt_left hA
    have a2 := srt_right hA
    have b1 := srt_left hB
    have b2 := srt_right hB
    intro x hx y hy
    rcases List.mem_append.1 hx with hx | hx <;> rcases List.mem_append.1 hy with hy | hy
    · exact (List.pairwise_append.1 hA).2.2 x hx y hy
    · obtain ⟨u, hu, hxu⟩ := mem_last a1 hx
      obtain ⟨v, hv, hvy⟩ := mem_head b2 hy
      exact leO_trans hxu (leO_trans (h1 u v hu hv) hvy)
    · obtain ⟨u, hu, hxu⟩ := mem_last b1 hx
      obtain ⟨v, hv, hvy⟩ := mem_head a2 hy
      exact leO_trans hxu (leO_trans (h2 u v hu hv) hvy)
    · exact (List.pairwise_append.1 hB).2.2 x hx y hy

theorem get_in (X A R : List Out) {k : Nat} {x : Out} (h : A[k]? = some x) : (X ++ (A ++ R))[X.length + k]? = some x := by
  have hk : k < A.length := (List.getElem?_eq_some_iff.1 h).1
  rw [List.getElem?_append_right (by omega), List.getElem?_append_left (by omega)]
  rw [show X.length + k - X.length = k from by omega]
  exact h
theorem swap_adj2 (A B : List Out) (x y : Out) : ((A ++ x :: y :: B).set A.length y).set (A.length + 1) x = A ++ y :: x :: B := by
  rw [List.set_append_right _ _ (by omega), List.set_append_right _ _ (by omega)]
  simp

/-- Merging one element with a sorted list. -/
theorem one_left {x : Out} {B1 B2 : List Out} (hB : Srt (B1 ++ B2)) (h1 : ∀ y, B1.getLast? = some y → leO y x) (h2 : ∀ y, B2.head? = some y → leO x y) : B1 ++ x :: B2 = isort (x :: (B1 ++ B2)) := by
  refine isort_of (srt_join (srt_left hB) ?_ ?_) List.perm_middle
  · refine srt_join (A := [x]) (List.pairwise_singleton _ _) (srt_right hB) ?_
    intro u v hu hv
    simp at hu
    subst hu
    exact h2 v hv
  · intro u v hu hv
    simp at hv
    subst hv
    exact h1 u hu

end Go.Proofs.YtnigfddanoaonaaGreat

set_option linter.unusedVariables false
namespace Go.Proofs.YtnigfddanoaonaaGreat
open Go.RowKit

set_option maxRecDepth 100000 in
set_option maxHeartbeats 4000000 in
theorem sym_left (X B Y : List Out) (xt xl : Int) (rest : List Value) (g kb ka n a m b c : Nat) (w : World) (hr : RowO w g (X ++ ([⟨xt, xl⟩] ++ (B ++ Y))) rest) (hk : Keys w kb ka) (hn : Hid (n = (X ++ ([(⟨xt, xl⟩ : Out)] ++ (B ++ Y))).length)) (ha : Hid (a = X.length)) (hm : Hid (m = a + 1)) (hb : Hid (b = m + B.length)) (hB : Hid (Srt B)) (hlen : n ≤ 1000000000000000) :
    Calls Tryz.prog 179 #[.slice (some ⟨g, 0, none⟩) n c, .int .i64 a, .int .i64 m, .int .i64 b, .func (.func 170) #[] #[.pointer (some ⟨kb, 0, none⟩)]] w fun e w' =>
      e = .returned (.tuple #[]) ∧ RowO w' g (X ++ (isort ([⟨xt, xl⟩] ++ B) ++ Y)) rest ∧ w.grownBy w' (some g) := by
  have hne := hk.ne hr
  have hbn : a < m ∧ m ≤ b ∧ b ≤ n := by have h1 := hn.out; have h2 := ha.out; have h3 := hb.out; have h4 := hm.out; simp at h1; omega
  have hbn1 := hbn.1
  have hbn2 := hbn.2.1
  have hbn3 := hbn.2.2
  clear hbn
  have hone : ((m : Int) - a == 1) = true := by have := hm.out; simp; omega
  go_enter Tryz.func179, Tryz.ntmps179
  go_wp2_with fail
  go_loopw [10, 11] (fun iv jv wr => ∃ (i j : Nat), iv = .int .i64 i ∧ jv = .int .i64 j ∧ m ≤ i ∧ i ≤ j ∧ j ≤ b ∧ 
    Hid (i = m ∨ ∀ y, B[i - m - 1]? = some y → leO y ⟨xt, xl⟩) ∧ Hid (j = b ∨ ∀ y, B[j - m]? = some y → leO ⟨xt, xl⟩ y) ∧ RowO wr g (X ++ ([⟨xt, xl⟩] ++ (B ++ Y))) rest ∧ w.grownBy wr (some g)) (fun i j _ => (intOf j).toNat - (intOf i).toNat)
  case atStart => exact ⟨m, b, rfl, rfl, by omega, by omega, by omega, .inl rfl, .inl rfl, hr, grown_refl _ _⟩
  case round =>
    obtain ⟨i, j, rfl, rfl, hmi, hij, hjb, HI, HJ, hrr, hgr⟩ := hrel
    by_cases hlt : i < j
    · obtain ⟨h, hh⟩ : ∃ h, h = (i + j) / 2 := ⟨_, rfl⟩
      have hhi : i ≤ h := by omega
      have hhj : h < j := by omega
      have hmid : ((i : Int) + j) / 2 = (h : Int) := by omega
      clear hh
      obtain ⟨e, rfl⟩ : ∃ e, h = m + e := ⟨h - m, by omega⟩
      have HE : Hid (m + e = X.length + 1 + e) := by have h1 := ha.out; have h2 := hm.out; show _ = _; omega
      obtain ⟨⟨yt, yl⟩, hy⟩ : ∃ y, B[e]? = some y := ⟨B[e]'(by have := hb.out; omega), List.getElem?_eq_getElem _⟩
      have hyd : (X ++ ([⟨xt, xl⟩] ++ (B ++ Y)))[m + e]? = some ⟨yt, yl⟩ := by
        rw [HE.out, ← List.append_assoc, show X.length + 1 + e = (X ++ [(⟨xt, xl⟩ : Out)]).length + e from by simp]
        exact get_in _ _ _ hy
      have hxd : (X ++ ([⟨xt, xl⟩] ++ (B ++ Y)))[a]? = some ⟨xt, xl⟩ := by
        rw [ha.out]
        exact get_in X [⟨xt, xl⟩] (B ++ Y) (k := 0) rfl
      obtain ⟨cy0, cy1⟩ := hrr.cells hyd
      obtain ⟨cx0, cx1⟩ := hrr.cells hxd
      have hkw := hide ((hk.grown hne hgr).grown hne (grown_drew (grown_refl wr (some g))))
      have HY := hide hy
      clear hyd hxd hy
      have b1 : 0 ≤ (m : Int) + e := by omega
      have b2 : (m : Int) + e < (n : Int) := by omega
      have b3 : 0 ≤ (a : Int) := by omega
      have b4 : (a : Int) < (n : Int) := by omega
      have b5 : ((m : Int) + e).toNat = m + e := by omega
      by_cases hle : leO ⟨xt, xl⟩ ⟨yt, yl⟩
      · have hcm : 0 ≤ cmpO ⟨yt, yl⟩ ⟨xt, xl⟩ := by have := (cmpO_neg (a := ⟨yt, yl⟩) (b := ⟨xt, xl⟩)); simp only [hle, not_true, iff_false] at this; omega
        have HLE := hide hle
        clear hle
        go_wp2_with fail
        go_still_tail 9, (by kernel_rfl)
        change wpList _ _ _ _ _ wr.drew
        clear b1 b2 b3 b4 b5
        go_wp2_with fail
        refine (cmpO_any yt yl xt xl kb ka wr.drew hkw).mono ?_
        rintro e2 w2 ⟨rfl, hb2⟩
        go_wp2_with fail
        go_roundw
        case rel =>
          refine ⟨i, m + e, by go_num, by go_num, by omega, by omega, by omega, HI, .inr fun y hy => ?_, RowO.below (w := wr.drew) hrr hb2, grown_below (grown_drew hgr) hb2⟩
          rw [show m + e - m = e from by omega, HY.out] at hy
          injection hy with hy
          subst hy
          exact HLE.out
        case measure => simp [intOf]; omega
      · have hcm : cmpO ⟨yt, yl⟩ ⟨xt, xl⟩ < 0 := cmpO_neg.2 hle
        have HLE := hide hle
        clear hle
        go_wp2_with fail
        go_still_tail 9, (by kernel_rfl)
        change wpList _ _ _ _ _ wr.drew
        clear b1 b2 b3 b4 b5
        go_wp2_with fail
        refine (cmpO_any yt yl xt xl kb ka wr.drew hkw).mono ?_
        rintro e2 w2 ⟨rfl, hb2⟩
        go_wp2_with fail
        go_roundw
        case rel =>
          refine ⟨m + e + 1, j, by go_num, rfl, by omega, by omega, by omega, .inr fun y hy => ?_, HJ, RowO.below (w := wr.drew) hrr hb2, grown_below (grown_drew hgr) hb2⟩
          rw [show m + e + 1 - m - 1 = e from by omega, HY.out] at hy
          injection hy with hy
          subst hy
          exact (leO_total _ _).resolve_left HLE.out
        case measure => simp [intOf]; omega
    · have hij2 : j = i := by omega
      subst hij2
      obtain ⟨B1, B2, rfl, HB1⟩ : ∃ B1 B2, B = B1 ++ B2 ∧ Hid (j = m + B1.length) := ⟨B.take (j - m), B.drop (j - m), (List.take_append_drop _ _).symm, by have := hb.out; show _ = _; simp; omega⟩
      have HS : Hid (B1 ++ ⟨xt, xl⟩ :: B2 = isort (⟨xt, xl⟩ :: (B1 ++ B2))) := by
        refine one_left hB.out ?_ ?_
        · intro y hy
          rcases HI.out with h | h
          · have := HB1.out
            have h0 : B1 = [] := List.eq_nil_of_length_eq_zero (by omega)
            subst h0
            simp at hy
          · refine h y ?_
            have h1 := HB1.out
            have h0 : B1 ≠ [] := by rintro rfl; simp at hy
            have h2 := List.length_pos_iff.2 h0
            rw [List.getElem?_append_left (by omega), show j - m - 1 = B1.length - 1 from by omega, ← List.getLast?_eq_getElem?]
            exact hy
        · intro y hy
          rcases HJ.out with h | h
          · have h1 := HB1.out
            have h2 := hb.out
            have h0 : B2 = [] := List.eq_nil_of_length_eq_zero (by simp at h2; omega)
            subst h0
            simp at hy
          · refine h y ?_
            have h1 := HB1.out
            rw [List.getElem?_append_right (by omega), show j - m - B1.length = 0 from by omega, ← List.head?_eq_getElem?]
            exact hy
      clear HI HJ
      go_wp2_with fail
      obtain ⟨wo, rfl⟩ : ∃ wo : World, wo = wr := ⟨_, rfl⟩
      go_loopw [13] (fun iv wr => ∃ (k : Nat) (C D : List Out), iv = .int .i64 k ∧ k < j ∧ Hid (k = a + C.length) ∧ Hid (B1 = C ++ D) ∧ RowO wr g (X ++ (C ++ ⟨xt, xl⟩ :: (D ++ (B2 ++ Y)))) rest ∧ w.grownBy wr (some g)) (fun i _ => j - (intOf i).toNat)
      case atStart => exact ⟨a, [], B1, rfl, by omega, rfl, rfl, by simpa using hrr, hgr⟩
      case round =>
        obtain ⟨k, C, D, rfl, hkj, HK, HCD, hrj, hgj⟩ := hrel
        have HL : Hid (j = k + 1 + D.length) := by
          have h1 := HB1.out; have h2 := HCD.out; have h3 := HK.out; have h4 := hm.out
          rw [h2] at h1
          show _ = _; simp at h1; omega
        by_cases hd : k + 1 < j
        · have hD : D ≠ [] := by rintro rfl; have h := HL.out; simp at h; omega
          obtain ⟨⟨yt, yl⟩, D', rfl⟩ := List.exists_cons_of_ne_nil hD
          clear hD
          have hi : Hid (k = (X ++ C).length) := by have h1 := HK.out; have h2 := ha.out; show _ = _; simp; omega
          have hrA : RowO wr g ((X ++ C) ++ ⟨xt, xl⟩ :: ⟨yt, yl⟩ :: (D' ++ (B2 ++ Y))) rest := by simpa using hrj
          have hxd : ((X ++ C) ++ ⟨xt, xl⟩ :: ⟨yt, yl⟩ :: (D' ++ (B2 ++ Y)))[k]? = some ⟨xt, xl⟩ := by rw [hi.out, List.getElem?_append_right (Nat.le_refl _)]; simp
          have hyd : ((X ++ C) ++ ⟨xt, xl⟩ :: ⟨yt, yl⟩ :: (D' ++ (B2 ++ Y)))[k + 1]? = some ⟨yt, yl⟩ := by rw [hi.out, List.getElem?_append_right (by omega)]; simp
          obtain ⟨cx0, cx1⟩ := hrA.cells hxd
          obtain ⟨cy0, cy1⟩ := hrA.cells hyd
          have f0 := hrA.free (k * 2)
          have f1 := hrA.free (k * 2 + 1)
          have f2 := hrA.free ((k + 1) * 2)
          have f3 := hrA.free ((k + 1) * 2 + 1)
          have hkn : k + 1 < n := by omega
          have hr3 := RowO.put (RowO.put hrA (i := k) (by rw [hi.out]; simp <;> omega) yt yl) (i := k + 1) (by rw [hi.out]; simp <;> omega) xt xl
          have hg3 := grown_drew (grown_set (grown_set (grown_set (grown_set hgj (k * 2) (.int .i64 yt)) (k * 2 + 1) (.int .i64 yl)) ((k + 1) * 2) (.int .i64 xt)) ((k + 1) * 2 + 1) (.int .i64 xl))
          have hsw : (((X ++ C) ++ ⟨xt, xl⟩ :: ⟨yt, yl⟩ :: (D' ++ (B2 ++ Y))).set k ⟨yt, yl⟩).set (k + 1) ⟨xt, xl⟩ = X ++ ((C ++ [⟨yt, yl⟩]) ++ ⟨xt, xl⟩ :: (D' ++ (B2 ++ Y))) := by
            rw [hi.out, swap_adj2]
            simp
          rw [hsw] at hr3
          have HR3 := hide (RowO.draw hr3)
          have HG3 := hide hg3
          clear hxd hyd hrj hrr hsw hr3 hg3 hrA hgj
          go_wp2_with fail
          go_region
          go_wp2_with fail
          go_roundw
          case rel =>
            refine ⟨k + 1, C ++ [⟨yt, yl⟩], D', by go_num, by omega, ?_, ?_, HR3.out, HG3.out⟩
            · have h1 := HK.out; show _ = _; simp; omega
            · have h1 := HCD.out; show _ = _; simpa using h1
          case measure => simp [intOf]; omega
        · have hD : D = [] := List.eq_nil_of_length_eq_zero (by have h := HL.out; omega)
          subst hD
          have hdd : decide ((k : Int) < (j : Int) - 1) = false := by simp; omega
          go_wp2_with fail
          refine bodyPost_ret (results_none rfl _ _ _) rfl ?_
          refine ⟨rfl, ?_, hgj⟩
          have h1 := HCD.out
          rw [List.append_nil] at h1
          subst h1
          have h2 := HS.out
          show RowO _ _ (X ++ (isort (⟨xt, xl⟩ :: (B1 ++ B2)) ++ Y)) _
          rw [← h2]
          simpa using hrj

end Go.Proofs.YtnigfddanoaonaaGreat

set_option linter.unusedVariables false
namespace Go.Proofs.YtnigfddanoaonaaGreat
open Go.RowKit

set_option maxRecDepth 100000 in
set_option maxHeartbeats 4000000 in
theorem sym_right (X A Y : List Out) (xt xl : Int) (rest : List Value) (g kb ka n a m b c : Nat) (w : World) (hr : RowO w g (X ++ (A ++ ([⟨xt, xl⟩] ++ Y))) rest) (hk : Keys w kb ka) (hn : Hid (n = (X ++ (A ++ ([(⟨xt, xl⟩ : Out)] ++ Y))).length)) (ha : Hid (a = X.length)) (hm : Hid (m = a + A.length)) (hb : Hid (b = m + 1)) (hA : Hid (Srt A)) (hA1 : Hid (A.length ≠ 1)) (hlen : n ≤ 1000000000000000) :
    Calls Tryz.prog 179 #[.slice (some ⟨g, 0, none⟩) n c, .int .i64 a, .int .i64 m, .int .i64 b, .func (.func 170) #[] #[.pointer (some ⟨kb, 0, none⟩)]] w fun e w' =>
      e = .returned (.tuple #[]) ∧ RowO w' g (X ++ (isort (A ++ [⟨xt, xl⟩]) ++ Y)) rest ∧ w.grownBy w' (some g) := by
  have hne := hk.ne hr
  have hbn : a ≤ m ∧ m < b ∧ b ≤ n := by have h1 := hn.out; have h2 := ha.out; have h3 := hb.out; have h4 := hm.out; simp at h1; omega
  have hbn1 := hbn.1
  have hbn2 := hbn.2.1
  have hbn3 := hbn.2.2
  clear hbn
  have hone0 : ((m : Int) - a == 1) = false := by have := hm.out; have := hA1.out; simp; omega
  have hone : ((b : Int) - m == 1) = true := by have := hb.out; simp; omega
  go_enter Tryz.func179, Tryz.ntmps179
  go_wp2_with fail
  go_loopw [14, 15] (fun iv jv wr => ∃ (i j : Nat), iv = .int .i64 i ∧ jv = .int .i64 j ∧ a ≤ i ∧ i ≤ j ∧ j ≤ m ∧ 
    Hid (i = a ∨ ∀ y, A[i - a - 1]? = some y → leO y ⟨xt, xl⟩) ∧ Hid (j = m ∨ ∀ y, A[j - a]? = some y → leO ⟨xt, xl⟩ y) ∧ RowO wr g (X ++ (A ++ ([⟨xt, xl⟩] ++ Y))) rest ∧ w.grownBy wr (some g)) (fun i j _ => (intOf j).toNat - (intOf i).toNat)
  case atStart => exact ⟨a, m, rfl, rfl, by omega, by omega, by omega, .inl rfl, .inl rfl, hr, grown_refl _ _⟩
  case round =>
    obtain ⟨i, j, rfl, rfl, hai, hij, hjm, HI, HJ, hrr, hgr⟩ := hrel
    by_cases hlt : i < j
    · obtain ⟨h, hh⟩ : ∃ h, h = (i + j) / 2 := ⟨_, rfl⟩
      have hhi : i ≤ h := by omega
      have hhj : h < j := by omega
      have hmid : ((i : Int) + j) / 2 = (h : Int) := by omega
      clear hh
      obtain ⟨e, rfl⟩ : ∃ e, h = a + e := ⟨h - a, by omega⟩
      have HM : Hid (m = X.length + A.length) := by have h1 := ha.out; have h2 := hm.out; show _ = _; omega
      obtain ⟨⟨yt, yl⟩, hy⟩ : ∃ y, A[e]? = some y := ⟨A[e]'(by have := hm.out; omega), List.getElem?_eq_getElem _⟩
      have hyd : (X ++ (A ++ ([⟨xt, xl⟩] ++ Y)))[a + e]? = some ⟨yt, yl⟩ := by
        rw [ha.out]
        exact get_in _ _ _ hy
      have hxd : (X ++ (A ++ ([⟨xt, xl⟩] ++ Y)))[m]? = some ⟨xt, xl⟩ := by
        rw [HM.out, ← List.append_assoc, ← List.length_append]
        exact get_in (X ++ A) [⟨xt, xl⟩] Y (k := 0) rfl
      obtain ⟨cy0, cy1⟩ := hrr.cells hyd
      obtain ⟨cx0, cx1⟩ := hrr.cells hxd
      have hkw := hide ((hk.grown hne hgr).grown hne (grown_drew (grown_refl wr (some g))))
      have HY := hide hy
      clear hyd hxd hy
      have b1 : 0 ≤ (a : Int) + e := by omega
      have b2 : (a : Int) + e < (n : Int) := by omega
      have b3 : 0 ≤ (m : Int) := by omega
      have b4 : (m : Int) < (n : Int) := by omega
      have b5 : ((a : Int) + e).toNat = a + e := by omega
      by_cases hle : leO ⟨yt, yl⟩ ⟨xt, xl⟩
      · have hcm : 0 ≤ cmpO ⟨xt, xl⟩ ⟨yt, yl⟩ := by have := (cmpO_neg (a := ⟨xt, xl⟩) (b := ⟨yt, yl⟩)); simp only [hle, not_true, iff_false] at this; omega
        have hcd : decide (cmpO ⟨xt, xl⟩ ⟨yt, yl⟩ < 0) = false := by simp; omega
        have HLE := hide hle
        clear hle
        go_wp2_with fail
        go_still_tail 9, (by kernel_rfl)
        change wpList _ _ _ _ _ wr.drew
        clear b1 b2 b3 b4 b5
        go_wp2_with fail
        refine (cmpO_any xt xl yt yl kb ka wr.drew hkw).mono ?_
        rintro e2 w2 ⟨rfl, hb2⟩
        go_wp2_with fail
        go_roundw
        case rel =>
          refine ⟨a + e + 1, j, by go_num, rfl, by omega, by omega, by omega, .inr fun y hy => ?_, HJ, RowO.below (w := wr.drew) hrr hb2, grown_below (grown_drew hgr) hb2⟩
          rw [show a + e + 1 - a - 1 = e from by omega, HY.out] at hy
          injection hy with hy
          subst hy
          exact HLE.out
        case measure => simp [intOf]; omega
      · have hcm : cmpO ⟨xt, xl⟩ ⟨yt, yl⟩ < 0 := cmpO_neg.2 hle
        have HLE := hide hle
        clear hle
        go_wp2_with fail
        go_still_tail 9, (by kernel_rfl)
        change wpList _ _ _ _ _ wr.drew
        clear b1 b2 b3 b4 b5
        go_wp2_with fail
        refine (cmpO_any xt xl yt yl kb ka wr.drew hkw).mono ?_
        rintro e2 w2 ⟨rfl, hb2⟩
        go_wp2_with fail
        go_roundw
        case rel =>
          refine ⟨i, a + e, by go_num, by go_num, by omega, by omega, by omega, HI, .inr fun y hy => ?_, RowO.below (w := wr.drew) hrr hb2, grown_below (grown_drew hgr) hb2⟩
          rw [show a + e - a = e from by omega, HY.out] at hy
          injection hy with hy
          subst hy
          exact (leO_total _ _).resolve_right HLE.out
        case measure => simp [intOf]; omega
    · have hij2 : j = i := by omega
      subst hij2
      obtain ⟨A1, A2, rfl, HA1⟩ : ∃ A1 A2, A = A1 ++ A2 ∧ Hid (j = a + A1.length) := ⟨A.take (j - a), A.drop (j - a), (List.take_append_drop _ _).symm, by have := hm.out; show _ = _; simp; omega⟩
      have HS : Hid (A1 ++ ⟨xt, xl⟩ :: A2 = isort ((A1 ++ A2) ++ [⟨xt, xl⟩])) := by
        show _ = _
        rw [isort_perm_eq (l := (A1 ++ A2) ++ [(⟨xt, xl⟩ : Out)]) (l' := (⟨xt, xl⟩ : Out) :: (A1 ++ A2)) List.perm_append_comm]
        refine one_left hA.out ?_ ?_
        · intro y hy
          rcases HI.out with h | h
          · have := HA1.out
            have h0 : A1 = [] := List.eq_nil_of_length_eq_zero (by omega)
            subst h0
            simp at hy
          · refine h y ?_
            have h1 := HA1.out
            have h0 : A1 ≠ [] := by rintro rfl; simp at hy
            have h2 := List.length_pos_iff.2 h0
            rw [List.getElem?_append_left (by omega), show j - a - 1 = A1.length - 1 from by omega, ← List.getLast?_eq_getElem?]
            exact hy
        · intro y hy
          rcases HJ.out with h | h
          · have h1 := HA1.out
            have h2 := hm.out
            have h0 : A2 = [] := List.eq_nil_of_length_eq_zero (by simp at h2; omega)
            subst h0
            simp at hy
          · refine h y ?_
            have h1 := HA1.out
            rw [List.getElem?_append_right (by omega), show j - a - A1.length = 0 from by omega, ← List.head?_eq_getElem?]
            exact hy
      clear HI HJ
      go_wp2_with fail
      obtain ⟨wo, rfl⟩ : ∃ wo : World, wo = wr := ⟨_, rfl⟩
      go_loopw [17] (fun iv wr => ∃ (k : Nat) (C D : List Out), iv = .int .i64 k ∧ j ≤ k ∧ k ≤ m ∧ Hid (k = j + C.length) ∧ Hid (A2 = C ++ D) ∧ RowO wr g (X ++ (A1 ++ (C ++ ⟨xt, xl⟩ :: (D ++ Y)))) rest ∧ w.grownBy wr (some g)) (fun i _ => (intOf i).toNat)
      case atStart =>
        refine ⟨m, A2, [], rfl, by omega, by omega, ?_, ?_, by simpa using hrr, hgr⟩
        · have h1 := HA1.out; have h2 := hm.out; show _ = _; simp at h2; omega
        · show _ = _; simp
      case round =>
        obtain ⟨k, C, D, rfl, hjk, hkm, HK, HCD, hrj, hgj⟩ := hrel
        by_cases hd : j < k
        · have hC : C ≠ [] := by rintro rfl; have h := HK.out; simp at h; omega
          obtain ⟨C', y, rfl⟩ : ∃ C' y, C = C' ++ [y] := ⟨C.dropLast, C.getLast hC, (List.dropLast_concat_getLast hC).symm⟩
          clear hC
          obtain ⟨yt, yl⟩ := y
          obtain ⟨k, rfl⟩ : ∃ k', k = k' + 1 := ⟨k - 1, by omega⟩
          have hi : Hid (k = (X ++ (A1 ++ C')).length) := by have h1 := HK.out; have h2 := ha.out; have h3 := HA1.out; show _ = _; simp at h1 ⊢; omega
          have hrA : RowO wr g ((X ++ (A1 ++ C')) ++ ⟨yt, yl⟩ :: ⟨xt, xl⟩ :: (D ++ Y)) rest := by simpa using hrj
          have hyd : ((X ++ (A1 ++ C')) ++ ⟨yt, yl⟩ :: ⟨xt, xl⟩ :: (D ++ Y))[k]? = some ⟨yt, yl⟩ := by rw [hi.out]; exact get_mid _ _ _
          have hxd : ((X ++ (A1 ++ C')) ++ ⟨yt, yl⟩ :: ⟨xt, xl⟩ :: (D ++ Y))[k + 1]? = some ⟨xt, xl⟩ := by rw [hi.out, List.getElem?_append_right (by omega)]; simp
          obtain ⟨cx0, cx1⟩ := hrA.cells hxd
          obtain ⟨cy0, cy1⟩ := hrA.cells hyd
          have f0 := hrA.free (k * 2)
          have f1 := hrA.free (k * 2 + 1)
          have f2 := hrA.free ((k + 1) * 2)
          have f3 := hrA.free ((k + 1) * 2 + 1)
          have hkn : k + 1 < n := by omega
          have hr3 := RowO.put (RowO.put hrA (i := k + 1) (by rw [hi.out]; simp <;> omega) yt yl) (i := k) (by rw [hi.out]; simp <;> omega) xt xl
          have hg3 := grown_drew (grown_set (grown_set (grown_set (grown_set hgj ((k + 1) * 2) (.int .i64 yt)) ((k + 1) * 2 + 1) (.int .i64 yl)) (k * 2) (.int .i64 xt)) (k * 2 + 1) (.int .i64 xl))
          have hsw : (((X ++ (A1 ++ C')) ++ ⟨yt, yl⟩ :: ⟨xt, xl⟩ :: (D ++ Y)).set (k + 1) ⟨yt, yl⟩).set k ⟨xt, xl⟩ = X ++ (A1 ++ (C' ++ ⟨xt, xl⟩ :: ((⟨yt, yl⟩ :: D) ++ Y))) := by
            rw [hi.out, swap_adj]
            simp
          rw [hsw] at hr3
          have HR3 := hide (RowO.draw hr3)
          have HG3 := hide hg3
          clear hxd hyd hrj hrr hsw hr3 hg3 hrA hgj
          go_wp2_with fail
          go_region
          go_wp2_with fail
          go_roundw
          case rel =>
            refine ⟨k, C', ⟨yt, yl⟩ :: D, by go_num, by omega, by omega, ?_, ?_, HR3.out, HG3.out⟩
            · have h1 := HK.out; show _ = _; simp at h1; omega
            · have h1 := HCD.out; show _ = _; simpa using h1
          case measure => simp [intOf]
        · have hC : C = [] := List.eq_nil_of_length_eq_zero (by have h := HK.out; omega)
          subst hC
          go_wp2_with fail
          refine bodyPost_ret (results_none rfl _ _ _) rfl ?_
          refine ⟨rfl, ?_, hgj⟩
          have h1 := HCD.out
          rw [List.nil_append] at h1
          subst h1
          rw [← HS.out]
          simpa using hrj

end Go.Proofs.YtnigfddanoaonaaGreat

/-
  Rotor configurations: Check of the program and of the reference.
  slices.Clone of ints.
  A board: the rotors with the vertices to which the half-edges lead; a step.
  boardOf and at: a right rotor configuration's board.
  boardOf and at, where there is no board; at, where there is one.
  chips.Check, rotor.given.
  stabilize.rooted, stabilize.Check.
  network.Sandpile.
  network.Sandpile.
  network.turner: the processor of a rotor.
  Right rotors: what a step does to them (plain law), and the program's Step.
  network.Router.
  Networks: the check of picks.
  network.Run: a right network runs by picks.
  ref44.Opposite, ref45.Targets.
  rotor.Step.
  ref45.Turned, ref45.Step.
  The sizes that the statements take in: ref08.Few, ref44.Few, ref45.Few.
  There is a forest for every right graph.
  A range over a function whose iterator and whose body both write cells: the law.
  The iterator way: with a step that turns, and with one that only looks (printed by wip/mkWay.py).
  The states on a way; the first time at the sink; what the range over a way needs besides.
  rotor.Walk.
  rotor.Route.
  rotor.Edges.
  ref45.Routed.
  slices.Equal of ints, ref17.Order, Same, ref18.SameScripts; the sizes that the statements take in (Few).
  The triangle of the examples.
  Routing chips: plain law.
-/
import Derived.Test.YtnigfddanoaonaaGreatNo4
import Derived.BigQuiet
import Derived.RangeFuncBox
import Derived.Deep.RegionHeld3
import Derived.Deep.RegionWith
import Derived.Laws.MakeOwn
import Derived.Deep.RegionLaw
import Derived.StillTailTactics
import Derived.RangeFuncNested
import Derived.RangeFuncLeaves
import Derived.Shelf.Abstract
import Derived.OwnWalkIn
import Derived.TacticsInMore
import Derived.LoopNIn
import Derived.LoopIn
import Derived.Maps.AppendAt
import Derived.BigRegionIn

set_option linter.unusedVariables false
set_option linter.unusedSimpArgs false
set_option linter.unnecessarySimpa false
namespace Go.Proofs.YtnigfddanoaonaaGreat
open Go.RowKit

def badR (q : Int) (v : Nat) (k : Int) (d : Nat) : Prop := k < 0 ∨ ((v : Int) = q ∧ k ≠ 0) ∨ ((v : Int) ≠ q ∧ (d : Int) ≤ k)
instance (q : Int) (v : Nat) (k : Int) (d : Nat) : Decidable (badR q v k d) := by unfold badR; infer_instance
/-- The error of the rotors, from the vertex v on. -/
def rotE (q : Int) : Nat → List (List Int) → List Int → Int
  | v, a :: ar, k :: r => if badR q v k a.length then 2 else rotE q (v + 1) ar r
  | _, _, _ => 0
theorem rotE_cons (q : Int) (v : Nat) (a : List Int) (ar : List (List Int)) (k : Int) (r : List Int) : rotE q v (a :: ar) (k :: r) = if badR q v k a.length then 2 else rotE q (v + 1) ar r := rfl
theorem rotE_nil (q : Int) (v : Nat) (r : List Int) : rotE q v [] r = 0 := by cases r <;> rfl
/-- The error of a rotor configuration. -/
def rtE (n : Int) (es : List Edg) (f : List Nat) (ar : List (List Int)) (q : Int) (rot : List Int) : Int :=
  if chkE n es f ar = 0 then (if vtxB n q = true then (if (rot.length : Int) = n then rotE q 0 ar rot else 8) else 2) else chkE n es f ar
theorem chkE_zero {n : Int} {es : List Edg} {f : List Nat} {ar : List (List Int)} (h : chkE n es f ar = 0) : jErr n es f = 0 ∧ (ar.length : Int) = n ∧ rowsE ar (halfs n es) = 0 := by
  unfold chkE at h
  split at h
  · rename_i h1
    split at h
    · rename_i h2; exact ⟨h1, h2, h⟩
    · cases h
  · rename_i h1; exact absurd h h1
theorem rtE_zero {n : Int} {es : List Edg} {f : List Nat} {ar : List (List Int)} {q : Int} {rot : List Int} (h : rtE n es f ar q rot = 0) :
    chkE n es f ar = 0 ∧ (0 ≤ q ∧ q < n) ∧ (rot.length : Int) = n ∧ rotE q 0 ar rot = 0 := by
  unfold rtE at h
  split at h
  · rename_i h1
    split at h
    · rename_i h2
      split at h
      · rename_i h3; exact ⟨h1, vtxB_iff.1 h2, h3, h⟩
      · cases h
    · cases h
  · rename_i h1; exact absurd h h1

set_option maxRecDepth 100000 in
set_option maxHeartbeats 8000000 in
theorem rotcheck_any (n : Int) (es : List Edg) (oe : Option Addr) (c : Nat) (ar : List (List Int)) (oa : Option Addr) (ca : Nat) (F G : Foot) (w : World) (hs : SliceR edgR 3 F w oe es) (hc : es.length ≤ c) (hc2 : es.length ≤ 1000)
    (ha : SliceR (slcR intR 1) 1 G w oa ar) (hac : ar.length ≤ ca) (hac2 : ar.length ≤ 9223372036854775807) (f : List Nat) (hU : Hid (gErr n es = 0 → Uf f (eL es)))
    (q : Int) (rot : List Int) (ot : Option Addr) (ct : Nat) (H : Foot) (hr : SliceR intR 1 H w ot rot) (hrc : rot.length ≤ ct) (hrl : rot.length ≤ 9223372036854775807) :
    Calls Tryz.prog 69 #[.agg #[.int .i64 n, .slice oe es.length c, .slice oa ar.length ca], .int .i64 q, .slice ot rot.length ct] w (ErrPost w (rtE n es f ar q rot)) := by
  go_enter Tryz.func69, Tryz.ntmps69
  go_wp2_with fail
  have hb0 := box_refl w (.cells #[.int .i64 n, .slice oe es.length c, .slice oa ar.length ca] 52)
  refine (rbcheck_any n es oe c ar oa ca F G _ (hs.below edgR_ok (below_box hb0)) hc hc2 (ha.below (slcR_ok intR_ok (by decide)) (below_box hb0)) hac hac2 f hU).mono ?_
  rintro e w2 ⟨rfl, hb2⟩
  have hx2 := hb2.mono (B' := w.heap.size + 1) (by simp)
  have d0 := box_cell hx2 0
  have d1 := box_cell hx2 1
  simp at d0 d1
  have HX := hide (below_box hx2)
  have HX2 := hide hx2
  clear hb2 hb0 hx2
  by_cases hJ : chkE n es f ar = 0
  · have HC : Hid (rtE n es f ar q rot = if vtxB n q = true then (if (rot.length : Int) = n then rotE q 0 ar rot else 8) else 2) := if_pos hJ
    have HN := hide (chkE_zero hJ).2.1
    rw [hJ]
    clear hJ
    by_cases hV : 0 ≤ q ∧ q < n
    · have HV := hide (vtxB_iff.2 hV)
      have q1 : decide (q < 0) = false := by simp; omega
      have q2 : decide (n ≤ q) = false := by simp; omega
      have q3 : decide (q < n) = true := by simp; omega
      have hqn : 0 ≤ q := hV.1
      clear hV
      by_cases hlen : (rot.length : Int) = n
      · have HC2 : Hid (rtE n es f ar q rot = rotE q 0 ar rot) := by show _ = _; rw [HC.out, if_pos HV.out, if_pos hlen]
        have q4 : ((rot.length : Int) != n) = false := by simp [hlen]
        have hra : Hid (ar.length = rot.length) := by have h1 := HN.out; show _ = _; omega
        have HLen := hide hlen
        clear hlen
        go_wp2_with fail
        go_loopw [32] (fun iv wr => ∃ k : Nat, k ≤ rot.length ∧ iv = .int .i64 k ∧ Hid (rtE n es f ar q rot = rotE q k (ar.drop k) (rot.drop k)) ∧ Below (w.heap.size + 1) (w.alloc (.cells #[.int .i64 n, .slice oe es.length c, .slice oa ar.length ca] 52)) wr) (fun iv _ => rot.length - (intOf iv).toNat)
        case atStart => exact ⟨0, by omega, rfl, HC2, HX2.out⟩
        case round =>
          clear d0 d1
          obtain ⟨k, hk, rfl, HS, hxr⟩ := hrel
          have hbw := below_box hxr
          have d0 := box_cell hxr 0
          have d1 := box_cell hxr 1
          simp at d0 d1
          by_cases hlt : k < rot.length
          · obtain ⟨x, hd, _, _, b, off, hot, _, c0⟩ := (hr.below intR_ok hbw).int_at hlt
            obtain ⟨a, hda, _, b2, off2, ol, cl, hoa, _, c1, hxl, hxl2, _⟩ := (ha.below (slcR_ok intR_ok (by decide)) hbw).slc_at (i := k) (by rw [hra.out]; exact hlt)
            subst hot hoa
            have d2 := box_cell hxr 2
            simp at d2
            have hka : k < ar.length := by rw [hra.out]; exact hlt
            have hkq1 : (k : Int) < ar.length := by omega
            have HS2 : Hid (rtE n es f ar q rot = if badR q k x a.length then 2 else rotE q (k + 1) (ar.drop (k + 1)) (rot.drop (k + 1))) := by
              show _ = _
              rw [HS.out, hd, hda, rotE_cons]
            clear hd hda
            have HB := hide hbw
            clear hbw
            by_cases h0 : x < 0
            · have p0 : decide (x < 0) = true := by simp [h0]
              have HR : Hid (rtE n es f ar q rot = 2) := by show _ = _; rw [HS2.out, if_pos (.inl h0)]
              clear h0
              go_wp2_with fail
              go_ret
              exact ⟨ret_int HR.out.symm, HB.out⟩
            · have p0 : decide (x < 0) = false := by simp; omega
              by_cases hv : (k : Int) = q
              · have p1 : ((k : Int) == q) = true := by simp [hv]
                have p2 : ((k : Int) != q) = false := by simp [hv]
                by_cases hx : x = 0
                · have p3 : (x != 0) = false := by simp [hx]
                  have HR : Hid (rtE n es f ar q rot = rotE q (k + 1) (ar.drop (k + 1)) (rot.drop (k + 1))) := by
                    show _ = _
                    rw [HS2.out, if_neg (by rintro (h | ⟨_, h⟩ | ⟨h, _⟩) <;> first | exact h0 h | exact h hx | exact h hv)]
                  have HXX := hide (And.intro h0 (And.intro hv hx))
                  clear h0 hv hx
                  go_wp2_with fail
                  go_roundw
                  case rel => exact ⟨k + 1, by omega, by go_num, HR, hxr⟩
                  case measure => simp [intOf]; omega
                · have p3 : (x != 0) = true := by simp [hx]
                  have HR : Hid (rtE n es f ar q rot = 2) := by show _ = _; rw [HS2.out, if_pos (.inr (.inl ⟨hv, hx⟩))]
                  have HXX := hide (And.intro h0 (And.intro hv hx))
                  clear h0 hv hx
                  go_wp2_with fail
                  go_ret
                  exact ⟨ret_int HR.out.symm, HB.out⟩
              · have p1 : ((k : Int) == q) = false := by simp [hv]
                have p2 : ((k : Int) != q) = true := by simp [hv]
                by_cases hx : (a.length : Int) ≤ x
                · have p3 : decide ((a.length : Int) ≤ x) = true := by simp [hx]
                  have p4 : decide (x < (a.length : Int)) = false := by simp; omega
                  have HR : Hid (rtE n es f ar q rot = 2) := by show _ = _; rw [HS2.out, if_pos (.inr (.inr ⟨hv, hx⟩))]
                  have HXX := hide (And.intro h0 (And.intro hv hx))
                  clear h0 hv hx
                  go_wp2_with fail
                  go_ret
                  exact ⟨ret_int HR.out.symm, HB.out⟩
                · have p3 : decide ((a.length : Int) ≤ x) = false := by simp; omega
                  have p4 : decide (x < (a.length : Int)) = true := by simp; omega
                  have HR : Hid (rtE n es f ar q rot = rotE q (k + 1) (ar.drop (k + 1)) (rot.drop (k + 1))) := by
                    show _ = _
                    rw [HS2.out, if_neg (by rintro (h | ⟨h, _⟩ | ⟨_, h⟩) <;> first | exact h0 h | exact hv h | exact hx h)]
                  have HXX := hide (And.intro h0 (And.intro hv hx))
                  clear h0 hv hx
                  go_wp2_with fail
                  go_roundw
                  case rel => exact ⟨k + 1, by omega, by go_num, HR, hxr⟩
                  case measure => simp [intOf]; omega
          · have HR : Hid (rtE n es f ar q rot = 0) := by
              show _ = _
              rw [HS.out, List.drop_of_length_le (by rw [hra.out]; omega), rotE_nil]
            have HB := hide hbw
            clear hbw
            go_wp2_with fail
            go_ret
            exact ⟨ret_int HR.out.symm, HB.out⟩
      · have HR : Hid (rtE n es f ar q rot = 8) := by show _ = _; rw [HC.out, if_pos HV.out, if_neg hlen]
        have q4 : ((rot.length : Int) != n) = true := by simp [hlen]
        have HLen := hide hlen
        clear hlen
        go_wp2_with fail
        go_ret
        exact ⟨ret_int HR.out.symm, HX.out⟩
    · have HR : Hid (rtE n es f ar q rot = 2) := by show _ = _; rw [HC.out, if_neg (fun h => hV (vtxB_iff.1 h))]
      by_cases hq : q < 0
      · have q1 : decide (q < 0) = true := by simp [hq]
        clear hV hq
        go_wp2_with fail
        go_ret
        exact ⟨ret_int HR.out.symm, HX.out⟩
      · have q1 : decide (q < 0) = false := by simp; omega
        have q2 : decide (n ≤ q) = true := by simp; omega
        have q3 : decide (q < n) = false := by simp; omega
        have HV := hide (And.intro hV hq)
        clear hV hq
        go_wp2_with fail
        go_ret
        exact ⟨ret_int HR.out.symm, HX.out⟩
  · have HR : Hid (rtE n es f ar q rot = chkE n es f ar) := if_neg hJ
    have hq : (chkE n es f ar != 0) = true := by simpa using hJ
    have HJ := hide hJ
    clear hJ
    go_wp2_with fail
    go_ret
    exact ⟨ret_int HR.out.symm, HX.out⟩

end Go.Proofs.YtnigfddanoaonaaGreat

set_option linter.unusedVariables false
set_option linter.unusedSimpArgs false
namespace Go.Proofs.YtnigfddanoaonaaGreat
open Go.RowKit

theorem iInfo : (Tryz.prog.info? 3).map (fun i => (i.zero, i.size, i.bytes)) = some (some (.int .i64 0), 1, 8) := by kernel_rfl


set_option maxHeartbeats 400000 in
theorem cloneI_any (l : List Int) (oa : Option Addr) (c : Nat) (F : Foot) (w : World) (hs : SliceR intR 1 F w oa l) (hc : l.length ≤ c) (hc2 : l.length ≤ 1000000000000) :
    Calls Tryz.prog 72 #[.slice oa l.length c] w fun e w' => ∃ v, e = .returned v ∧ OwnS intR 1 w.heap.size 3 Non w' v l ∧ Below w.heap.size w w' := by
  cases oa with
  | none =>
    have hl : l = [] := by
      cases l with
      | nil => rfl
      | cons x r => obtain ⟨b, off, cs, h, _⟩ := hs 0 x rfl; cases h
    subst hl
    have hq : ∀ w : World, (binOp .eql 23 (.slice none 0 c) (.slice none 0 0)).run Tryz.prog w = .ok (.bool true) w := fun w => Lib.run_eql_slice_nil w _ 3 none 0 c 0 0 Tryz.underlying23
    go_enter Tryz.func72, Tryz.ntmps72
    go_wp2_with fail
    go_ret
    exact ⟨_, rfl, OwnS.nil _ _ _ _ _ _, Below.refl _ _⟩
  | some ad =>
    have hq : ∀ w : World, (binOp .eql 23 (.slice (some ad) l.length c) (.slice none 0 0)).run Tryz.prog w = .ok (.bool false) w := fun w => Lib.run_eql_slice_nil w _ 3 (some ad) l.length c 0 0 Tryz.underlying23
    go_enter Tryz.func72, Tryz.ntmps72
    go_wp2_with (at_builtin; refine wpList_append_rep rfl (.tmp 5) (.tmp 6) 23 rfl w.heap.size 3 _ 1 8 Tryz.underlying23 iInfo rfl (by decide) intR_ok Non F (.slice (some ⟨w.heap.size, 0, none⟩) 0 0) [] rfl (OwnS.made _ _ _ _ _) (some ad) c l rfl (hs.below intR_ok (bnew (Below.refl _ _) _)) (fun _ _ h => h) (fun _ h => h.elim) (by simp; omega) (by simp; omega) (by simp) ?_; intro v' w1 ho hb1 hg)
    go_ret
    exact ⟨_, rfl, by simpa using ho, (bnew (Below.refl _ _) _).trans hb1⟩

end Go.Proofs.YtnigfddanoaonaaGreat

set_option linter.unusedVariables false
set_option linter.unusedSimpArgs false
set_option linter.unnecessarySimpa false
namespace Go.Proofs.YtnigfddanoaonaaGreat
open Go.RowKit

/-- The pointer p leads to a board: its rotors lie in the row rg. -/
structure Brd (B : Nat) (w : World) (p rg cap : Nat) (tv : Value) (q : Int) (av : Value) (tl rot : List Int) (rest : List Value) : Prop where
  pB : B ≤ p
  box : Box w p [.int .i64 q, av, tv, .slice (some ⟨rg, 0, none⟩) rot.length cap] 177
  gB : B ≤ rg
  row : Row1 (Value.int .i64) w rg 3 rot rest
  len : cap = rot.length + rest.length
  max : cap ≤ maxLen
  tos : OwnS intR 1 B 3 Non w tv tl
  off : tv.ownBlock ≠ some rg

section
variable {B : Nat} {w w' : World} {p rg cap : Nat} {tv : Value} {q : Int} {av : Value} {tl rot : List Int} {rest : List Value}
theorem Brd.ne (h : Brd B w p rg cap tv q av tl rot rest) : p ≠ rg := by
  intro e
  have h1 := h.box
  have h2 := h.row
  unfold Box at h1
  unfold Row1 at h2
  rw [← e, h1] at h2
  injection h2 with h2
  injection h2 with _ h2
  exact absurd h2 (by decide)
/-- What a board keeps while its blocks lie. -/
theorem Brd.keep (h : Brd B w p rg cap tv q av tl rot rest) (hb : ∀ k, B ≤ k → k < w.heap.size → k = p ∨ k = rg ∨ tv.ownBlock = some k → w'.heap[k]? = w.heap[k]?) : Brd B w' p rg cap tv q av tl rot rest where
  pB := h.pB
  box := h.box.keep (hb p h.pB h.box.lt (.inl rfl))
  gB := h.gB
  row := h.row.keep (hb rg h.gB h.row.lt (.inr (.inl rfl)))
  len := h.len
  max := h.max
  tos := h.tos.keep intR_ok (fun g hg => hb g (h.tos.block g hg).1 (h.tos.block g hg).2 (.inr (.inr hg))) (fun _ hk _ => hk.elim)
  off := h.off
theorem Brd.below (h : Brd B w p rg cap tv q av tl rot rest) (hb : Below w.heap.size w w') : Brd B w' p rg cap tv q av tl rot rest := h.keep fun k _ hk _ => hb.block k hk
theorem Brd.rebase {B' : Nat} (h : Brd B w p rg cap tv q av tl rot rest) (hb : B' ≤ B) : Brd B' w p rg cap tv q av tl rot rest := ⟨Nat.le_trans hb h.pB, h.box, Nat.le_trans hb h.gB, h.row, h.len, h.max, h.tos.rebase hb, h.off⟩
/-- A rotor is turned. -/
theorem Brd.put (h : Brd B w p rg cap tv q av tl rot rest) {v : Nat} (hv : v < rot.length) (y : Int) : Brd B (w.setCell ⟨rg, v, none⟩ (.int .i64 y)) p rg cap tv q av tl (rot.set v y) rest where
  pB := h.pB
  box := by rw [List.length_set]; exact h.box.other h.ne _
  gB := h.gB
  row := h.row.put hv y
  len := by rw [List.length_set]; exact h.len
  max := h.max
  tos := h.tos.keep intR_ok (fun g hg => Below.heap_setCell w _ _ g (fun e => h.off (by rw [hg]; exact congrArg some e))) (fun _ hk _ => hk.elim)
  off := h.off
end

def StepPost (B : Nat) (w : World) (p rg cap : Nat) (tv : Value) (q : Int) (av : Value) (tl rot : List Int) (rest : List Value) (v : Nat) (y t : Int) (e : Ending) (w' : World) : Prop :=
  e = .returned (.int .i64 t) ∧ Brd B w' p rg cap tv q av tl (rot.set v y) rest ∧ w.grownBy w' (some rg)

end Go.Proofs.YtnigfddanoaonaaGreat

set_option linter.unusedVariables false
set_option linter.unusedSimpArgs false
set_option linter.unnecessarySimpa false
namespace Go.Proofs.YtnigfddanoaonaaGreat
open Go.RowKit

/-- The vertices to which the half-edges lead. -/
def toL (l : List (Int × Int)) : List Int := l.flatMap fun p => [p.2, p.1]
/-- The half-edge opposite. -/
def oppH (h : Nat) : Nat := if h % 2 = 0 then h + 1 else h - 1
theorem toL_get (l : List (Int × Int)) : ∀ h, h < 2 * l.length → (toL l)[h]? = some (hv l (oppH h)) := by
  induction l with
  | nil => intro h hh; simp at hh
  | cons x r ih =>
    intro h hh
    show ([x.2, x.1] ++ toL r)[h]? = _
    match h with
    | 0 => rfl
    | 1 => rfl
    | h + 2 =>
      have h1 := ih h (by simp at hh; omega)
      show (toL r)[h]? = _
      rw [h1]
      have h2 : oppH (h + 2) = oppH h + 2 := by unfold oppH; split <;> (split <;> omega)
      rw [h2]
      unfold hv
      have h3 : (oppH h + 2) % 2 = oppH h % 2 := by omega
      have h4 : (oppH h + 2) / 2 = oppH h / 2 + 1 := by omega
      rw [h3, h4]
      rfl

def BoardPost (w : World) (n : Int) (es : List Edg) (f : List Nat) (ar : List (List Int)) (oa : Option Addr) (ca : Nat) (q : Int) (rot : List Int) (e : Ending) (w' : World) : Prop :=
  ∃ p rg cap tv rest, e = .returned (.tuple #[.pointer (some ⟨p, 0, none⟩), .int .i64 0]) ∧ Brd w.heap.size w' p rg cap tv q (.slice oa ar.length ca) (toL (endsL es)) rot rest ∧ Below w.heap.size w w'
def BoardErr (w : World) (x : Int) (e : Ending) (w' : World) : Prop := e = .returned (.tuple #[.pointer none, .int .i64 x]) ∧ Below w.heap.size w w'

end Go.Proofs.YtnigfddanoaonaaGreat

set_option linter.unusedVariables false
set_option linter.unusedSimpArgs false
set_option linter.unnecessarySimpa false
namespace Go.Proofs.YtnigfddanoaonaaGreat
open Go.RowKit

section
variable (n : Int) (es : List Edg) (oe : Option Addr) (c : Nat) (ar : List (List Int)) (oa : Option Addr) (ca : Nat) (F G : Foot) (w : World) (hs : SliceR edgR 3 F w oe es) (hc : es.length ≤ c) (hc2 : es.length ≤ 1000)
    (ha : SliceR (slcR intR 1) 1 G w oa ar) (hac : ar.length ≤ ca) (hac2 : ar.length ≤ 9223372036854775807) (f : List Nat) (hU : Hid (gErr n es = 0 → Uf f (eL es)))
    (q : Int) (rot : List Int) (ot : Option Addr) (ct : Nat) (H : Foot) (hr : SliceR intR 1 H w ot rot) (hrc : rot.length ≤ ct) (hrl : rot.length ≤ 9223372036854775807)
include hs hc hc2 ha hac hac2 hU hr hrc hrl

/-- The error of rotors and a vertex. -/
def stE (n : Int) (es : List Edg) (f : List Nat) (ar : List (List Int)) (q : Int) (rot : List Int) (v : Int) : Int := if rtE n es f ar q rot = 0 then (if vtxB n v = true then 0 else 2) else rtE n es f ar q rot

end

end Go.Proofs.YtnigfddanoaonaaGreat

set_option linter.unusedVariables false
set_option linter.unusedSimpArgs false
set_option linter.unnecessarySimpa false
namespace Go.Proofs.YtnigfddanoaonaaGreat
open Go.RowKit

def inChips (k : Int) : Bool := decide (-1048576 ≤ k ∧ k ≤ 1048576)
def dScan : List Int → Int
  | [] => 0
  | x :: r => if inChips x = true then dScan r else 2
/-- The error of a divisor on n vertices. -/
def dErr (n : Int) (d : List Int) : Int := if 1 ≤ n ∧ n ≤ 12 then (if (d.length : Int) = n then dScan d else 8) else 2
theorem dScan_zero : ∀ {d : List Int}, dScan d = 0 → ∀ x ∈ d, -1048576 ≤ x ∧ x ≤ 1048576
  | [], _, x, hx => by cases hx
  | y :: r, h, x, hx => by
    unfold dScan at h
    split at h
    · rename_i h1
      rcases List.mem_cons.1 hx with rfl | h2
      · simpa [inChips] using h1
      · exact dScan_zero h x h2
    · cases h
theorem dErr_zero {n : Int} {d : List Int} (h : dErr n d = 0) : (1 ≤ n ∧ n ≤ 12) ∧ (d.length : Int) = n ∧ ∀ x ∈ d, -1048576 ≤ x ∧ x ≤ 1048576 := by
  unfold dErr at h
  split at h
  · rename_i h1
    split at h
    · rename_i h2; exact ⟨h1, h2, dScan_zero h⟩
    · cases h
  · cases h

theorem within_any (k : Int) (w : World) : Calls Tryz.prog 103 #[.int .i64 k] w fun e w' => e = .returned (.bool (inChips k)) ∧ Below w.heap.size w w' := by
  by_cases h1 : -1048576 ≤ k
  · by_cases h2 : k ≤ 1048576
    · have HR : Hid (inChips k = true) := by show _ = _; simp [inChips, h1, h2]
      have q1 : decide ((-1048576 : Int) ≤ k) = true := by simp [h1]
      have q2 : decide (k ≤ (1048576 : Int)) = true := by simp [h2]
      clear h1 h2
      go_enter Tryz.func103, Tryz.ntmps103
      go_wp2_with fail
      go_ret
      exact ⟨ret_bool HR.out.symm, Below.refl _ _⟩
    · have HR : Hid (inChips k = false) := by show _ = _; simp [inChips]; omega
      have q1 : decide ((-1048576 : Int) ≤ k) = true := by simp [h1]
      have q2 : decide (k ≤ (1048576 : Int)) = false := by simp; omega
      clear h1 h2
      go_enter Tryz.func103, Tryz.ntmps103
      go_wp2_with fail
      go_ret
      exact ⟨ret_bool HR.out.symm, Below.refl _ _⟩
  · have HR : Hid (inChips k = false) := by show _ = _; simp [inChips]; omega
    have q1 : decide ((-1048576 : Int) ≤ k) = false := by simp; omega
    clear h1
    go_enter Tryz.func103, Tryz.ntmps103
    go_wp2_with fail
    go_ret
    exact ⟨ret_bool HR.out.symm, Below.refl _ _⟩

def vnE (n : Int) : Int := if 1 ≤ n ∧ n ≤ 12 then 0 else 2
theorem vertices_any (n : Int) (w : World) : Calls Tryz.prog 102 #[.int .i64 n] w (ErrPost w (vnE n)) := by
  by_cases h1 : 1 ≤ n
  · by_cases h2 : n ≤ 12
    · have HR : Hid (vnE n = 0) := if_pos ⟨h1, h2⟩
      have q1 : decide (n < (1 : Int)) = false := by simp; omega
      have q2 : decide ((12 : Int) < n) = false := by simp; omega
      clear h1 h2
      go_enter Tryz.func102, Tryz.ntmps102
      go_wp2_with fail
      go_ret
      exact ⟨ret_int HR.out.symm, Below.refl _ _⟩
    · have HR : Hid (vnE n = 2) := if_neg (by omega)
      have q1 : decide (n < (1 : Int)) = false := by simp; omega
      have q2 : decide ((12 : Int) < n) = true := by simp; omega
      clear h1 h2
      go_enter Tryz.func102, Tryz.ntmps102
      go_wp2_with fail
      go_ret
      exact ⟨ret_int HR.out.symm, Below.refl _ _⟩
  · have HR : Hid (vnE n = 2) := if_neg (by omega)
    have q1 : decide (n < (1 : Int)) = true := by simp; omega
    clear h1
    go_enter Tryz.func102, Tryz.ntmps102
    go_wp2_with fail
    go_ret
    exact ⟨ret_int HR.out.symm, Below.refl _ _⟩

set_option maxRecDepth 100000 in
set_option maxHeartbeats 2000000 in
theorem dcheck_any (n : Int) (d : List Int) (od : Option Addr) (cd : Nat) (F : Foot) (w : World) (hd : SliceR intR 1 F w od d) (hc : d.length ≤ cd) (hc2 : d.length ≤ 9223372036854775807) :
    Calls Tryz.prog 70 #[.slice od d.length cd, .int .i64 n] w (ErrPost w (dErr n d)) := by
  by_cases h1 : 1 ≤ n ∧ n ≤ 12
  · have HV : Hid (vnE n = 0) := if_pos h1
    by_cases h2 : (d.length : Int) = n
    · have HR : Hid (dErr n d = dScan d) := by show _ = _; unfold dErr; rw [if_pos h1, if_pos h2]
      have q1 : ((d.length : Int) != n) = false := by simp [h2]
      replace h2 := hide h2
      clear h1
      go_enter Tryz.func70, Tryz.ntmps70
      go_wp2_with fail
      refine (vertices_any n w).mono ?_
      rintro e w2 ⟨rfl, hb2⟩
      rw [HV.out]
      go_wp2_with fail
      go_loopw [19] (fun iv wr => ∃ k : Nat, k ≤ d.length ∧ iv = .int .i64 k ∧ Hid (dErr n d = dScan (d.drop k)) ∧ Below w.heap.size w wr) (fun iv _ => d.length - (intOf iv).toNat)
      case atStart => exact ⟨0, by omega, rfl, HR, hb2⟩
      case round =>
        clear hb2
        obtain ⟨k, hk, rfl, HS, hbW⟩ := hrel
        by_cases hlt : k < d.length
        · obtain ⟨x, hdr, _, ix, b, off, hod, _, c0⟩ := (hd.below intR_ok hbW).int_at hlt
          subst hod
          have HS2 : Hid (dErr n d = if inChips x = true then dScan (d.drop (k + 1)) else 2) := by show _ = _; rw [HS.out, hdr]; rfl
          clear hdr
          go_wp2_with fail
          refine (within_any x wr).mono ?_
          rintro e w3 ⟨rfl, hb3⟩
          have hb3' := hbW.trans (hb3.mono hbW.size)
          by_cases hx : inChips x = true
          · have HS3 : Hid (dErr n d = dScan (d.drop (k + 1))) := by show _ = _; rw [HS2.out, if_pos hx]
            rw [hx]
            clear hx
            go_wp2_with fail
            go_roundw
            case rel => exact ⟨k + 1, by omega, by go_num, HS3, hb3'⟩
            case measure => simp [intOf]; omega
          · have HS3 : Hid (dErr n d = 2) := by show _ = _; rw [HS2.out, if_neg hx]
            have hx2 : inChips x = false := by simpa using hx
            rw [hx2]
            clear hx hx2
            go_wp2_with fail
            go_ret
            exact ⟨ret_int HS3.out.symm, hb3'⟩
        · have hke : k = d.length := by omega
          have HS3 : Hid (dErr n d = 0) := by show _ = _; rw [HS.out, hke, List.drop_length]; rfl
          clear hke
          go_wp2_with fail
          go_ret
          exact ⟨ret_int HS3.out.symm, hbW⟩
    · have HR : Hid (dErr n d = 8) := by show _ = _; unfold dErr; rw [if_pos h1, if_neg h2]
      have q1 : ((d.length : Int) != n) = true := by simp [h2]
      clear h1 h2
      go_enter Tryz.func70, Tryz.ntmps70
      go_wp2_with fail
      refine (vertices_any n w).mono ?_
      rintro e w2 ⟨rfl, hb2⟩
      rw [HV.out]
      go_wp2_with fail
      go_ret
      exact ⟨ret_int HR.out.symm, hb2⟩
  · have HV : Hid (vnE n = 2) := if_neg h1
    have HR : Hid (dErr n d = 2) := if_neg h1
    clear h1
    go_enter Tryz.func70, Tryz.ntmps70
    go_wp2_with fail
    refine (vertices_any n w).mono ?_
    rintro e w2 ⟨rfl, hb2⟩
    rw [HV.out]
    go_wp2_with fail
    go_ret
    exact ⟨ret_int HR.out.symm, hb2⟩

/-- Chips that a vertex other than the sink lacks. -/
def gScan (q : Int) : Nat → List Int → Int
  | _, [] => 0
  | v, x :: r => if (v : Int) ≠ q ∧ x < 0 then 2 else gScan q (v + 1) r
/-- The error of rotors with chips. -/
def gvE (n : Int) (es : List Edg) (f : List Nat) (ar : List (List Int)) (q : Int) (rot d : List Int) : Int :=
  if rtE n es f ar q rot = 0 then (if dErr n d = 0 then gScan q 0 d else dErr n d) else rtE n es f ar q rot

section
variable (n : Int) (es : List Edg) (oe : Option Addr) (c : Nat) (ar : List (List Int)) (oa : Option Addr) (ca : Nat) (F G : Foot) (w : World) (hs : SliceR edgR 3 F w oe es) (hc : es.length ≤ c) (hc2 : es.length ≤ 1000)
    (ha : SliceR (slcR intR 1) 1 G w oa ar) (hac : ar.length ≤ ca) (hac2 : ar.length ≤ 9223372036854775807) (f : List Nat) (hU : Hid (gErr n es = 0 → Uf f (eL es)))
    (q : Int) (rot : List Int) (ot : Option Addr) (ct : Nat) (H : Foot) (hr : SliceR intR 1 H w ot rot) (hrc : rot.length ≤ ct) (hrl : rot.length ≤ 9223372036854775807)
    (d : List Int) (od : Option Addr) (cd : Nat) (D : Foot) (hd : SliceR intR 1 D w od d) (hdc : d.length ≤ cd) (hdl : d.length ≤ 9223372036854775807)
include hs hc hc2 ha hac hac2 hU hr hrc hrl hd hdc hdl

def GivenPost (w : World) (n : Int) (es : List Edg) (f : List Nat) (ar : List (List Int)) (oa : Option Addr) (ca : Nat) (q : Int) (rot d : List Int) (e : Ending) (w' : World) : Prop :=
  (gvE n es f ar q rot d = 0 ∧ BoardPost w n es f ar oa ca q rot e w') ∨ (gvE n es f ar q rot d ≠ 0 ∧ BoardErr w (gvE n es f ar q rot d) e w')

end

end Go.Proofs.YtnigfddanoaonaaGreat

set_option linter.unusedVariables false
set_option linter.unusedSimpArgs false
namespace Go.Proofs.YtnigfddanoaonaaGreat
open Go.RowKit

/-- The error of a connected graph with a sink; of a configuration. -/
def rootE (n : Int) (es : List Edg) (f : List Nat) (q : Int) : Int := if jErr n es f = 0 then (if vtxB n q = true then 0 else 2) else jErr n es f
def cfgE (n : Int) (es : List Edg) (f : List Nat) (q : Int) (d : List Int) : Int := if rootE n es f q = 0 then (if dErr n d = 0 then gScan q 0 d else dErr n d) else rootE n es f q

set_option maxRecDepth 100000 in
set_option maxHeartbeats 1000000 in
theorem srooted_any (n : Int) (es : List Edg) (oe : Option Addr) (c : Nat) (F : Foot) (w : World) (hs : SliceR edgR 3 F w oe es) (hc : es.length ≤ c) (hc2 : es.length ≤ 1000)
    (f : List Nat) (hU : Hid (gErr n es = 0 → Uf f (eL es))) (q : Int) : Calls Tryz.prog 96 #[.agg #[.int .i64 n, .slice oe es.length c], .int .i64 q] w (ErrPost w (rootE n es f q)) := by
  go_enter Tryz.func96, Tryz.ntmps96
  go_wp2_with fail
  have hb0 := box_refl w (.cells #[.int .i64 n, .slice oe es.length c] 43)
  refine (conn_any n es oe c F _ (hs.below edgR_ok (below_box hb0)) hc (by omega) f hU).mono ?_
  rintro e w3 ⟨rfl, hb3⟩
  have hx2 := hb3.mono (B' := w.heap.size + 1) (by simp)
  have d0 := box_cell hx2 0
  simp at d0
  have HX := hide (below_box hx2)
  clear hb3 hb0 hx2
  by_cases hV : gErr n es = 0
  · by_cases hp : partsN n es f = 1
    · have hJ : jErr n es f = 0 := by unfold jErr; rw [if_pos hV, if_pos hp]
      have HR : Hid (rootE n es f q = if vtxB n q = true then 0 else 2) := if_pos hJ
      have hq1 : (partsN n es f == 1) = true := by simpa using hp
      have hq2 : (gErr n es != 0) = false := by simp [hV]
      rw [hq1]
      clear hJ hp hV hq1
      by_cases h0 : q < 0
      · have HR2 : Hid (rootE n es f q = 2) := by show _ = _; rw [HR.out, if_neg (by rw [vtxB_iff]; omega)]
        have q1 : decide (q < 0) = true := by simp [h0]
        have q2 : decide (0 ≤ q) = false := by simp; omega
        clear h0
        go_wp2_with fail
        go_ret
        exact ⟨ret_int HR2.out.symm, HX.out⟩
      · have q1 : decide (q < 0) = false := by simp; omega
        have q2 : decide (0 ≤ q) = true := by simp; omega
        by_cases h1 : q < n
        · have HR2 : Hid (rootE n es f q = 0) := by show _ = _; rw [HR.out, if_pos (by rw [vtxB_iff]; omega)]
          have q3 : decide (n ≤ q) = false := by simp; omega
          have q4 : decide (q < n) = true := by simp; omega
          clear h0 h1
          go_wp2_with fail
          go_ret
          exact ⟨ret_int HR2.out.symm, HX.out⟩
        · have HR2 : Hid (rootE n es f q = 2) := by show _ = _; rw [HR.out, if_neg (by rw [vtxB_iff]; omega)]
          have q3 : decide (n ≤ q) = true := by simp; omega
          have q4 : decide (q < n) = false := by simp; omega
          clear h0 h1
          go_wp2_with fail
          go_ret
          exact ⟨ret_int HR2.out.symm, HX.out⟩
    · have hJ : jErr n es f = 13 := by unfold jErr; rw [if_pos hV, if_neg hp]
      have HR : Hid (rootE n es f q = 13) := by show _ = _; unfold rootE; rw [hJ]; rfl
      have hq1 : (partsN n es f == 1) = false := by simpa using hp
      have hq2 : (gErr n es != 0) = false := by simp [hV]
      rw [hq1]
      clear hJ hp hV hq1
      go_wp2_with fail
      go_ret
      exact ⟨ret_int HR.out.symm, HX.out⟩
  · have hJ : jErr n es f = gErr n es := if_neg hV
    have HR : Hid (rootE n es f q = gErr n es) := by show _ = _; unfold rootE; rw [hJ, if_neg hV]
    have hq2 : (gErr n es != 0) = true := by simpa using hV
    clear hJ hV
    go_wp2_with fail
    go_ret
    exact ⟨ret_int HR.out.symm, HX.out⟩

set_option maxRecDepth 100000 in
set_option maxHeartbeats 2000000 in
theorem scheck_any (n : Int) (es : List Edg) (oe : Option Addr) (c : Nat) (F : Foot) (w : World) (hs : SliceR edgR 3 F w oe es) (hc : es.length ≤ c) (hc2 : es.length ≤ 1000)
    (f : List Nat) (hU : Hid (gErr n es = 0 → Uf f (eL es))) (q : Int) (d : List Int) (od : Option Addr) (cd : Nat) (D : Foot) (hd : SliceR intR 1 D w od d) (hdc : d.length ≤ cd) (hdl : d.length ≤ 9223372036854775807) :
    Calls Tryz.prog 51 #[.agg #[.int .i64 n, .slice oe es.length c], .int .i64 q, .slice od d.length cd] w (ErrPost w (cfgE n es f q d)) := by
  go_enter Tryz.func51, Tryz.ntmps51
  go_wp2_with fail
  have hb0 := box_refl w (.cells #[.int .i64 n, .slice oe es.length c] 43)
  refine (srooted_any n es oe c F _ (hs.below edgR_ok (below_box hb0)) hc hc2 f hU q).mono ?_
  rintro e w2 ⟨rfl, hb2⟩
  have hx2 := hb2.mono (B' := w.heap.size + 1) (by simp)
  have d0 := box_cell hx2 0
  simp at d0
  have HX := hide (below_box hx2)
  clear hb2 hb0 hx2
  by_cases hR : rootE n es f q = 0
  · have HG : Hid (cfgE n es f q d = if dErr n d = 0 then gScan q 0 d else dErr n d) := if_pos hR
    have hd2 := hd.below intR_ok HX.out
    rw [hR]
    clear hR
    go_wp2_with fail
    refine (dcheck_any n d od cd D w2 hd2 hdc hdl).mono ?_
    rintro e w3 ⟨rfl, hb3⟩
    have hb23 := HX.out.trans (hb3.mono HX.out.size)
    have HX3 := hide hb23
    clear hb3 d0 hd2
    by_cases hE : dErr n d = 0
    · have HG2 : Hid (cfgE n es f q d = gScan q 0 d) := by show _ = _; rw [HG.out, if_pos hE]
      rw [hE]
      clear hE hb23
      go_wp2_with fail
      go_loopw [26] (fun iv wr => ∃ k : Nat, k ≤ d.length ∧ iv = .int .i64 k ∧ Hid (cfgE n es f q d = gScan q k (d.drop k)) ∧ wr = w3) (fun iv _ => d.length - (intOf iv).toNat)
      case atStart => exact ⟨0, by omega, rfl, HG2, rfl⟩
      case round =>
        obtain ⟨k, hk, rfl, HS, rfl⟩ := hrel
        by_cases hlt : k < d.length
        · obtain ⟨x, hdr, _, ix, b, off, hod, _, c0⟩ := (hd.below intR_ok HX3.out).int_at hlt
          subst hod
          have HS2 : Hid (cfgE n es f q d = if (k : Int) ≠ q ∧ x < 0 then 2 else gScan q (k + 1) (d.drop (k + 1))) := by show _ = _; rw [HS.out, hdr]; rfl
          clear hdr
          by_cases hkq : (k : Int) = q
          · have q1 : ((k : Int) != q) = false := by simp [hkq]
            have HS3 : Hid (cfgE n es f q d = gScan q (k + 1) (d.drop (k + 1))) := by show _ = _; rw [HS2.out, if_neg (by intro h; exact h.1 hkq)]
            clear hkq
            go_wp2_with fail
            go_roundw
            case rel => exact ⟨k + 1, by omega, by go_num, HS3, by first | rfl | trivial⟩
            case measure => simp [intOf]; omega
          · have q1 : ((k : Int) != q) = true := by simp [hkq]
            by_cases hx : x < 0
            · have q2 : decide (x < 0) = true := by simp [hx]
              have HS3 : Hid (cfgE n es f q d = 2) := by show _ = _; rw [HS2.out, if_pos ⟨hkq, hx⟩]
              clear hkq hx
              go_wp2_with fail
              go_ret
              exact ⟨ret_int HS3.out.symm, HX3.out⟩
            · have q2 : decide (x < 0) = false := by simp; omega
              have HS3 : Hid (cfgE n es f q d = gScan q (k + 1) (d.drop (k + 1))) := by show _ = _; rw [HS2.out, if_neg (by intro h; exact hx h.2)]
              clear hkq hx
              go_wp2_with fail
              go_roundw
              case rel => exact ⟨k + 1, by omega, by go_num, HS3, by first | rfl | trivial⟩
              case measure => simp [intOf]; omega
        · have hke : k = d.length := by omega
          have HS3 : Hid (cfgE n es f q d = 0) := by show _ = _; rw [HS.out, hke, List.drop_length]; rfl
          clear hke
          go_wp2_with fail
          go_ret
          exact ⟨ret_int HS3.out.symm, HX3.out⟩
    · have HG2 : Hid (cfgE n es f q d = dErr n d) := by show _ = _; rw [HG.out, if_neg hE]
      have hq : (dErr n d != 0) = true := by simpa using hE
      clear hE hb23
      go_wp2_with fail
      go_ret
      exact ⟨ret_int HG2.out.symm, HX3.out⟩
  · have HG : Hid (cfgE n es f q d = rootE n es f q) := if_neg hR
    have hq : (rootE n es f q != 0) = true := by simpa using hR
    clear hR
    go_wp2_with fail
    go_ret
    exact ⟨ret_int HG.out.symm, HX.out⟩

end Go.Proofs.YtnigfddanoaonaaGreat

set_option linter.unusedVariables false
set_option linter.unusedSimpArgs false
namespace Go.Proofs.YtnigfddanoaonaaGreat
open Go.RowKit

theorem mk_ints (T E : TypeId) (hT : Tryz.prog.underlying T = some (.slice E)) (hE : (Tryz.prog.info? E).map (fun i => (i.zero, i.size, i.bytes)) = some (some (.int .i64 0), 1, 8)) (n : Nat) (hn : n ≤ 1000000) :
    ∃ Z : Array Value, Z.toList = List.replicate n (.int .i64 0) ∧ ∀ w : World, (Instr.makeSlice T (.int .i64 (n : Int)) (.int .i64 (n : Int))).run Tryz.prog w = .ok (.slice (some ⟨w.heap.size, 0, none⟩) n n) (w.alloc (.cells Z E)) := by
  obtain ⟨i, hi, hz, hs, hb⟩ := info_parts hE
  refine ⟨madeCells #[.int .i64 0] n, toList_madeCells_one _ n, fun w => ?_⟩
  have h := run_make (P := Tryz.prog) w T E i (.int .i64 0) hT hi hz .i64 .i64 (n : Int) (n : Int) (by omega) (Int.le_refl _) (by rw [hb]; omega) (by omega)
  simp only [Int.toNat_natCast, hs, Nat.mul_one] at h
  exact h
theorem cell_set3 {w : World} {a i b : Nat} {v x y z : Value} (h : w.cell? ⟨a, i, none⟩ = some v) (hne : a ≠ b) : (((w.setCell ⟨b, 0, none⟩ x).setCell ⟨b, 1, none⟩ y).setCell ⟨b, 2, none⟩ z).cell? ⟨a, i, none⟩ = some v := by
  have e : ∀ (u : World) (j : Nat) (q : Value), (u.setCell ⟨b, j, none⟩ q).cell? ⟨a, i, none⟩ = u.cell? ⟨a, i, none⟩ := fun u j q => by
    unfold World.cell?
    rw [Below.heap_setCell u ⟨b, j, none⟩ q a hne]
  rw [e, e, e]
  exact h
/-- The processors of the first i vertices. -/
def pilesU (es : List Edg) (n : Nat) (q : Int) : Nat → Option (List Prc)
  | 0 => some []
  | v + 1 => (pilesU es n q v).bind fun l => if (v : Int) = q then some (l ++ [sinkP]) else if (nbrU es v n).length ≤ 16 then some (l ++ [topP (nbrU es v n)]) else none
def nwk0 : Nwk := ⟨[], [], []⟩
/-- What Sandpile comes to. -/
def sandR (n : Int) (es : List Edg) (f : List Nat) (q : Int) (d : List Int) : Nwk × Int :=
  if cfgE n es f q d = 0 then
    match pilesU es n.toNat q n.toNat with
    | some l => (⟨l, List.replicate n.toNat 0, waitD d q n.toNat⟩, 0)
    | none => (nwk0, 12)
  else (nwk0, cfgE n es f q d)
/-- A network in memory. -/
def NwAt (F : Foot) (w : World) (v : Value) (y : Nwk) : Prop := ∃ oq cq os cs ow cw, v = .agg #[.slice oq y.procs.length cq, .slice os y.state.length cs, .slice ow y.waiting.length cw] ∧ y.procs.length ≤ cq ∧ y.state.length ≤ cs ∧ y.waiting.length ≤ cw ∧ SliceR prcR 3 F w oq y.procs ∧ SliceR intR 1 F w os y.state ∧ SliceR (slcR intR 1) 1 F w ow y.waiting
def NwPost (w : World) (r : Nwk × Int) (e : Ending) (w' : World) : Prop := ∃ v, e = .returned (.tuple #[v, .int .i64 r.2]) ∧ NwAt All w' v r.1 ∧ Below w.heap.size w w'
theorem gErr_j {n : Int} {es : List Edg} {f : List Nat} {q : Int} {d : List Int} (h : cfgE n es f q d = 0) : gErr n es = 0 ∧ (1 ≤ n ∧ n ≤ 12) ∧ (d.length : Int) = n ∧ (∀ x ∈ d, -1048576 ≤ x ∧ x ≤ 1048576) := by
  have h1 : rootE n es f q = 0 := by
    unfold cfgE at h
    split at h
    · assumption
    · rename_i hx; exact absurd h hx
  have hd : dErr n d = 0 := by
    unfold cfgE at h
    rw [if_pos h1] at h
    split at h
    · assumption
    · rename_i hx; exact absurd h hx
  have hj : jErr n es f = 0 := by
    unfold rootE at h1
    split at h1
    · assumption
    · rename_i hx; exact absurd h1 hx
  have hg : gErr n es = 0 := by
    unfold jErr at hj
    split at hj
    · assumption
    · rename_i hx; exact absurd hj hx
  unfold dErr at hd
  split at hd
  · rename_i h12
    split at hd
    · rename_i hl
      exact ⟨hg, h12, hl, dScan_zero hd⟩
    · cases hd
  · cases hd

theorem wait_foot {W w4 : World} {v : Value} {ow : Option Addr} {l : List (List Int)} (h : SliceR (slcR intR 1) 1 (fun k => InF (fun k => W.heap.size ≤ k) v k ∨ W.heap.size ≤ k) w4 ow l) : SliceR (slcR intR 1) 1 (fun k => W.heap.size ≤ k ∧ k < w4.heap.size) w4 ow l :=
  h.wide (slcR_ok intR_ok (by decide)) (by decide) fun k hk hl => ⟨by rcases hk with h | h; exact h.1; exact h, hl⟩
theorem cell_drew {w : World} {a : Addr} {v : Value} (h : w.cell? a = some v) : w.drew.cell? a = some v := h
theorem drew_size (w : World) : w.drew.heap.size = w.heap.size := rfl
/-- The network that Sandpile begins with, in memory. -/
def SandBox (w3 W : World) (b N : Nat) (d : List Int) (q : Int) : Prop := ∃ rg ow cw, Box W b [.slice none 0 0, .slice (some ⟨rg, 0, none⟩) N N, .slice ow N cw] 26 ∧ Row1 (Value.int .i64) W rg 3 (List.replicate N 0) [] ∧
  SliceR (slcR intR 1) 1 (fun k => w3.heap.size ≤ k ∧ k ≠ b) W ow (waitD d q N) ∧ N ≤ cw ∧ w3.heap.size ≤ b ∧ w3.heap.size ≤ rg ∧ rg ≠ b ∧ Below w3.heap.size w3 W
theorem row_new {N : Nat} {Zs : Array Value} (hZ : Zs.toList = List.replicate N (.int .i64 0)) (w : World) : Row1 (Value.int .i64) (w.alloc (.cells Zs 3)) w.heap.size 3 (List.replicate N 0) [] := by
  have h := heap_alloc_new w (.cells Zs 3)
  unfold Row1
  rw [h]
  congr 2
  apply Array.toList_inj.1
  rw [hZ]
  simp
theorem sand_mk {w3 w4 W : World} {b rg N cw S0 : Nat} {ow : Option Addr} {d : List Int} {q : Int} (hS : w3.heap.size ≤ S0) (hsw : SliceR (slcR intR 1) 1 (fun k => S0 ≤ k ∧ k < w4.heap.size) w4 ow (waitD d q N)) (hcw : N ≤ cw)
    (hk : ∀ k, k < w4.heap.size → k ≠ b → W.heap[k]? = w4.heap[k]?) (hbx : Box W b [.slice none 0 0, .slice (some ⟨rg, 0, none⟩) N N, .slice ow N cw] 26) (hrow : Row1 (Value.int .i64) W rg 3 (List.replicate N 0) [])
    (hb : b < S0 ∨ w4.heap.size ≤ b) (hb3 : w3.heap.size ≤ b) (hrg : w3.heap.size ≤ rg) (hbl : Below w3.heap.size w3 W) : SandBox w3 W b N d q := by
  refine ⟨rg, ow, cw, hbx, hrow, (hsw.keep (slcR_ok intR_ok (by decide)) fun k hkk hkl => hk k hkl (by omega)).wide (slcR_ok intR_ok (by decide)) (by decide) fun k hkk _ => ⟨by omega, by omega⟩, hcw, hb3, hrg, ?_, hbl⟩
  exact fun e => ne_type hrow hbx (by decide) e
section
variable {w3 w4 : World} {N cw : Nat} {ow : Option Addr} {d : List Int} {q : Int} {Zs : Array Value}
theorem sbA {S0 : Nat} (hS : w3.heap.size ≤ S0) (hZ : Zs.toList = List.replicate N (.int .i64 0)) (hb : Below (w3.alloc (.cells Zs 3)).heap.size (w3.alloc (.cells Zs 3)) w4) (hsw : SliceR (slcR intR 1) 1 (fun k => S0 ≤ k ∧ k < w4.heap.size) w4 ow (waitD d q N)) (hcw : N ≤ cw) :
    SandBox w3 (w4.alloc (.cells #[.slice none 0 0, .slice (some ⟨w3.heap.size, 0, none⟩) N N, .slice ow N cw] 26)) w4.heap.size N d q := by
  have hs := hb.size
  rw [alloc_size'] at hs
  exact sand_mk hS hsw hcw (fun k hk _ => Below.heap_alloc _ _ k hk) (Box.new w4 [.slice none 0 0, .slice (some ⟨w3.heap.size, 0, none⟩) N N, .slice ow N cw] 26)
    (((row_new hZ w3).below hb).new _) (.inr (Nat.le_refl _)) (by omega) (Nat.le_refl _) (((bnew (Below.refl _ _) _).trans (hb.mono (by rw [alloc_size']; omega))).alloc (by omega) _)
theorem sbE {S0 : Nat} (hS : w3.heap.size ≤ S0) (hZ : Zs.toList = List.replicate N (.int .i64 0)) (hb : Below w3.heap.size w3 w4) (hsw : SliceR (slcR intR 1) 1 (fun k => S0 ≤ k ∧ k < w4.heap.size) w4 ow (waitD d q N)) (hcw : N ≤ cw) :
    SandBox w3 ((w4.alloc (.cells Zs 3)).alloc (.cells #[.slice none 0 0, .slice (some ⟨w4.heap.size, 0, none⟩) N N, .slice ow N cw] 26)) (w4.heap.size + 1) N d q := by
  have hs := hb.size
  have hbx := Box.new (w4.alloc (.cells Zs 3)) [.slice none 0 0, .slice (some ⟨w4.heap.size, 0, none⟩) N N, .slice ow N cw] 26
  rw [alloc_size'] at hbx
  exact sand_mk hS hsw hcw (fun k hk _ => (Below.heap_alloc _ _ k (by rw [alloc_size']; omega)).trans (Below.heap_alloc _ _ k hk)) hbx
    ((row_new hZ w4).new _) (.inr (by omega)) (by omega) (by omega) ((hb.alloc hs _).alloc (by rw [alloc_size']; omega) _)
theorem sbF {S0 : Nat} (hS : w3.heap.size ≤ S0) (hZ : Zs.toList = List.replicate N (.int .i64 0)) (hb : Below w3.heap.size w3 w4) (hsw : SliceR (slcR intR 1) 1 (fun k => S0 ≤ k ∧ k < w4.heap.size) w4 ow (waitD d q N)) (hcw : N ≤ cw) :
    SandBox w3 ((w4.alloc (.cells #[.slice none 0 0, .slice (some ⟨w4.heap.size + 1, 0, none⟩) N N, .slice ow N cw] 26)).alloc (.cells Zs 3)) w4.heap.size N d q := by
  have hs := hb.size
  have hbx := (Box.new w4 [.slice none 0 0, .slice (some ⟨w4.heap.size + 1, 0, none⟩) N N, .slice ow N cw] 26).next (.cells Zs 3)
  have hrw := row_new hZ (w4.alloc (.cells #[.slice none 0 0, .slice (some ⟨w4.heap.size + 1, 0, none⟩) N N, .slice ow N cw] 26))
  rw [alloc_size'] at hrw
  exact sand_mk hS hsw hcw (fun k hk _ => (Below.heap_alloc _ _ k (by rw [alloc_size']; omega)).trans (Below.heap_alloc _ _ k hk)) hbx hrw (.inr (Nat.le_refl _)) hs (by omega) ((hb.alloc hs _).alloc (by rw [alloc_size']; omega) _)
theorem set3_heap {w : World} {b k : Nat} {x y z : Value} (h : k ≠ b) : (((w.setCell ⟨b, 0, none⟩ x).setCell ⟨b, 1, none⟩ y).setCell ⟨b, 2, none⟩ z).heap[k]? = w.heap[k]? := by
  rw [Below.heap_setCell _ _ _ k h, Below.heap_setCell _ _ _ k h, Below.heap_setCell _ _ _ k h]
theorem sbBC {S0 b rg : Nat} (hz : Box w4 b [.slice none 0 0, .slice none 0 0, .slice none 0 0] 26) (hrow : Row1 (Value.int .i64) w4 rg 3 (List.replicate N 0) []) (hb : Below w3.heap.size w3 w4) (hS : w3.heap.size ≤ S0) (hsw : SliceR (slcR intR 1) 1 (fun k => S0 ≤ k ∧ k < w4.heap.size) w4 ow (waitD d q N)) (hcw : N ≤ cw) (hbS : b < S0) (hb3 : w3.heap.size ≤ b) (hrg : w3.heap.size ≤ rg) :
    SandBox w3 (((w4.setCell ⟨b, 0, none⟩ (.slice none 0 0)).setCell ⟨b, 1, none⟩ (.slice (some ⟨rg, 0, none⟩) N N)).setCell ⟨b, 2, none⟩ (.slice ow N cw)) b N d q := by
  have hfin := ((hz.put 0 (.slice none 0 0)).put 1 (.slice (some ⟨rg, 0, none⟩) N N)).put 2 (.slice ow N cw)
  simp only [List.set_cons_zero, List.set_cons_succ] at hfin
  exact sand_mk hS hsw hcw (fun k _ hne => set3_heap hne) hfin (hrow.keep (set3_heap fun e => ne_type hrow hz (by decide) e)) (.inl hbS) hb3 hrg (((hb.setCell hb3 _).setCell hb3 _).setCell hb3 _)
theorem sbD {b : Nat} {S0 : Nat} (hZ : Zs.toList = List.replicate N (.int .i64 0)) (hz : Box w4 b [.slice none 0 0, .slice none 0 0, .slice none 0 0] 26) (hb : Below w3.heap.size w3 w4) (hS : w3.heap.size ≤ S0) (hsw : SliceR (slcR intR 1) 1 (fun k => S0 ≤ k ∧ k < w4.heap.size) w4 ow (waitD d q N)) (hcw : N ≤ cw) (hbS : b < S0) (hb3 : w3.heap.size ≤ b) :
    SandBox w3 ((((w4.alloc (.cells Zs 3)).setCell ⟨b, 0, none⟩ (.slice none 0 0)).setCell ⟨b, 1, none⟩ (.slice (some ⟨w4.heap.size, 0, none⟩) N N)).setCell ⟨b, 2, none⟩ (.slice ow N cw)) b N d q := by
  have hs := hb.size
  have hl := hz.lt
  have hfin := (((hz.next (.cells Zs 3)).put 0 (.slice none 0 0)).put 1 (.slice (some ⟨w4.heap.size, 0, none⟩) N N)).put 2 (.slice ow N cw)
  simp only [List.set_cons_zero, List.set_cons_succ] at hfin
  exact sand_mk hS hsw hcw (fun k hk hne => (set3_heap hne).trans (Below.heap_alloc _ _ k hk)) hfin ((row_new hZ w4).keep (set3_heap (by omega))) (.inl hbS) hb3 (by omega) ((((hb.alloc hs _).setCell hb3 _).setCell hb3 _).setCell hb3 _)
end

end Go.Proofs.YtnigfddanoaonaaGreat

set_option linter.unusedVariables false
set_option linter.unusedSimpArgs false
namespace Go.Proofs.YtnigfddanoaonaaGreat
open Go.RowKit

theorem pilesU_none {es : List Edg} {n : Nat} {q : Int} {v : Nat} (h : pilesU es n q v = none) : ∀ m, v ≤ m → pilesU es n q m = none
  | 0, hm => by
    have : v = 0 := by omega
    subst this
    exact h
  | m + 1, hm => by
    by_cases he : v = m + 1
    · subst he; exact h
    · have h1 := pilesU_none h m (by omega)
      unfold pilesU
      rw [h1]
      rfl
theorem pilesU_len {es : List Edg} {n : Nat} {q : Int} : ∀ {v : Nat} {l : List Prc}, pilesU es n q v = some l → l.length = v
  | 0, l, h => by
    unfold pilesU at h
    injection h with h
    subst h
    rfl
  | v + 1, l, h => by
    unfold pilesU at h
    rw [Option.bind_eq_some_iff] at h
    obtain ⟨l0, h1, h2⟩ := h
    have h3 := pilesU_len h1
    split at h2
    · injection h2 with h2; subst h2; simp [h3]
    · split at h2
      · injection h2 with h2; subst h2; simp [h3]
      · cases h2
set_option maxRecDepth 100000 in
set_option maxHeartbeats 20000000 in
theorem nsand_any (n : Int) (es : List Edg) (oe : Option Addr) (c : Nat) (F : Foot) (w : World) (hs : SliceR edgR 3 F w oe es) (hc : es.length ≤ c) (hc2 : es.length ≤ 1000)
    (f : List Nat) (hU : Hid (gErr n es = 0 → Uf f (eL es))) (q : Int) (d : List Int) (od : Option Addr) (cd : Nat) (D : Foot) (hd : SliceR intR 1 D w od d) (hdc : d.length ≤ cd) (hdl : d.length ≤ 1000000) :
    Calls Tryz.prog 19 #[.agg #[.int .i64 n, .slice oe es.length c], .int .i64 q, .slice od d.length cd] w (NwPost w (sandR n es f q d)) := by
  obtain ⟨W1, e1⟩ : ∃ W1, w.alloc (.cells #[.int .i64 n, .slice oe es.length c] 43) = W1 := ⟨_, rfl⟩
  have bx1 : Box W1 w.heap.size [.int .i64 n, .slice oe es.length c] 43 := by rw [← e1]; exact Box.new w [.int .i64 n, .slice oe es.length c] 43
  have bb1 := bnew (Below.refl w.heap.size w) (.cells #[.int .i64 n, .slice oe es.length c] 43)
  rw [e1] at bb1
  obtain ⟨W2, e2⟩ : ∃ W2, W1.alloc (.cells #[.slice none 0 0, .slice none 0 0, .slice none 0 0] 26) = W2 := ⟨_, rfl⟩
  have bx2 : Box W2 W1.heap.size [.slice none 0 0, .slice none 0 0, .slice none 0 0] 26 := by rw [← e2]; exact Box.new W1 [.slice none 0 0, .slice none 0 0, .slice none 0 0] 26
  have bb2 := bnew (Below.refl W1.heap.size W1) (.cells #[.slice none 0 0, .slice none 0 0, .slice none 0 0] 26)
  rw [e2] at bb2
  have hz1 : w.heap.size ≤ W1.heap.size := bb1.size
  have hz2 : W1.heap.size < W2.heap.size := by rw [← e2, alloc_size']; omega
  have bx1 := bx1.below bb2
  have hb2 := bb1.trans (bb2.mono hz1)
  have HX1 := hide bx1
  have HX2 := hide bx2
  have HB2 := hide hb2
  have d0 := bx1.cell 0
  have d1 := bx1.cell 1
  have r0 := bx2.cell 0
  have r1 := bx2.cell 1
  have r2 := bx2.cell 2
  have rf := bx2.free
  simp only [List.getElem?_cons_zero, List.getElem?_cons_succ] at d0 d1 r0 r1 r2
  have HCK := hide (scheck_any n es oe c F W2 (hs.below edgR_ok hb2) hc hc2 f hU q d od cd D (hd.below intR_ok hb2) hdc (by omega))
  by_cases h0 : cfgE n es f q d = 0
  · obtain ⟨hg, h12, hdn, hdb⟩ := gErr_j h0
    obtain ⟨N, rfl⟩ := Int.eq_ofNat_of_zero_le (show 0 ≤ n by omega)
    have hdN : d.length = N := by omega
    have HS : Hid (sandR N es f q d = match pilesU es N q N with
      | some l => (⟨l, List.replicate N 0, waitD d q N⟩, 0)
      | none => (nwk0, 12)) := by
      show _ = _
      unfold sandR
      rw [if_pos h0]
      rfl
    rw [h0] at HCK
    obtain ⟨Zs, hZs, hmk⟩ := mk_ints 23 3 Tryz.underlying23 iInfo N (by omega)
    have HD := hide hd
    have HSS := hide hs
    have HG := hide hg
    have HDN := hide hdN
    have HDB := hide hdb
    have HZS := hide hZs
    clear hZs h0 bx1 bx2 bb1 bb2 hb2 hd hs hg hdn hdN hdb
    go_enter Tryz.func19, Tryz.ntmps19
    go_upto_region 4 with (go_at_call 51; refine HCK.out.mono ?_; rintro e w3 ⟨rfl, hb3⟩; have x1 := HX1.out.below hb3; have HX13 := hide x1; have HX23 := hide (HX2.out.below hb3); have HB3 := hide (HB2.out.trans (hb3.mono (by omega))); have HW3 := hide hb3.size; have y0 := x1.cell 0; have y1 := x1.cell 1; simp only [List.getElem?_cons_zero, List.getElem?_cons_succ] at y0 y1; clear hb3 x1)
    have HD3 := hide (HD.out.below intR_ok HB3.out)
    have hl3 : w.heap.size < w3.heap.size := World.block_lt_of_cell? _ _ y0
    have hn3 : w.heap.size ≠ w3.heap.size := by omega
    have hn4 : w.heap.size ≠ w3.heap.size + 1 := by omega
    go_cut [9] (fun s9 wx => ∃ b, s9 = .pointer (some ⟨b, 0, none⟩) ∧ Hid (SandBox w3 wx b N d q))
    case first =>
     go_region_held3 (fun w' => w'.cell? ⟨w.heap.size, 0, none⟩ = some (.int .i64 N)) (first | with_reducible exact y0 | with_reducible exact cell_drew (cell_next (cell_next y0 _) _) | with_reducible exact cell_drew (cell_next y0 _) | with_reducible exact cell_drew y0 | with_reducible exact cell_next y0 _ | with_reducible exact cell_next (cell_next y0 _) _ | with_reducible exact cell_set3 y0 (by assumption) | with_reducible exact cell_set3 (cell_next y0 _) (by assumption) | with_reducible exact cell_set3 (cell_next (cell_next y0 _) _) (by assumption) | exact y0) (first
      | (go_at_call 52; refine (nwaiting_any d q od cd D _ (by first | with_reducible exact HD3.out.below intR_ok (bnew (bnew (Below.refl _ _) _) _).drew | with_reducible exact HD3.out.below intR_ok (bnew (Below.refl _ _) _).drew | with_reducible exact HD3.out.below intR_ok (Below.refl _ _).drew) hdc hdl).mono ?_; rintro e w4 ⟨v4, rfl, h4, hb4⟩; obtain ⟨ow, cw, hv4, hcw, hsw⟩ := h4.slice (slcR_ok intR_ok (by decide)); rw [waitD_len] at hv4 hcw; subst hv4; rw [HDN.out] at hcw hsw; have hsw2 := wait_foot hsw; simp only [drew_size, World.size_alloc] at hsw2; have hb34 : Below w3.heap.size w3 w4 := (by first | with_reducible exact (bnew (bnew (Below.refl _ _) _) _).drew.trans (hb4.mono (by simp only [drew_size, World.size_alloc]; omega)) | with_reducible exact (bnew (Below.refl _ _) _).drew.trans (hb4.mono (by simp only [drew_size, World.size_alloc]; omega)) | exact (Below.refl _ _).drew.trans hb4 | exact hb4); (first | (have hz : Box w4 (w3.heap.size + 1) [.slice none 0 0, .slice none 0 0, .slice none 0 0] 26 := (by have h := Box.new (w3.alloc (.cells Zs 3)) [.slice none 0 0, .slice none 0 0, .slice none 0 0] 26; rw [alloc_size'] at h; first | exact h.draw.below hb4 | exact h.below hb4); have z0 := hz.cell 0; have z1 := hz.cell 1; have z2 := hz.cell 2; have zf := hz.free; have hzn := hz.next (.cells Zs 3); have n0 := hzn.cell 0; have n1 := hzn.cell 1; have n2 := hzn.cell 2; have nf := hzn.free; simp only [List.getElem?_cons_zero, List.getElem?_cons_succ] at z0 z1 z2 n0 n1 n2) | (have hz : Box w4 (w3.heap.size) [.slice none 0 0, .slice none 0 0, .slice none 0 0] 26 := (by have h := Box.new w3 [.slice none 0 0, .slice none 0 0, .slice none 0 0] 26; first | exact (h.next (.cells Zs 3)).draw.below hb4 | exact (h.next (.cells Zs 3)).below hb4 | exact h.draw.below hb4 | exact h.below hb4); have z0 := hz.cell 0; have z1 := hz.cell 1; have z2 := hz.cell 2; have zf := hz.free; have hzn := hz.next (.cells Zs 3); have n0 := hzn.cell 0; have n1 := hzn.cell 1; have n2 := hzn.cell 2; have nf := hzn.free; simp only [List.getElem?_cons_zero, List.getElem?_cons_succ] at z0 z1 z2 n0 n1 n2) | skip); have hzm := (Box.new w4 [.slice none 0 0, .slice none 0 0, .slice none 0 0] 26).next (.cells Zs 3); have m0 := hzm.cell 0; have m1 := hzm.cell 1; have m2 := hzm.cell 2; have mf := hzm.free; simp only [List.getElem?_cons_zero, List.getElem?_cons_succ] at m0 m1 m2; have y0 := (by first | exact (hb4.cell (World.block_lt_of_cell? _ _ (cell_next (cell_next y0 _) _))).trans (cell_next (cell_next y0 _) _) | exact (hb4.cell (World.block_lt_of_cell? _ _ (cell_next y0 _))).trans (cell_next y0 _) | exact (hb4.cell (World.block_lt_of_cell? _ _ y0)).trans y0 : w4.cell? ⟨w.heap.size, 0, none⟩ = some (.int .i64 N)); have hl4 : w.heap.size ≠ w4.heap.size := Nat.ne_of_lt (World.block_lt_of_cell? _ _ y0)))
     · go_wp2_with fail
       go_meet
       refine ⟨_, rfl, ?_⟩
       show SandBox _ _ _ _ _ _
       rw [HDN.out]
       exact sbA (by omega) HZS.out ((Below.refl _ _).drew.trans hb4) hsw2 hcw
     · go_wp2_with fail
       go_meet
       refine ⟨_, rfl, ?_⟩
       show SandBox _ _ _ _ _ _
       rw [HDN.out]
       exact sbBC (b := w3.heap.size + 1) (rg := w3.heap.size) hz (((row_new HZS.out w3).new (.cells #[.slice none 0 0, .slice none 0 0, .slice none 0 0] 26)).draw.below hb4) hb34 (by omega) hsw2 hcw (by omega) (by omega) (Nat.le_refl _)
     · go_wp2_with fail
       go_meet
       refine ⟨_, rfl, ?_⟩
       show SandBox _ _ _ _ _ _
       rw [HDN.out]
       exact sbE (by omega) HZS.out hb34 hsw2 hcw
     · go_wp2_with fail
       go_meet
       refine ⟨_, rfl, ?_⟩
       show SandBox _ _ _ _ _ _
       rw [HDN.out]
       exact sbF (by omega) HZS.out hb34 hsw2 hcw
     · go_wp2_with fail
       go_meet
       have h := row_new HZS.out (w3.alloc (.cells #[.slice none 0 0, .slice none 0 0, .slice none 0 0] 26))
       rw [alloc_size'] at h
       refine ⟨_, rfl, ?_⟩
       show SandBox _ _ _ _ _ _
       rw [HDN.out]
       exact sbBC (b := w3.heap.size) (rg := w3.heap.size + 1) hz (h.draw.below hb4) hb34 (by omega) hsw2 hcw (by omega) (Nat.le_refl _) (by omega)
     · go_wp2_with fail
       go_meet
       refine ⟨_, rfl, ?_⟩
       show SandBox _ _ _ _ _ _
       rw [HDN.out]
       exact sbD HZS.out hz hb34 (by omega) hsw2 hcw (by omega) (Nat.le_refl _)
    case rest =>
      obtain ⟨b, rfl, HSB⟩ := hcut
      obtain ⟨rg, ow, cw, hbx, hrow, hsw, hcw, hb3, hrg3, hrgb, hbl⟩ := HSB.out
      have hbl0 := hbx.lt
      have HW := hide (And.intro hrow (And.intro hsw hcw))
      have HBL := hide hbl
      have HBXc := hide hbx
      have x1 := HX13.out.below hbl
      have c0 := x1.cell 0
      have c1 := x1.cell 1
      simp only [List.getElem?_cons_zero, List.getElem?_cons_succ] at c0 c1
      have hw3c : w3.heap.size ≤ wc.heap.size := hbl.size
      have hW1 : W1.heap.size < w3.heap.size := by have := HW3.out; omega
      clear hbx hrow hsw hcw hbl x1 HSB
      go_wp2_with fail
      clear c0 c1 y0 y1 r0 r1 r2 rf
      go_loopg [30] N (fun gm iv wx => ∃ (v : Nat) (vp : Value) (l : List Prc), v ≤ N ∧ gm = N - v ∧ iv = .int .i64 v ∧ Hid (pilesU es N q v = some l) ∧ Hid (OwnS prcR 3 wc.heap.size 89 (InF (fun k => wc.heap.size ≤ k) vp) wx vp l) ∧ Hid (Box wx b [vp, .slice (some ⟨rg, 0, none⟩) N N, .slice ow N cw] 26) ∧ Hid (Below w3.heap.size w3 wx) ∧ Hid (wc.heap.size ≤ wx.heap.size ∧ ∀ k, k < wc.heap.size → k ≠ b → wx.heap[k]? = wc.heap[k]?))
      case atStart => exact ⟨0, _, [], by omega, by omega, rfl, rfl, OwnS.nil _ _ _ _ _ _, HBXc.out, HBL.out, Nat.le_refl _, fun k _ _ => rfl⟩
      case round =>
        obtain ⟨v, vp, l, hv, hgm, rfl, HPU, HO, HBX, HBW, HOFF⟩ := hrel
        have HGM := hide hgm
        have HLL : Hid (l.length = v) := pilesU_len HPU.out
        clear hgm
        have x1 := HX13.out.below HBW.out
        have y0 := x1.cell 0
        have y1 := x1.cell 1
        simp only [List.getElem?_cons_zero, List.getElem?_cons_succ] at y0 y1
        by_cases hlt : v < N
        · obtain ⟨oV, cV, hvp, hcV, _⟩ := HO.out.slice prcR_ok
          rw [HLL.out] at hvp hcV
          subst hvp
          have HSK := hide (nsink_any wr)
          have HOB := hide HO.out.block
          have hwr : wc.heap.size ≤ wr.heap.size := HOFF.out.1
          clear x1
          by_cases hvq : (v : Int) = q
          · have q1 : ((v : Int) != q) = false := by simp [hvq]
            have HN : Hid (pilesU es N q (v + 1) = some (l ++ [sinkP])) := by
              show _ = _
              unfold pilesU
              rw [HPU.out, Option.bind_some, if_pos hvq]
            clear hvq
            go_wp2_with (first
              | (go_at_call 53; refine HSK.out.mono ?_; rintro e w4 ⟨cs, rfl, ⟨oS, cS, hcs, iS, iL, hS1, hS2, hS3⟩, hb4⟩; have hcs' : cs = [.int .i64 1, .int .i64 1, .slice oS 1 cS] := hcs; subst hcs'; obtain ⟨W5, e5⟩ : ∃ W5, w4.alloc (.cells #[.int .i64 1, .int .i64 1, .slice oS 1 cS] 89) = W5 := ⟨_, rfl⟩; have bp : Box W5 w4.heap.size [.int .i64 1, .int .i64 1, .slice oS 1 cS] 89 := (by rw [← e5]; exact Box.new w4 [.int .i64 1, .int .i64 1, .slice oS 1 cS] 89); have bb5 : Below wr.heap.size wr W5 := (by rw [← e5]; exact hb4.alloc hb4.size _); have HREP : Hid (prcR (InF (fun k => wc.heap.size ≤ k) (.slice oV v cV)) W5 [.int .i64 1, .int .i64 1, .slice oS 1 cS] sinkP) := (by rw [← e5]; exact prcR_ok.keep (⟨oS, cS, rfl, iS, iL, hS1, hS2, hS3.wide rowR_ok (by decide) fun k hk _ => ⟨by omega, fun e => by have := (HOB.out k e.symm).2; omega⟩⟩) (SameOn.of_below (bnew (Below.refl _ _) _))); have HOW := hide (HO.out.below prcR_ok bb5); have HBXW := hide (HBX.out.below bb5); have HWS : Hid (wc.heap.size ≤ W5.heap.size) := Nat.le_trans hwr bb5.size; have HBWW : Hid (Below w3.heap.size w3 W5) := HBW.out.trans (bb5.mono (by omega)); have HOFW : Hid (∀ k, k < wc.heap.size → k ≠ b → W5.heap[k]? = wc.heap[k]?) := (fun k hk hkb => (bb5.block k (by omega)).trans (HOFF.out.2 k hk hkb)); have p0 := bp.cell 0; have p1 := bp.cell 1; have p2 := bp.cell 2; have b0 := HBXW.out.cell 0; have b0n := (HBXW.out.next (.cells #[.int .i64 1, .int .i64 1, .slice oS 1 cS] 89)).cell 0; simp only [List.getElem?_cons_zero, List.getElem?_cons_succ] at p0 p1 p2 b0 b0n; clear bp bb5 hb4 hS1 hS2 hS3 hcs iS iL)
              | (at_builtin; refine wpList_append_in rfl (.tmp 48) (.tmp 50) 22 rfl wc.heap.size 89 _ 3 40 Tryz.underlying22 prcInfoN rfl (by decide) prcR_ok (fun k => wc.heap.size ≤ k) (.slice oV v cV) l (by simp [Act.eval, Act.put]) (HOW.out.new prcR_ok _) ⟨_, 0, none⟩ 1 [.int .i64 1, .int .i64 1, .slice oS 1 cS] sinkP (by simp [Act.eval, Act.put]) (World.news_of_block (heap_alloc_new _ _)) (prcR_ok.keep HREP.out (SameOn.of_below (bnew (Below.refl _ _) _))) (by rw [HLL.out]; omega) (by rw [HLL.out]; unfold maxLen; omega) (by rw [alloc_size']; have := HWS.out; omega) (fun v' w8 ho hb8 hg8 hat => ?_); have hbx8 := (HBXW.out.next (.cells #[.int .i64 1, .int .i64 1, .slice oS 1 cS] 89)).grown hg8 (fun e => by have := (HOB.out b e.symm).1; omega); have m0 := hbx8.cell 0; have mf := hbx8.free 0; obtain ⟨o8, c8, hv8, _, _⟩ := ho.slice prcR_ok; rw [List.length_append, HLL.out] at hv8; simp only [List.length_cons, List.length_nil, Nat.zero_add] at hv8; subst hv8; simp only [List.getElem?_cons_zero] at m0; have HOW8 := hide ho; have HX8 := hide hbx8; have HB8 := hide hb8; have HG8 := hide hg8; clear ho hb8 hg8 hat hbx8))
            go_roundg (N - (v + 1))
            case measure => have := HGM.out; omega
            case rel =>
              have hput := HX8.out.put 0 (.slice o8 (v + 1) c8)
              simp only [List.set_cons_zero] at hput
              have hwsz := HWS.out
              have hw8 : wc.heap.size ≤ w8.heap.size := by
                have := HB8.out.size
                rw [alloc_size'] at this
                omega
              refine ⟨v + 1, .slice o8 (v + 1) c8, l ++ [sinkP], by omega, rfl, by go_num, HN.out, ?_, hput, ?_, ?_, ?_⟩
              · exact HOW8.out.keep prcR_ok (fun g hg => Below.heap_setCell _ _ _ g (by have := (HOW8.out.block g hg).1; simp only; omega)) (fun k hk _ => Below.heap_setCell _ _ _ k (by have := hk.1; simp only; omega))
              · show Below _ _ _
                refine Below.setCell (p := ⟨b, 0, none⟩) ?_ hb3 _
                exact (HBWW.out.alloc (by omega) _).trans (HB8.out.mono hw3c)
              · rw [World.size_setCell]; exact hw8
              · intro k hk hkb
                rw [Below.heap_setCell _ _ _ k (by simp only; omega), HB8.out.block k hk, Below.heap_alloc _ _ k (by omega)]
                exact HOFW.out k hk hkb
          · have q1 : ((v : Int) != q) = true := by simp [hvq]
            obtain ⟨sent, hsent⟩ : ∃ sent, sent = nbrU es v N := ⟨_, rfl⟩
            have HSE := hide hsent
            by_cases h16 : sent.length ≤ 16
            · have HN : Hid (pilesU es N q (v + 1) = some (l ++ [topP sent])) := by
                show _ = _
                unfold pilesU
                rw [HPU.out, Option.bind_some, if_neg hvq, ← hsent, if_pos h16]
              obtain ⟨k, hk⟩ : ∃ k, k = sent.length := ⟨_, rfl⟩
              have HK := hide hk
              have hk0 : (0 : Int) ≤ (k : Int) := by omega
              have hk16 : (k : Int) ≤ 16 := by omega
              clear hvq hsent hk
              go_wp2_with (first
                | (go_at_call 53; refine HSK.out.mono ?_; rintro e w4 ⟨cs, rfl, ⟨oS, cS, hcs, iS, iL, hS1, hS2, hS3⟩, hb4⟩; have hcs' : cs = [.int .i64 1, .int .i64 1, .slice oS 1 cS] := hcs; subst hcs'; obtain ⟨W5, e5⟩ : ∃ W5, w4.alloc (.cells #[.int .i64 1, .int .i64 1, .slice oS 1 cS] 89) = W5 := ⟨_, rfl⟩; have bp : Box W5 w4.heap.size [.int .i64 1, .int .i64 1, .slice oS 1 cS] 89 := (by rw [← e5]; exact Box.new w4 [.int .i64 1, .int .i64 1, .slice oS 1 cS] 89); have bb5 : Below wr.heap.size wr W5 := (by rw [← e5]; exact hb4.alloc hb4.size _); have HBP := hide bp; have HBB5 := hide bb5; have hw45 : wr.heap.size ≤ w4.heap.size := hb4.size; have HTOP := hide (ntoppler_any N es oe c F W5 (HSS.out.below edgR_ok (HB3.out.trans ((HBW.out.trans (bb5.mono (by omega))).mono (by omega)))) hc (by omega) HG.out v hlt); have g1 := (HX13.out.below (HBW.out.trans (bb5.mono (by omega)))).cell 0; have g2 := (HX13.out.below (HBW.out.trans (bb5.mono (by omega)))).cell 1; simp only [List.getElem?_cons_zero, List.getElem?_cons_succ] at g1 g2; clear bp bb5 hb4 hS1 hS2 hS3 hcs iS iL)
                | (go_at_call 54; refine HTOP.out.mono ?_; rintro e w6 ⟨hT, hb6⟩; rw [← HSE.out, if_pos h16] at hT; obtain ⟨cs, rfl, ⟨oT, cT, hcs, iS, iL, hT1, hT2, hT3⟩⟩ := hT; have hcs' : cs = [.int .i64 k, .int .i64 1, .slice oT k cT] := (by rw [hcs]; simp [topP, HK.out]); subst hcs'; have hbp := HBP.out.below hb6; have p0 := hbp.cell 0; have p1 := hbp.cell 1; have p2 := hbp.cell 2; have pf := hbp.free; simp only [List.getElem?_cons_zero, List.getElem?_cons_succ] at p0 p1 p2; obtain ⟨W7, e7⟩ : ∃ W7, ((w6.setCell ⟨w4.heap.size, 0, none⟩ (.int .i64 k)).setCell ⟨w4.heap.size, 1, none⟩ (.int .i64 1)).setCell ⟨w4.heap.size, 2, none⟩ (.slice oT k cT) = W7 := ⟨_, rfl⟩; have hbp7 : Box W7 w4.heap.size [.int .i64 k, .int .i64 1, .slice oT k cT] 89 := (by rw [← e7]; have h := ((hbp.put 0 (.int .i64 k)).put 1 (.int .i64 1)).put 2 (.slice oT k cT); simpa using h); have hb56 : Below wr.heap.size wr w6 := HBB5.out.trans (hb6.mono HBB5.out.size); have bb7 : Below wr.heap.size wr W7 := (by rw [← e7]; exact ((hb56.setCell hw45 _).setCell hw45 _).setCell hw45 _); have hl5 : w4.heap.size < W5.heap.size := HBP.out.lt; have HREP : Hid (prcR (InF (fun k => wc.heap.size ≤ k) (.slice oV v cV)) W7 [.int .i64 k, .int .i64 1, .slice oT k cT] (topP sent)) := (⟨oT, cT, by rw [← hcs], iS, iL, hT1, hT2, (hT3.keep rowR_ok fun j hj _ => (by rw [← e7]; exact set3_heap (by omega))).wide rowR_ok (by decide) fun j hj _ => ⟨by omega, fun e => by have := (HOB.out j e.symm).2; omega⟩⟩ : prcR _ _ _ _); have HOW := hide (HO.out.below prcR_ok bb7); have HBXW := hide (HBX.out.below bb7); have HWS : Hid (wc.heap.size ≤ W7.heap.size) := Nat.le_trans hwr bb7.size; have HBWW : Hid (Below w3.heap.size w3 W7) := HBW.out.trans (bb7.mono (by omega)); have HOFW : Hid (∀ k, k < wc.heap.size → k ≠ b → W7.heap[k]? = wc.heap[k]?) := (fun k hk hkb => (bb7.block k (by omega)).trans (HOFF.out.2 k hk hkb)); have s0 := hbp7.cell 0; have s1 := hbp7.cell 1; have s2 := hbp7.cell 2; have b0 := HBXW.out.cell 0; have b0n := (HBXW.out.next (.cells #[.int .i64 k, .int .i64 1, .slice oT k cT] 89)).cell 0; simp only [List.getElem?_cons_zero, List.getElem?_cons_succ] at s0 s1 s2 b0 b0n; clear hbp hbp7 hb56 bb7 hb6 hT1 hT2 hT3 hcs iS iL)
                | (at_builtin; refine wpList_append_in rfl (.tmp 48) (.tmp 50) 22 rfl wc.heap.size 89 _ 3 40 Tryz.underlying22 prcInfoN rfl (by decide) prcR_ok (fun k => wc.heap.size ≤ k) (.slice oV v cV) l (by simp [Act.eval, Act.put]) (HOW.out.new prcR_ok _) ⟨_, 0, none⟩ 1 [.int .i64 k, .int .i64 1, .slice oT k cT] (topP sent) (by simp [Act.eval, Act.put]) (World.news_of_block (heap_alloc_new _ _)) (prcR_ok.keep HREP.out (SameOn.of_below (bnew (Below.refl _ _) _))) (by rw [HLL.out]; omega) (by rw [HLL.out]; unfold maxLen; omega) (by rw [alloc_size']; have := HWS.out; omega) (fun v' w8 ho hb8 hg8 hat => ?_); have hbx8 := (HBXW.out.next (.cells #[.int .i64 k, .int .i64 1, .slice oT k cT] 89)).grown hg8 (fun e => by have := (HOB.out b e.symm).1; omega); have m0 := hbx8.cell 0; have mf := hbx8.free 0; obtain ⟨o8, c8, hv8, _, _⟩ := ho.slice prcR_ok; rw [List.length_append, HLL.out] at hv8; simp only [List.length_cons, List.length_nil, Nat.zero_add] at hv8; subst hv8; simp only [List.getElem?_cons_zero] at m0; have HOW8 := hide ho; have HX8 := hide hbx8; have HB8 := hide hb8; have HG8 := hide hg8; clear ho hb8 hg8 hat hbx8))
              go_roundg (N - (v + 1))
              case measure => have := HGM.out; omega
              case rel =>
                have hput := HX8.out.put 0 (.slice o8 (v + 1) c8)
                simp only [List.set_cons_zero] at hput
                have hwsz := HWS.out
                have hw8 : wc.heap.size ≤ w8.heap.size := by
                  have := HB8.out.size
                  rw [alloc_size'] at this
                  omega
                refine ⟨v + 1, .slice o8 (v + 1) c8, l ++ [(topP sent)], by omega, rfl, by go_num, HN.out, ?_, hput, ?_, ?_, ?_⟩
                · exact HOW8.out.keep prcR_ok (fun g hg => Below.heap_setCell _ _ _ g (by have := (HOW8.out.block g hg).1; simp only; omega)) (fun k hk _ => Below.heap_setCell _ _ _ k (by have := hk.1; simp only; omega))
                · show Below _ _ _
                  refine Below.setCell (p := ⟨b, 0, none⟩) ?_ hb3 _
                  exact (HBWW.out.alloc (by omega) _).trans (HB8.out.mono hw3c)
                · rw [World.size_setCell]; exact hw8
                · intro k hk hkb
                  rw [Below.heap_setCell _ _ _ k (by simp only; omega), HB8.out.block k hk, Below.heap_alloc _ _ k (by omega)]
                  exact HOFW.out k hk hkb
            · have HN : Hid (pilesU es N q (v + 1) = none) := by
                show _ = _
                unfold pilesU
                rw [HPU.out, Option.bind_some, if_neg hvq, ← hsent, if_neg h16]
              clear hvq hsent
              go_wp2_with (first
                | (go_at_call 53; refine HSK.out.mono ?_; rintro e w4 ⟨cs, rfl, ⟨oS, cS, hcs, iS, iL, hS1, hS2, hS3⟩, hb4⟩; have hcs' : cs = [.int .i64 1, .int .i64 1, .slice oS 1 cS] := hcs; subst hcs'; obtain ⟨W5, e5⟩ : ∃ W5, w4.alloc (.cells #[.int .i64 1, .int .i64 1, .slice oS 1 cS] 89) = W5 := ⟨_, rfl⟩; have bp : Box W5 w4.heap.size [.int .i64 1, .int .i64 1, .slice oS 1 cS] 89 := (by rw [← e5]; exact Box.new w4 [.int .i64 1, .int .i64 1, .slice oS 1 cS] 89); have bb5 : Below wr.heap.size wr W5 := (by rw [← e5]; exact hb4.alloc hb4.size _); have HBP := hide bp; have HBB5 := hide bb5; have hw45 : wr.heap.size ≤ w4.heap.size := hb4.size; have HTOP := hide (ntoppler_any N es oe c F W5 (HSS.out.below edgR_ok (HB3.out.trans ((HBW.out.trans (bb5.mono (by omega))).mono (by omega)))) hc (by omega) HG.out v hlt); have g1 := (HX13.out.below (HBW.out.trans (bb5.mono (by omega)))).cell 0; have g2 := (HX13.out.below (HBW.out.trans (bb5.mono (by omega)))).cell 1; simp only [List.getElem?_cons_zero, List.getElem?_cons_succ] at g1 g2; clear bp bb5 hb4 hS1 hS2 hS3 hcs iS iL)
                | (go_at_call 54; refine HTOP.out.mono ?_; rintro e w6 ⟨hT, hb6⟩; rw [← HSE.out, if_neg h16] at hT; subst hT; have hbp := HBP.out.below hb6; have p0 := hbp.cell 0; have p1 := hbp.cell 1; have p2 := hbp.cell 2; have pf := hbp.free; simp only [List.getElem?_cons_zero, List.getElem?_cons_succ] at p0 p1 p2; obtain ⟨W7, e7⟩ : ∃ W7, ((w6.setCell ⟨w4.heap.size, 0, none⟩ (.int .i64 0)).setCell ⟨w4.heap.size, 1, none⟩ (.int .i64 0)).setCell ⟨w4.heap.size, 2, none⟩ (.slice none 0 0) = W7 := ⟨_, rfl⟩; have hb56 : Below wr.heap.size wr w6 := HBB5.out.trans (hb6.mono HBB5.out.size); have bb7 : Below wr.heap.size wr W7 := (by rw [← e7]; exact ((hb56.setCell hw45 _).setCell hw45 _).setCell hw45 _); have HB7 := hide (HBW.out.trans (bb7.mono (by omega))); have hx2 := HX23.out.below HB7.out; have r0 := hx2.cell 0; have r1 := hx2.cell 1; have r2 := hx2.cell 2; have rf := hx2.free; simp only [List.getElem?_cons_zero, List.getElem?_cons_succ] at r0 r1 r2; have HX2w := hide hx2; clear hbp hb56 bb7 hb6 hx2))
              have hfin := ((HX2w.out.put 0 (.slice none 0 0)).put 1 (.slice none 0 0)).put 2 (.slice none 0 0)
              simp only [List.set_cons_zero, List.set_cons_succ] at hfin
              refine bodyPost_ret (results_cell_tmp_row rfl _ _ W1.heap.size 26 _ (0, 0) _ rfl hfin Tryz.underlying26 rfl (by kernel_rfl)) rfl ?_
              rw [HS.out, pilesU_none HN.out N (by omega)]
              have hbz : Below w.heap.size w W7 := HB3.out.trans (HB7.out.mono (by omega))
              exact ⟨_, rfl, ⟨none, 0, none, 0, none, 0, rfl, by simp [nwk0], by simp [nwk0], by simp [nwk0], SliceR.nil _ _ _ _ _, SliceR.nil _ _ _ _ _, SliceR.nil _ _ _ _ _⟩, ((hbz.setCell hz1 _).setCell hz1 _).setCell hz1 _⟩
        · have hve : v = N := by omega
          subst hve
          obtain ⟨oV, cV, hvp, hcV, hsV⟩ := HO.out.slice prcR_ok
          rw [HLL.out] at hvp hcV
          subst hvp
          have HSV := hide hsV
          have b0 := HBX.out.cell 0
          have b1 := HBX.out.cell 1
          have b2 := HBX.out.cell 2
          have hx2 := HX23.out.below HBW.out
          have r0 := hx2.cell 0
          have r1 := hx2.cell 1
          have r2 := hx2.cell 2
          have rf := hx2.free
          simp only [List.getElem?_cons_zero, List.getElem?_cons_succ] at b0 b1 b2 r0 r1 r2
          have HX2w := hide hx2
          clear x1 hx2 hsV
          go_wp2_with fail
          have hfin := ((HX2w.out.put 0 (.slice oV v cV)).put 1 (.slice (some ⟨rg, 0, none⟩) v v)).put 2 (.slice ow v cw)
          simp only [List.set_cons_zero, List.set_cons_succ] at hfin
          refine bodyPost_ret (results_cell_tmp_row rfl _ _ W1.heap.size 26 _ (0, 0) _ rfl hfin Tryz.underlying26 rfl (by kernel_rfl)) rfl ?_
          rw [HS.out, HPU.out]
          obtain ⟨hrow, hsw, hcw⟩ := HW.out
          obtain ⟨hoff1, hoff2⟩ := HOFF.out
          have hne : ∀ k, w3.heap.size ≤ k → (((wr.setCell ⟨W1.heap.size, 0, none⟩ (.slice oV v cV)).setCell ⟨W1.heap.size, 1, none⟩ (.slice (some ⟨rg, 0, none⟩) v v)).setCell ⟨W1.heap.size, 2, none⟩ (.slice ow v cw)).heap[k]? = wr.heap[k]? := fun k hk => set3_heap (by omega)
          refine ⟨_, rfl, ⟨oV, cV, some ⟨rg, 0, none⟩, v, ow, cw, ?_, ?_, ?_, ?_, ?_, ?_, ?_⟩, ?_⟩
          · simp only [HLL.out, List.length_replicate, waitD_len]
          · simp only [HLL.out]; exact hcV
          · simp
          · simp only [waitD_len]; exact hcw
          · exact (HSV.out.keep prcR_ok fun k hk _ => hne k (by rcases hk with h | h; exact Nat.le_trans hw3c h.1; exact Nat.le_trans hw3c h)).all prcR_ok (by decide)
          · have h1 := (hrow.keep (hoff2 rg hrow.lt hrgb)).keep (hne rg hrg3)
            exact h1.ints (fun k hk => by have := List.eq_of_mem_replicate hk; subst this; unfold I64; simp) trivial
          · exact ((hsw.keep (slcR_ok intR_ok (by decide)) fun k hk hkl => (hne k hk.1).trans (hoff2 k hkl hk.2)).all (slcR_ok intR_ok (by decide)) (by decide))
          · have hbz : Below w.heap.size w wr := HB3.out.trans (HBW.out.mono (by omega))
            exact ((hbz.setCell hz1 _).setCell hz1 _).setCell hz1 _
  · have HS : Hid (sandR n es f q d = (nwk0, cfgE n es f q d)) := if_neg h0
    have hq0 : (cfgE n es f q d != 0) = true := by simpa using h0
    clear h0 bx1 bx2 bb1 bb2 hb2 hd hs
    go_enter Tryz.func19, Tryz.ntmps19
    go_wp2_with (go_at_call 51; refine HCK.out.mono ?_; rintro e w3 ⟨rfl, hb3⟩; have hx2 := HX2.out.below hb3; have HX2w := hide hx2; have HB3 := hide (HB2.out.trans (hb3.mono (by omega))); have r0 := hx2.cell 0; have r1 := hx2.cell 1; have r2 := hx2.cell 2; have rf := hx2.free; simp only [List.getElem?_cons_zero, List.getElem?_cons_succ] at r0 r1 r2; clear hb3 hx2)
    have hfin := ((HX2w.out.put 0 (.slice none 0 0)).put 1 (.slice none 0 0)).put 2 (.slice none 0 0)
    simp only [List.set_cons_zero, List.set_cons_succ] at hfin
    refine bodyPost_ret (results_cell_tmp_row rfl _ _ W1.heap.size 26 _ (0, 0) _ rfl hfin Tryz.underlying26 rfl (by kernel_rfl)) rfl ?_
    rw [HS.out]
    exact ⟨_, rfl, ⟨none, 0, none, 0, none, 0, rfl, by simp [nwk0], by simp [nwk0], by simp [nwk0], SliceR.nil _ _ _ _ _, SliceR.nil _ _ _ _ _, SliceR.nil _ _ _ _ _⟩, ((HB3.out.setCell hz1 _).setCell hz1 _).setCell hz1 _⟩

end Go.Proofs.YtnigfddanoaonaaGreat

set_option linter.unusedVariables false
set_option linter.unusedSimpArgs false
namespace Go.Proofs.YtnigfddanoaonaaGreat
open Go.RowKit

theorem drew_sz (w : World) : w.drew.heap.size = w.heap.size := rfl
theorem litO {F : Foot} (w : World) (x y : Int) (hx : I64 x) (hy : I64 y) (hF : F w.heap.size) : SliceR outR 2 F (w.alloc (.cells #[.int .i64 x, .int .i64 y] 102)) (some ⟨w.heap.size, 0, none⟩) [⟨x, y⟩] :=
  SliceR.lit (F := F) outR_ok w 102 [[.int .i64 x, .int .i64 y]] [⟨x, y⟩] (fun k z hz => by match k, hz with | 0, hz => simp at hz; subst hz; exact ⟨_, rfl, rfl, hx, hy⟩) rfl (fun _ h => h) hF
def turnRow (to_ : List Int) (s : Nat) : List Rul := [⟨((s + 1) % to_.length : Nat), [⟨to_.getD ((s + 1) % to_.length) 0, 0⟩]⟩]
def turnP (to_ : List Int) : Prc := ⟨to_.length, 1, (List.range to_.length).map (turnRow to_)⟩
theorem turnRules_take (to_ : List Int) (s : Nat) : (List.range (s + 1)).map (turnRow to_) = (List.range s).map (turnRow to_) ++ [turnRow to_ s] := by rw [List.range_succ, List.map_append]; rfl
def TurnPost (w : World) (to_ : List Int) (e : Ending) (w' : World) : Prop :=
  (if to_.length ≤ 16 then ∃ cs, e = .returned (.tuple #[.agg cs.toArray, .int .i64 0]) ∧ prcR (fun k => w.heap.size ≤ k) w' cs (turnP to_)
    else e = .returned (.tuple #[.agg #[.int .i64 0, .int .i64 0, .slice none 0 0], .int .i64 12])) ∧ Below w.heap.size w w'
set_option maxRecDepth 100000 in
set_option maxHeartbeats 4000000 in
theorem nturner_any (to_ : List Int) (ot : Option Addr) (ct : Nat) (G : Foot) (w : World) (ht : SliceR intR 1 G w ot to_) (hct : to_.length ≤ ct) (hl6 : to_.length ≤ 1000000) :
    Calls Tryz.prog 73 #[.slice ot to_.length ct] w (TurnPost w to_) := by
  obtain ⟨W2, e2⟩ : ∃ W2, w.alloc (.cells #[.int .i64 0, .int .i64 0, .slice none 0 0] 89) = W2 := ⟨_, rfl⟩
  have bx2 : Box W2 w.heap.size [.int .i64 0, .int .i64 0, .slice none 0 0] 89 := by rw [← e2]; exact Box.new w [.int .i64 0, .int .i64 0, .slice none 0 0] 89
  have bb2 := bnew (Below.refl w.heap.size w) (.cells #[.int .i64 0, .int .i64 0, .slice none 0 0] 89)
  rw [e2] at bb2
  have hz2 : w.heap.size < W2.heap.size := by rw [← e2, alloc_size']; omega
  have HX2 := hide bx2
  have HB2 := hide bb2
  have HT := hide (ht.below intR_ok bb2)
  have r0 := bx2.cell 0
  have r1 := bx2.cell 1
  have r2 := bx2.cell 2
  have rf := bx2.free
  simp only [List.getElem?_cons_zero, List.getElem?_cons_succ] at r0 r1 r2
  obtain ⟨k, hk⟩ : ∃ k, k = to_.length := ⟨_, rfl⟩
  rw [← hk] at hct hl6 ⊢
  have HK := hide hk
  have hzz := Nat.le_refl w.heap.size
  clear bx2 bb2 ht hk
  by_cases hk16 : k ≤ 16
  · have q16 : decide ((16 : Int) < (k : Int)) = false := by simp; omega
    go_enter Tryz.func73, Tryz.ntmps73
    go_wp2_with fail
    obtain ⟨pb, hpb⟩ : ∃ pb, pb = W2.heap.size := ⟨_, rfl⟩
    obtain ⟨W3, e3⟩ : ∃ W3, W2.alloc (.cells #[.int .i64 k, .int .i64 1, .slice none 0 0] 89) = W3 := ⟨_, rfl⟩
    have HX3 : Hid (Box W3 pb [.int .i64 k, .int .i64 1, .slice none 0 0] 89) := by show Box _ _ _ _; rw [hpb, ← e3]; exact Box.new W2 [.int .i64 k, .int .i64 1, .slice none 0 0] 89
    have HB3 : Hid (Below pb W2 W3) := by show Below _ _ _; rw [hpb, ← e3]; exact bnew (Below.refl _ _) _
    rw [e3, ← hpb]
    rw [← hpb] at hz2
    have HPB := hide hpb
    clear e3 hpb r0 r1 r2 rf
    go_loopg [16] k (fun gm sv wx => ∃ (s : Nat) (vq : Value), s ≤ k ∧ gm = k - s ∧ sv = .int .i64 s ∧ Hid (OwnS (slcR ruleR 2) 1 (pb + 1) 100 (InF (fun q => pb < q) vq) wx vq ((List.range s).map (turnRow to_))) ∧ Hid (Box wx pb [.int .i64 k, .int .i64 1, vq] 89) ∧ Hid (Below pb W3 wx))
    case atStart => exact ⟨0, _, by omega, by omega, rfl, OwnS.nil _ _ _ _ _ _, HX3.out, Below.refl _ _⟩
    case round =>
      obtain ⟨s, vq, hs, hgm, rfl, HOq, HXq, HBq⟩ := hrel
      have HGM := hide hgm
      clear hgm
      have hpbl : pb < wr.heap.size := HXq.out.lt
      have hpw : Below pb W2 wr := HB3.out.trans HBq.out
      obtain ⟨oQ, cQ, hvq, hcQ, hsQ⟩ := HOq.out.slice rowR_ok
      rw [List.length_map, List.length_range] at hvq hcQ
      by_cases hls : s < k
      · obtain ⟨r, hr⟩ : ∃ r, r = (s + 1) % k := ⟨_, rfl⟩
        have hrem : ((s : Int) + 1).tmod (k : Int) = (r : Int) := by rw [hr, Int.tmod_eq_emod_of_nonneg (by omega)]; rfl
        have hr16 : r < k := by rw [hr]; exact Nat.mod_lt _ (by omega)
        obtain ⟨x, _, hxg, hx64, b1, off1, hot, _, cx⟩ := ((HT.out.loc intR_ok (by omega)).keep intR_ok fun q hq _ => hpw.block q (by rw [HPB.out]; exact hq)).int_at (i := r) (by rw [← HK.out]; exact hr16)
        subst hot
        have hr0 : (0 : Int) ≤ (r : Int) := by omega
        have hr1 : (r : Int) < (k : Int) := by omega
        subst hvq
        have hrow : turnRow to_ s = [⟨r, [⟨x, 0⟩]⟩] := by
          unfold turnRow
          rw [← HK.out, ← hr, getD_some hxg]
        have HT2 : Hid ((List.range (s + 1)).map (turnRow to_) = (List.range s).map (turnRow to_) ++ [turnRow to_ s]) := turnRules_take to_ s
        have HLS : Hid (((List.range s).map (turnRow to_)).length = s) := by show _ = _; rw [List.length_map, List.length_range]
        have HOB := hide HOq.out.block
        obtain ⟨A, hA⟩ : ∃ A : Obj, A = .cells #[.int .i64 x, .int .i64 0] 102 := ⟨_, rfl⟩
        obtain ⟨B, hB⟩ : ∃ B : Obj, B = .cells #[.int .i64 r, .slice (some ⟨wr.heap.size, 0, none⟩) 1 1] 99 := ⟨_, rfl⟩
        have HREP : Hid (slcR ruleR 2 (InF (fun q => pb < q) (.slice oQ s cQ)) ((wr.alloc (.cells #[.int .i64 x, .int .i64 0] 102)).alloc (.cells #[.int .i64 r, .slice (some ⟨wr.heap.size, 0, none⟩) 1 1] 99)) [.slice (some ⟨wr.heap.size + 1, 0, none⟩) 1 1] (turnRow to_ s)) := by
          show slcR ruleR 2 _ _ _ _
          rw [hrow]
          have h1' : SliceR outR 2 (InF (fun q => pb < q) (.slice oQ s cQ)) (wr.alloc (.cells #[.int .i64 x, .int .i64 0] 102)) (some ⟨wr.heap.size, 0, none⟩) [⟨x, 0⟩] :=
            litO (F := InF (fun q => pb < q) (.slice oQ s cQ)) wr x 0 hx64 (by unfold I64; simp) ⟨hpbl, fun e => by have := (HOB.out _ e.symm).2; exact absurd this (Nat.lt_irrefl _)⟩
          have h2 := ruleF_lit (F := InF (fun q => pb < q) (.slice oQ s cQ)) (wr.alloc (.cells #[.int .i64 x, .int .i64 0] 102)) [.int .i64 r, .slice (some ⟨wr.heap.size, 0, none⟩) 1 1] ⟨r, [⟨x, 0⟩]⟩ ⟨_, 1, rfl, by unfold I64; simp only; omega, by simp, by simp, h1'⟩ (by rw [alloc_size']; exact ⟨by omega, fun e => by have := (HOB.out _ e.symm).2; omega⟩)
          rw [alloc_size'] at h2
          exact ⟨_, 1, rfl, by simp, by simp, h2⟩
        have p2 := HXq.out.cell 2
        have pf := HXq.out.free
        simp only [List.getElem?_cons_zero, List.getElem?_cons_succ] at p2
        have p2a := cell_next p2 (.cells #[.int .i64 x, .int .i64 0] 102)
        have p2b := cell_next p2a (.cells #[.int .i64 r, .slice (some ⟨wr.heap.size, 0, none⟩) 1 1] 99)
        have p2c := cell_next p2b (.cells #[.slice (some ⟨wr.heap.size + 1, 0, none⟩) 1 1] 100)
        have cxa := cell_next cx
        clear hr hxg hrow hA hB hsQ
        go_wp2_with fail
        go_region_law (refine step_append_in rfl (.tmp 24) (.tmp 34) 87 rfl (pb + 1) 100 _ 1 24 Tryz.underlying87 rowInfoN rfl (by decide) rowR_ok (fun q => pb < q) (.slice oQ s cQ) ((List.range s).map (turnRow to_)) (by simp [Act.eval, Act.put]) ((((HOq.out.new rowR_ok _).new rowR_ok _).new rowR_ok _).draw rowR_ok) ⟨_, 0, none⟩ 1 [.slice (some ⟨wr.heap.size + 1, 0, none⟩) 1 1] (turnRow to_ s) (by simp [Act.eval, Act.put]) (World.news_of_block (heap_alloc_new _ _)) (rowR_ok.keep HREP.out (SameOn.of_below (bnew (Below.refl _ _) _).drew)) (by rw [HLS.out]; omega) (by rw [HLS.out]; unfold maxLen; omega) (by rw [drew_sz, alloc_size', alloc_size', alloc_size']; omega) ?_; intro v' w8 ho hb8 hg8 hat; have hbx8 := (((HXq.out.next (.cells #[.int .i64 x, .int .i64 0] 102)).next (.cells #[.int .i64 r, .slice (some ⟨wr.heap.size, 0, none⟩) 1 1] 99)).next (.cells #[.slice (some ⟨wr.heap.size + 1, 0, none⟩) 1 1] 100)).draw.grown hg8 (fun e => by have := (HOB.out pb e.symm).1; omega); have m2 := hbx8.cell 2; have mf := hbx8.free 2; obtain ⟨o8, c8, hv8, _, _⟩ := ho.slice rowR_ok; rw [List.length_append, HLS.out] at hv8; simp only [List.length_cons, List.length_nil, Nat.zero_add] at hv8; subst hv8; simp only [List.getElem?_cons_zero, List.getElem?_cons_succ] at m2; have HOW8 := hide ho; have HX8 := hide hbx8; have HB8 := hide hb8; clear ho hb8 hg8 hat hbx8)
        all_goals
          go_wp2_with fail
          go_roundg (k - (s + 1))
          case measure => have := HGM.out; omega
          case rel =>
            have hput := HX8.out.put 2 (.slice o8 (s + 1) c8)
            simp only [List.set_cons_zero, List.set_cons_succ] at hput
            refine ⟨s + 1, .slice o8 (s + 1) c8, by omega, rfl, by go_num, ?_, hput, ?_⟩
            · rw [HT2.out]
              exact HOW8.out.keep rowR_ok (fun g hg => Below.heap_setCell _ _ _ g (by have := (HOW8.out.block g hg).1; simp only; omega)) (fun q hq _ => Below.heap_setCell _ _ _ q (by have := hq.1; simp only; omega))
            · show Below _ _ _
              refine Below.setCell (p := ⟨pb, 2, none⟩) ?_ (Nat.le_refl pb) _
              have h3 := (((HBq.out.alloc (by omega) (.cells #[.int .i64 x, .int .i64 0] 102)).alloc (by rw [alloc_size']; omega) (.cells #[.int .i64 r, .slice (some ⟨wr.heap.size, 0, none⟩) 1 1] 99)).alloc (by rw [alloc_size', alloc_size']; omega) (.cells #[.slice (some ⟨wr.heap.size + 1, 0, none⟩) 1 1] 100)).drew
              exact h3.trans (HB8.out.mono (by omega))
      · have hse : s = k := by omega
        subst hse
        subst hvq
        have x2 := HX2.out.under hpw (by rw [HPB.out]; exact HX2.out.lt)
        have r0 := x2.cell 0
        have r1 := x2.cell 1
        have r2 := x2.cell 2
        have rf := x2.free
        have p0 := HXq.out.cell 0
        have p1 := HXq.out.cell 1
        have p2 := HXq.out.cell 2
        simp only [List.getElem?_cons_zero, List.getElem?_cons_succ] at r0 r1 r2 p0 p1 p2
        have HX2w := hide x2
        have HSQ := hide hsQ
        have hbz : Below w.heap.size w wr := HB2.out.trans (hpw.mono (by omega))
        have HBZ := hide hbz
        clear x2 hsQ hpw hbz
        go_wp2_with fail
        have hfin := ((HX2w.out.put 0 (.int .i64 s)).put 1 (.int .i64 1)).put 2 (.slice oQ s cQ)
        simp only [List.set_cons_zero, List.set_cons_succ] at hfin
        refine bodyPost_ret (results_cell_tmp_row rfl _ _ w.heap.size 89 _ (0, 0) _ rfl hfin Tryz.underlying89 rfl (by kernel_rfl)) rfl ?_
        refine ⟨?_, ((HBZ.out.setCell hzz _).setCell hzz _).setCell hzz _⟩
        rw [if_pos (by rw [← HK.out]; omega)]
        refine ⟨_, rfl, oQ, cQ, ?_, ?_, ?_, ?_, ?_, ?_⟩
        · simp only [turnP, List.length_map, List.length_range, ← HK.out]
        · unfold I64 turnP; simp only; rw [← HK.out]; omega
        · unfold I64 turnP; simp
        · simp only [turnP, List.length_map, List.length_range, ← HK.out]; exact hcQ
        · simp only [turnP, List.length_map, List.length_range, ← HK.out]; omega
        · show SliceR (slcR ruleR 2) 1 _ _ _ ((List.range to_.length).map (turnRow to_))
          rw [← HK.out]
          refine (HSQ.out.keep rowR_ok fun q hq _ => ?_).wide rowR_ok (by decide) fun q hq _ => ?_
          · have hq2 : w.heap.size < q := by
              rcases hq with h | h
              · have := h.1; omega
              · omega
            rw [Below.heap_setCell _ _ _ q (by simp only; omega), Below.heap_setCell _ _ _ q (by simp only; omega), Below.heap_setCell _ _ _ q (by simp only; omega)]
          · rcases hq with h | h
            · have := h.1; omega
            · omega
  · have q16 : decide ((16 : Int) < (k : Int)) = true := by simp; omega
    have hfin := ((HX2.out.put 0 (.int .i64 0)).put 1 (.int .i64 0)).put 2 (.slice none 0 0)
    simp only [List.set_cons_zero, List.set_cons_succ] at hfin
    have HF := hide hfin
    clear hfin
    go_enter Tryz.func73, Tryz.ntmps73
    go_wp2_with fail
    refine bodyPost_ret (results_cell_tmp_row rfl _ _ w.heap.size 89 _ (0, 0) _ rfl HF.out Tryz.underlying89 rfl (by kernel_rfl)) rfl ?_
    refine ⟨?_, ((HB2.out.setCell hzz _).setCell hzz _).setCell hzz _⟩
    rw [if_neg (by rw [← HK.out]; omega)]
    rfl

end Go.Proofs.YtnigfddanoaonaaGreat

set_option linter.unusedVariables false
set_option linter.unusedSimpArgs false
set_option linter.unnecessarySimpa false
namespace Go.Proofs.YtnigfddanoaonaaGreat
open Go.RowKit

/-- Right rotors of a right ribbon graph. -/
structure RtOk (n : Int) (es : List Edg) (ar : List (List Int)) (q : Nat) (rot : List Int) : Prop where
  nar : (ar.length : Int) = n
  nrot : rot.length = ar.length
  hq : q < ar.length
  n12 : ar.length ≤ 12
  cap : (endsL es).length ≤ 50000
  rng : ∀ h, h < 2 * (endsL es).length → 0 ≤ hv (endsL es) h ∧ hv (endsL es) h < n
  rows : ∀ (v : Nat) (l : List Int), ar[v]? = some l → l.length ≤ 2 * (endsL es).length ∧ ∀ x ∈ l, ∃ h : Nat, x = h ∧ h < 2 * (endsL es).length ∧ hv (endsL es) h = (v : Int)
  rots : ∀ (v : Nat) (k : Int) (l : List Int), rot[v]? = some k → ar[v]? = some l → 0 ≤ k ∧ (v = q → k = 0) ∧ (v ≠ q → k < l.length)

theorem rowsE_zero : ∀ {ar os : List (List Int)}, rowsE ar os = 0 → ∀ (v : Nat) (a o : List Int), ar[v]? = some a → os[v]? = some o → listE a o = 0
  | [], _, _, v, a, o, h, _ => by simp at h
  | _ :: _, [], _, v, a, o, _, h => by simp at h
  | x :: r, y :: s, hz, v, a, o, h1, h2 => by
    rw [rowsE_cons] at hz
    split at hz
    · rename_i h0
      cases v with
      | zero => simp at h1 h2; subst h1 h2; exact h0
      | succ v => exact rowsE_zero hz v a o (by simpa using h1) (by simpa using h2)
    · rename_i h0; exact absurd hz h0
theorem listE_zero {l own : List Int} (h : listE l own = 0) : l.length = own.length ∧ ∀ x ∈ l, x ∈ own := by
  unfold listE at h
  split at h
  · rename_i h1
    split at h
    · rename_i h2
      exact ⟨h1, (scanE_zero h2 (by simp) (by simp)).2⟩
    · rename_i h2; exact absurd h h2
  · cases h
theorem rotE_zero {q : Int} : ∀ {v0 : Nat} {ar : List (List Int)} {rot : List Int}, rotE q v0 ar rot = 0 → ∀ (v : Nat) (k : Int) (l : List Int), rot[v]? = some k → ar[v]? = some l → ¬ badR q (v0 + v) k l.length
  | v0, [], rot, _, v, k, l, _, h => by simp at h
  | v0, _ :: _, [], _, v, k, l, h, _ => by simp at h
  | v0, a :: ar, x :: rot, hz, v, k, l, h1, h2 => by
    rw [rotE_cons] at hz
    split at hz
    · cases hz
    · rename_i h0
      cases v with
      | zero => simp at h1 h2; subst h1 h2; exact h0
      | succ v =>
        have := rotE_zero hz v k l (by simpa using h1) (by simpa using h2)
        rw [show v0 + (v + 1) = v0 + 1 + v from by omega]
        exact this

theorem RtOk.of {n : Int} {es : List Edg} {f : List Nat} {ar : List (List Int)} {q : Int} {rot : List Int} (h : rtE n es f ar q rot = 0) (hc2 : es.length ≤ 1000) : ∃ q' : Nat, q = q' ∧ RtOk n es ar q' rot := by
  obtain ⟨h1, h2, h3, h4⟩ := rtE_zero h
  obtain ⟨j1, j2, j3⟩ := chkE_zero h1
  have hV := jErr_zero j1
  have hn12 := (gErr_zero hV).1
  obtain ⟨q', rfl⟩ := Int.eq_ofNat_of_zero_le h2.1
  refine ⟨q', rfl, ⟨j2, by omega, by omega, by omega, ?_, hv_range hV, ?_, ?_⟩⟩
  · have := endsL_len (es := es) fun x hx => ((gErr_zero hV).2.1 x hx).2.2.2.1
    omega
  · intro v l hl
    have hvl : v < ar.length := (List.getElem?_eq_some_iff.1 hl).1
    have ho : (halfs n es)[v]? = some (halfU (endsL es) (2 * (endsL es).length) v) := halvesU_get (by omega)
    obtain ⟨e1, e2⟩ := listE_zero (rowsE_zero j3 v l _ hl ho)
    refine ⟨by rw [e1]; exact halfU_len _ _ _, fun x hx => halfU_mem.1 (e2 x hx)⟩
  · intro v k l hk hl
    have := rotE_zero h4 v k l hk hl
    rw [Nat.zero_add] at this
    unfold badR at this
    refine ⟨by omega, fun e => ?_, fun e => ?_⟩
    · subst e; omega
    · omega

/-- The rotor behind a step at v, and where the chip goes. -/
def stpK (ar : List (List Int)) (rot : List Int) (v : Nat) : Nat := ((rot.getD v 0).toNat + 1) % (ar.getD v []).length
def stpR (ar : List (List Int)) (rot : List Int) (v : Nat) : List Int := rot.set v (stpK ar rot v : Nat)
def stpV (ar : List (List Int)) (E : List (Int × Int)) (rot : List Int) (v : Nat) : Nat := (hv E (oppH ((ar.getD v []).getD (stpK ar rot v) 0).toNat)).toNat

theorem oppH_lt {h m : Nat} (hh : h < 2 * m) : oppH h < 2 * m := by unfold oppH; split <;> omega
theorem getD_of {α : Type} {l : List α} {i : Nat} {x d : α} (h : l[i]? = some x) : l.getD i d = x := by rw [List.getD_eq_getElem?_getD, h]; rfl

theorem RtOk.step {n : Int} {es : List Edg} {ar : List (List Int)} {q : Nat} {rot : List Int} (h : RtOk n es ar q rot) {v : Nat} (hv' : v < ar.length) (hvq : v ≠ q) :
    (∃ (l : List Int) (k g : Nat), ar[v]? = some l ∧ rot[v]? = some (k : Int) ∧ k < l.length ∧ l.length ≤ 1000000 ∧ stpK ar rot v = (k + 1) % l.length ∧ l[(k + 1) % l.length]? = some (g : Int) ∧ (toL (endsL es))[g]? = some ((stpV ar (endsL es) rot v : Nat) : Int)) ∧
    RtOk n es ar q (stpR ar rot v) ∧ stpV ar (endsL es) rot v < ar.length := by
  have hl : ar[v]? = some ar[v] := List.getElem?_eq_getElem hv'
  have hk0 : rot[v]? = some (rot[v]'(by rw [h.nrot]; exact hv')) := List.getElem?_eq_getElem (by rw [h.nrot]; exact hv')
  obtain ⟨r1, _, r3⟩ := h.rots v _ _ hk0 hl
  generalize rot[v]'(by rw [h.nrot]; exact hv') = k at hk0 r1 r3
  generalize ar[v] = l at *
  obtain ⟨k, rfl⟩ := Int.eq_ofNat_of_zero_le r1
  have hkl : k < l.length := by have := r3 hvq; omega
  obtain ⟨w1, w2⟩ := h.rows v l hl
  have hK : stpK ar rot v = (k + 1) % l.length := by
    unfold stpK
    rw [getD_of hk0, getD_of hl]
    simp
  have hKl : (k + 1) % l.length < l.length := Nat.mod_lt _ (by omega)
  have hx : l[(k + 1) % l.length]? = some l[(k + 1) % l.length] := List.getElem?_eq_getElem hKl
  obtain ⟨g, hg, hg2, _⟩ := w2 _ (List.getElem_mem hKl)
  rw [hg] at hx
  have hV : stpV ar (endsL es) rot v = (hv (endsL es) (oppH g)).toNat := by
    unfold stpV
    rw [hK, getD_of hl, getD_of hx]
    simp
  have hr := h.rng _ (oppH_lt hg2)
  have hr2 := h.nar
  refine ⟨⟨l, k, g, hl, hk0, hkl, by have := h.cap; omega, hK, hx, ?_⟩, ⟨h.nar, ?_, h.hq, h.n12, h.cap, h.rng, h.rows, ?_⟩, by rw [hV]; omega⟩
  · rw [toL_get _ g hg2, hV]
    congr 1
    omega
  · unfold stpR; rw [List.length_set]; exact h.nrot
  · intro u y m hy hm
    unfold stpR at hy
    by_cases hu : v = u
    · subst hu
      rw [List.getElem?_set_self (by rw [h.nrot]; exact hv')] at hy
      injection hy with hy
      subst hy
      rw [hl] at hm
      injection hm with hm
      subst hm
      exact ⟨by omega, fun e => absurd e hvq, fun _ => by rw [hK]; omega⟩
    · rw [List.getElem?_set_ne hu] at hy
      exact h.rots u y m hy hm

/-- The way of a chip: the rotors behind it and the vertices, at most m steps. -/
def wlk (ar : List (List Int)) (E : List (Int × Int)) (q : Nat) : Nat → List Int → Nat → List Nat → Option (List Int × List Nat)
  | 0, rot, v, acc => if v = q then some (rot, acc ++ [v]) else none
  | m + 1, rot, v, acc => if v = q then some (rot, acc ++ [v]) else wlk ar E q m (stpR ar rot v) (stpV ar E rot v) (acc ++ [v])
end Go.Proofs.YtnigfddanoaonaaGreat

set_option linter.unusedVariables false
set_option linter.unusedSimpArgs false
namespace Go.Proofs.YtnigfddanoaonaaGreat
open Go.RowKit

def tgR (ar : List (List Int)) (E : List (Int × Int)) (v : Nat) : List Int := (ar.getD v []).map fun x => hv E (oppH x.toNat)
/-- The processors of the first i vertices. -/
def routU (ar : List (List Int)) (E : List (Int × Int)) (q : Int) : Nat → Option (List Prc)
  | 0 => some []
  | v + 1 => (routU ar E q v).bind fun l => if (v : Int) = q then some (l ++ [sinkP]) else if (tgR ar E v).length ≤ 16 then some (l ++ [turnP (tgR ar E v)]) else none
def routR (n : Int) (es : List Edg) (f : List Nat) (ar : List (List Int)) (q : Int) (rot d : List Int) : Nwk × Int :=
  if gvE n es f ar q rot d = 0 then
    match routU ar (endsL es) q ar.length with
    | some l => (⟨l, rot, waitD d q d.length⟩, 0)
    | none => (nwk0, 12)
  else (nwk0, gvE n es f ar q rot d)
theorem routU_none {ar : List (List Int)} {E : List (Int × Int)} {q : Int} {v : Nat} (h : routU ar E q v = none) : ∀ m, v ≤ m → routU ar E q m = none
  | 0, hm => by
    have : v = 0 := by omega
    subst this
    exact h
  | m + 1, hm => by
    by_cases he : v = m + 1
    · subst he; exact h
    · have h1 := routU_none h m (by omega)
      unfold routU
      rw [h1]
      rfl
theorem routU_len {ar : List (List Int)} {E : List (Int × Int)} {q : Int} : ∀ {v : Nat} {l : List Prc}, routU ar E q v = some l → l.length = v
  | 0, l, h => by
    unfold routU at h
    injection h with h
    subst h
    rfl
  | v + 1, l, h => by
    unfold routU at h
    rw [Option.bind_eq_some_iff] at h
    obtain ⟨l0, h1, h2⟩ := h
    have h3 := routU_len h1
    split at h2
    · injection h2 with h2; subst h2; simp [h3]
    · split at h2
      · injection h2 with h2; subst h2; simp [h3]
      · cases h2
section
variable (n : Int) (es : List Edg) (oe : Option Addr) (c : Nat) (ar : List (List Int)) (oa : Option Addr) (ca : Nat) (F G : Foot) (w : World) (hs : SliceR edgR 3 F w oe es) (hc : es.length ≤ c) (hc2 : es.length ≤ 1000)
  (ha : SliceR (slcR intR 1) 1 G w oa ar) (hac : ar.length ≤ ca) (hac2 : ar.length ≤ 9223372036854775807) (f : List Nat) (hU : Hid (gErr n es = 0 → Uf f (eL es)))
  (q : Int) (rot : List Int) (ot : Option Addr) (ct : Nat) (H : Foot) (hr : SliceR intR 1 H w ot rot) (hrc : rot.length ≤ ct) (hrl : rot.length ≤ 1000000)
  (d : List Int) (od : Option Addr) (cd : Nat) (D : Foot) (hd : SliceR intR 1 D w od d) (hdc : d.length ≤ cd) (hdl : d.length ≤ 1000000)
include hs hc hc2 ha hac hac2 hU hr hrc hrl hd hdc hdl
set_option maxRecDepth 100000 in
set_option maxHeartbeats 8000000 in
theorem nrout_any : Calls Tryz.prog 25 #[.agg #[.int .i64 n, .slice oe es.length c, .slice oa ar.length ca], .int .i64 q, .slice ot rot.length ct, .slice od d.length cd] w (NwPost w (routR n es f ar q rot d)) := by
  obtain ⟨W1, e1⟩ : ∃ W1, w.alloc (.cells #[.int .i64 n, .slice oe es.length c, .slice oa ar.length ca] 52) = W1 := ⟨_, rfl⟩
  have bx1 : Box W1 w.heap.size [.int .i64 n, .slice oe es.length c, .slice oa ar.length ca] 52 := by rw [← e1]; exact Box.new w [.int .i64 n, .slice oe es.length c, .slice oa ar.length ca] 52
  have bb1 := bnew (Below.refl w.heap.size w) (.cells #[.int .i64 n, .slice oe es.length c, .slice oa ar.length ca] 52)
  rw [e1] at bb1
  obtain ⟨W2, e2⟩ : ∃ W2, W1.alloc (.cells #[.slice none 0 0, .slice none 0 0, .slice none 0 0] 26) = W2 := ⟨_, rfl⟩
  have bx2 : Box W2 W1.heap.size [.slice none 0 0, .slice none 0 0, .slice none 0 0] 26 := by rw [← e2]; exact Box.new W1 [.slice none 0 0, .slice none 0 0, .slice none 0 0] 26
  have bb2 := bnew (Below.refl W1.heap.size W1) (.cells #[.slice none 0 0, .slice none 0 0, .slice none 0 0] 26)
  rw [e2] at bb2
  have hz1 : w.heap.size ≤ W1.heap.size := bb1.size
  have hz2 : W1.heap.size < W2.heap.size := by rw [← e2, alloc_size']; omega
  have bx1 := bx1.below bb2
  have hb2 := bb1.trans (bb2.mono hz1)
  have HX1 := hide bx1
  have HX2 := hide bx2
  have HB2 := hide hb2
  have d0 := bx1.cell 0
  have d1 := bx1.cell 1
  have d2 := bx1.cell 2
  have r0 := bx2.cell 0
  have r1 := bx2.cell 1
  have r2 := bx2.cell 2
  have rf := bx2.free
  simp only [List.getElem?_cons_zero, List.getElem?_cons_succ] at d0 d1 d2 r0 r1 r2
  have HCK := hide (rotcheck_any n es oe c ar oa ca F G W2 (hs.below edgR_ok hb2) hc hc2 (ha.below (slcR_ok intR_ok (by decide)) hb2) hac hac2 f hU q rot ot ct H (hr.below intR_ok hb2) hrc (by omega))
  have HFIN : Hid (∀ wr : World, Below W2.heap.size W2 wr → Box (((wr.setCell ⟨W1.heap.size, 0, none⟩ (.slice none 0 0)).setCell ⟨W1.heap.size, 1, none⟩ (.slice none 0 0)).setCell ⟨W1.heap.size, 2, none⟩ (.slice none 0 0)) W1.heap.size [.slice none 0 0, .slice none 0 0, .slice none 0 0] 26 ∧ Below w.heap.size w (((wr.setCell ⟨W1.heap.size, 0, none⟩ (.slice none 0 0)).setCell ⟨W1.heap.size, 1, none⟩ (.slice none 0 0)).setCell ⟨W1.heap.size, 2, none⟩ (.slice none 0 0))) := fun wr hb => by
    have hfin := (((bx2.below hb).put 0 (.slice none 0 0)).put 1 (.slice none 0 0)).put 2 (.slice none 0 0)
    simp only [List.set_cons_zero, List.set_cons_succ] at hfin
    exact ⟨hfin, (((hb2.trans (hb.mono (by omega))).setCell hz1 _).setCell hz1 _).setCell hz1 _⟩
  have HNW0 : Hid (∀ W : World, NwAt All W (.agg #[.slice none 0 0, .slice none 0 0, .slice none 0 0]) nwk0) := fun W => ⟨none, 0, none, 0, none, 0, rfl, by simp [nwk0], by simp [nwk0], by simp [nwk0], SliceR.nil _ _ _ _ _, SliceR.nil _ _ _ _ _, SliceR.nil _ _ _ _ _⟩
  by_cases h0 : rtE n es f ar q rot = 0
  · obtain ⟨q', rfl, hok⟩ := RtOk.of h0 hc2
    have hV : gErr n es = 0 := jErr_zero (chkE_zero (rtE_zero h0).1).1
    have HG : Hid (gvE n es f ar q' rot d = if dErr n d = 0 then gScan q' 0 d else dErr n d) := if_pos h0
    rw [h0] at HCK
    have HDC := hide (fun (u : World) (hu : Below w.heap.size w u) => dcheck_any n d od cd D u (hd.below intR_ok hu) hdc (by omega))
    have HGE := hide (fun (u : World) (hu : Below w.heap.size w u) => gends_any n es oe c F u (hs.below edgR_ok hu) hc hc2)
    have HD := hide hd
    have HA := hide ha
    have HRR := hide hr
    have HOK := hide hok
    have HV := hide hV
    have hnar : n = (ar.length : Int) := hok.nar.symm
    have hn12 : ar.length ≤ 12 := hok.n12
    have hrotl : rot.length = ar.length := by have := (rtE_zero h0).2.2.1; omega
    have HROTL := hide hrotl
    have HNAR := hide hnar
    have hcap := hok.cap
    clear bx1 bx2 bb1 bb2 hb2 hs ha hr hd hok hV h0 hrotl hnar
    by_cases hE : dErr n d = 0
    · have HG2 : Hid (gvE n es f ar q' rot d = gScan q' 0 d) := by show _ = _; rw [HG.out, if_pos hE]
      rw [hE] at HDC
      have hdl2 : (d.length : Int) = n := by
        unfold dErr at hE
        split at hE
        · split at hE
          · assumption
          · cases hE
        · cases hE
      have HDL := hide hdl2
      clear hE hdl2
      go_enter Tryz.func25, Tryz.ntmps25
      go_wp2_with (first
        | (go_at_call 69; refine HCK.out.mono ?_; rintro e w3 ⟨rfl, hb3⟩; have x1 := HX1.out.below hb3; have HX13 := hide x1; have HX23 := hide (HX2.out.below hb3); have HB3 := hide (HB2.out.trans (hb3.mono (by omega))); have HL3 := hide hb3; have y0 := x1.cell 0; have y1 := x1.cell 1; have y2 := x1.cell 2; simp only [List.getElem?_cons_zero, List.getElem?_cons_succ] at y0 y1 y2; clear hb3 x1)
        | (go_at_call 70; refine (HDC.out w3 HB3.out).mono ?_; rintro e w4 ⟨rfl, hb4⟩; have x1 := HX13.out.below hb4; have HX14 := hide x1; have HX24 := hide (HX23.out.below hb4); have HB4 := hide (HB3.out.trans (hb4.mono HB3.out.size)); have HL4 := hide (HL3.out.trans (hb4.mono HL3.out.size)); have y0 := x1.cell 0; have y1 := x1.cell 1; have y2 := x1.cell 2; have hx2 := HX24.out; have r0 := hx2.cell 0; have r1 := hx2.cell 1; have r2 := hx2.cell 2; have rf := hx2.free; simp only [List.getElem?_cons_zero, List.getElem?_cons_succ] at y0 y1 y2 r0 r1 r2; clear hb4 x1 hx2))
      go_loopw [42] (fun iv wr => ∃ k : Nat, k ≤ d.length ∧ iv = .int .i64 k ∧ Hid (gvE n es f ar q' rot d = gScan q' k (d.drop k)) ∧ wr = w4) (fun iv _ => d.length - (intOf iv).toNat)
      case atStart => exact ⟨0, by omega, rfl, HG2, rfl⟩
      case round =>
        obtain ⟨k, hk, rfl, HSC, rfl⟩ := hrel
        by_cases hlt : k < d.length
        · obtain ⟨x, hdr, _, ix, b, off, hod, _, c0⟩ := (HD.out.below intR_ok HB4.out).int_at hlt
          subst hod
          have HS2 : Hid (gvE n es f ar q' rot d = if (k : Int) ≠ q' ∧ x < 0 then 2 else gScan q' (k + 1) (d.drop (k + 1))) := by show _ = _; rw [HSC.out, hdr]; rfl
          clear hdr
          by_cases hkq : (k : Int) = q'
          · have q1 : ((k : Int) != (q' : Int)) = false := by simp; omega
            have HS3 : Hid (gvE n es f ar q' rot d = gScan q' (k + 1) (d.drop (k + 1))) := by show _ = _; rw [HS2.out, if_neg (by intro h; exact h.1 hkq)]
            clear hkq
            go_wp2_with fail
            go_roundw
            case rel => exact ⟨k + 1, by omega, by go_num, HS3, by first | rfl | trivial⟩
            case measure => simp [intOf]; omega
          · have q1 : ((k : Int) != (q' : Int)) = true := by simp; omega
            by_cases hx : x < 0
            · have q2 : decide (x < 0) = true := by simp [hx]
              have HS : Hid (routR n es f ar q' rot d = (nwk0, 2)) := by
                show _ = _
                have h3 : gvE n es f ar q' rot d = 2 := by rw [HS2.out, if_pos ⟨hkq, hx⟩]
                unfold routR
                rw [h3]
                rfl
              clear hkq hx
              go_wp2_with fail
              refine bodyPost_ret (results_cell_tmp_row rfl _ _ W1.heap.size 26 _ (0, 0) _ rfl (HFIN.out _ HL4.out).1 Tryz.underlying26 rfl (by kernel_rfl)) rfl ?_
              rw [HS.out]
              exact ⟨_, rfl, HNW0.out _, (HFIN.out _ HL4.out).2⟩
            · have q2 : decide (x < 0) = false := by simp; omega
              have HS3 : Hid (gvE n es f ar q' rot d = gScan q' (k + 1) (d.drop (k + 1))) := by show _ = _; rw [HS2.out, if_neg (by intro h; exact hx h.2)]
              clear hkq hx
              go_wp2_with fail
              go_roundw
              case rel => exact ⟨k + 1, by omega, by go_num, HS3, by first | rfl | trivial⟩
              case measure => simp [intOf]; omega
        · have hke : k = d.length := by omega
          have HS : Hid (routR n es f ar q' rot d = match routU ar (endsL es) q' ar.length with
              | some l => (⟨l, rot, waitD d q' d.length⟩, 0)
              | none => (nwk0, 12)) := by
            show _ = _
            have h3 : gvE n es f ar q' rot d = 0 := by rw [HSC.out, hke, List.drop_length]; rfl
            unfold routR
            rw [if_pos h3]
          have HGW := hide (HGE.out wr HB4.out)
          rw [show endsRes n es = (endsL es, 0) from if_pos HV.out] at HGW
          clear hke
          go_wp2_with (first
            | (go_at_call 71; refine HGW.out.mono ?_; rintro e w5 ⟨v5, rfl, h5, hb5⟩; obtain ⟨oE, cE, hv5, hcE, hsE⟩ := h5.slice prR_ok; subst hv5; have HSE := hide (hsE.loc prR_ok (by decide)); have HB5 := hide (HB4.out.trans (hb5.mono HB4.out.size)); have HL5 := hide (HL4.out.trans (hb5.mono HL4.out.size)); have HX15 := hide (HX14.out.below hb5); clear h5 hb5 hsE)
            | (go_at_call 72; refine (cloneI_any rot ot ct H _ (HRR.out.below intR_ok HB5.out) hrc (by omega)).mono ?_; rintro e w6 ⟨v6, rfl, h6, hb6⟩; obtain ⟨o6, c6, hv6, hc6, hs6⟩ := h6.slice intR_ok; rw [HROTL.out] at hv6 hc6; subst hv6; have HS6 := hide (hs6.wide intR_ok (by decide) (F' := fun k => w5.heap.size ≤ k ∧ k < w6.heap.size) (fun k hk hl => ⟨by rcases hk with h | h; exact h.elim; exact h, hl⟩)); have HB6 := hide (HB5.out.trans (hb6.mono HB5.out.size)); have HL6 := hide (HL5.out.trans (hb6.mono HL5.out.size)); have HSE6 := hide (HSE.out.below prR_ok hb6); have HX16 := hide (HX15.out.below hb6); have hE56 := hb6.size; clear h6 hb6 hs6)
            | (go_at_call 52; refine (nwaiting_any d q' od cd D _ (HD.out.below intR_ok HB6.out) hdc hdl).mono ?_; rintro e w7 ⟨v7, rfl, h7, hb7⟩; obtain ⟨o7, c7, hv7, hc7, hs7⟩ := h7.slice (slcR_ok intR_ok (by decide)); rw [waitD_len] at hv7 hc7; subst hv7; have HS7 := hide (wait_foot hs7); have h25 : W2.heap.size ≤ w5.heap.size := HL5.out.size; have h26 : W2.heap.size ≤ w6.heap.size := HL6.out.size; have h67 : w6.heap.size ≤ w7.heap.size := hb7.size; have HB7 := hide (HB6.out.trans (hb7.mono HB6.out.size)); have HL7 := hide (HL6.out.trans (hb7.mono HL6.out.size)); have HSE7 := hide (HSE6.out.below prR_ok hb7); have HSZ57 : w5.heap.size ≤ w7.heap.size := Nat.le_trans hE56 hb7.size; have HS67 := hide (HS6.out.below intR_ok hb7); have HX17 := hide (HX16.out.below hb7); have y1 := HX17.out.cell 1; have y2 := HX17.out.cell 2; have y2n := (HX17.out.next (.cells #[.slice none 0 0, .slice o6 ar.length c6, .slice o7 d.length c7] 26)).cell 2; simp only [List.getElem?_cons_zero, List.getElem?_cons_succ] at y1 y2 y2n; clear h7 hb7 hs7))
          obtain ⟨b, hb⟩ : ∃ b, b = w7.heap.size := ⟨_, rfl⟩
          obtain ⟨wc, hwc⟩ : ∃ wc, w7.alloc (.cells #[.slice none 0 0, .slice o6 ar.length c6, .slice o7 d.length c7] 26) = wc := ⟨_, rfl⟩
          have hbx : Box wc b [.slice none 0 0, .slice o6 ar.length c6, .slice o7 d.length c7] 26 := by rw [hb, ← hwc]; exact Box.new w7 [.slice none 0 0, .slice o6 ar.length c6, .slice o7 d.length c7] 26
          have hwcs : wc.heap.size = b + 1 := by rw [← hwc, alloc_size', hb]
          have hb7' : w7.heap.size = b := hb.symm
          have hwcb : Below w7.heap.size w7 wc := by rw [← hwc]; exact bnew (Below.refl _ _) _
          have HBXc := hide hbx
          have HBL := hide (HL7.out.trans (hwcb.mono HL7.out.size))
          have HSEc := hide (HSE7.out.below prR_ok hwcb)
          have HS6c := hide (HS67.out.below intR_ok hwcb)
          have HS7c := hide (HS7.out.below (slcR_ok intR_ok (by decide)) hwcb)
          have h5b : w5.heap.size ≤ b := by
            rw [hb]
            exact HSZ57
          have hbW : W2.heap.size ≤ b := by rw [hb]; exact HL7.out.size
          have hW2c : W2.heap.size ≤ wc.heap.size := by omega
          rw [hwc, ← hb]
          clear hbx hwcb hb hwc y1 y2 y2n r0 r1 r2 rf
          go_loopg [75] ar.length (fun gm iv wx => ∃ (v : Nat) (vp : Value) (l : List Prc), v ≤ ar.length ∧ gm = ar.length - v ∧ iv = .int .i64 v ∧ Hid (routU ar (endsL es) q' v = some l) ∧ Hid (OwnS prcR 3 wc.heap.size 89 (InF (fun k => wc.heap.size ≤ k) vp) wx vp l) ∧ Hid (Box wx b [vp, .slice o6 ar.length c6, .slice o7 d.length c7] 26) ∧ Hid (Below W2.heap.size W2 wx) ∧ Hid (wc.heap.size ≤ wx.heap.size ∧ ∀ k, k < wc.heap.size → k ≠ b → wx.heap[k]? = wc.heap[k]?))
          case atStart => exact ⟨0, _, [], by omega, by omega, rfl, rfl, OwnS.nil _ _ _ _ _ _, HBXc.out, HBL.out, Nat.le_refl _, fun k _ _ => rfl⟩
          case round =>
            obtain ⟨v, vp, l, hvn, hgm, rfl, HPU, HO, HBX, HBW, HOFF⟩ := hrel
            have HGM := hide hgm
            have HLL : Hid (l.length = v) := routU_len HPU.out
            clear hgm
            by_cases hlt : v < ar.length
            · obtain ⟨wo, hwo⟩ : ∃ wo : World, wo = wr := ⟨_, rfl⟩
              subst hwo
              obtain ⟨oV, cV, hvp, hcV, _⟩ := HO.out.slice prcR_ok
              rw [HLL.out] at hvp hcV
              subst hvp
              have HSK := hide (nsink_any wo)
              have HOB := hide HO.out.block
              have hwr : wc.heap.size ≤ wo.heap.size := HOFF.out.1
              have hblw : Below w.heap.size w wo := HB2.out.trans (HBW.out.mono (by omega))
              obtain ⟨row, _, hrow, b9, off9, ol, cl, hoR, _, a9, hrcl, _, hsrow⟩ := (HA.out.below (slcR_ok intR_ok (by decide)) hblw).slc_at hlt
              have hra := hoR
              subst hra
              have HROW := hide hrow
              have HSROW := hide hsrow
              have hlx := (HOK.out.rows v row hrow)
              have HLX := hide hlx.2
              have hrl9 : row.length ≤ 200000 := by have := hlx.1; omega
              clear hrow hsrow hlx hblw
              by_cases hvq : (v : Int) = q'
              · have q1 : ((v : Int) != (q' : Int)) = false := by simp; omega
                have HN : Hid (routU ar (endsL es) q' (v + 1) = some (l ++ [sinkP])) := by
                  show _ = _
                  unfold routU
                  rw [HPU.out, Option.bind_some, if_pos hvq]
                clear hvq
                go_wp2_with (first
                  | (go_at_call 53; refine HSK.out.mono ?_; rintro e w10 ⟨cs, rfl, ⟨oS, cS, hcs, iS, iL, hS1, hS2, hS3⟩, hb4⟩; have hcs' : cs = [.int .i64 1, .int .i64 1, .slice oS 1 cS] := hcs; subst hcs'; obtain ⟨W11, e11⟩ : ∃ W11, w10.alloc (.cells #[.int .i64 1, .int .i64 1, .slice oS 1 cS] 89) = W11 := ⟨_, rfl⟩; have bp : Box W11 w10.heap.size [.int .i64 1, .int .i64 1, .slice oS 1 cS] 89 := (by rw [← e11]; exact Box.new w10 [.int .i64 1, .int .i64 1, .slice oS 1 cS] 89); have bb5 : Below wo.heap.size wo W11 := (by rw [← e11]; exact hb4.alloc hb4.size _); have HREP : Hid (prcR (InF (fun k => wc.heap.size ≤ k) (.slice oV v cV)) W11 [.int .i64 1, .int .i64 1, .slice oS 1 cS] sinkP) := (by rw [← e11]; exact prcR_ok.keep (⟨oS, cS, rfl, iS, iL, hS1, hS2, hS3.wide rowR_ok (by decide) fun k hk _ => ⟨by omega, fun e => by have := (HOB.out k e.symm).2; omega⟩⟩) (SameOn.of_below (bnew (Below.refl _ _) _))); have HOW := hide (HO.out.below prcR_ok bb5); have HBXW := hide (HBX.out.below bb5); have HWS : Hid (wc.heap.size ≤ W11.heap.size) := Nat.le_trans hwr bb5.size; have HBWW : Hid (Below W2.heap.size W2 W11) := HBW.out.trans (bb5.mono (by omega)); have HOFW : Hid (∀ k, k < wc.heap.size → k ≠ b → W11.heap[k]? = wc.heap[k]?) := (fun k hk hkb => (bb5.block k (by omega)).trans (HOFF.out.2 k hk hkb)); have p0 := bp.cell 0; have p1 := bp.cell 1; have p2 := bp.cell 2; have b0 := HBXW.out.cell 0; have b0n := (HBXW.out.next (.cells #[.int .i64 1, .int .i64 1, .slice oS 1 cS] 89)).cell 0; simp only [List.getElem?_cons_zero, List.getElem?_cons_succ] at p0 p1 p2 b0 b0n; clear bp bb5 hb4 hS1 hS2 hS3 hcs iS iL)
                  | (at_builtin; refine wpList_append_in rfl (.tmp 113) (.tmp 115) 22 rfl wc.heap.size 89 _ 3 40 Tryz.underlying22 prcInfoN rfl (by decide) prcR_ok (fun k => wc.heap.size ≤ k) (.slice oV v cV) l (by simp [Act.eval, Act.put]) (HOW.out.new prcR_ok _) ⟨_, 0, none⟩ 1 [.int .i64 1, .int .i64 1, .slice oS 1 cS] sinkP (by simp [Act.eval, Act.put]) (World.news_of_block (heap_alloc_new _ _)) (prcR_ok.keep HREP.out (SameOn.of_below (bnew (Below.refl _ _) _))) (by rw [HLL.out]; omega) (by rw [HLL.out]; unfold maxLen; omega) (by rw [alloc_size']; have := HWS.out; omega) (fun v' w8 ho hb8 hg8 hat => ?_); have hbx8 := (HBXW.out.next (.cells #[.int .i64 1, .int .i64 1, .slice oS 1 cS] 89)).grown hg8 (fun e => by have := (HOB.out b e.symm).1; omega); have m0 := hbx8.cell 0; have mf := hbx8.free 0; obtain ⟨o8, c8, hv8, _, _⟩ := ho.slice prcR_ok; rw [List.length_append, HLL.out] at hv8; simp only [List.length_cons, List.length_nil, Nat.zero_add] at hv8; subst hv8; simp only [List.getElem?_cons_zero] at m0; have HOW8 := hide ho; have HX8 := hide hbx8; have HB8 := hide hb8; have HG8 := hide hg8; clear ho hb8 hg8 hat hbx8))
                go_roundg (ar.length - (v + 1))
                case measure => have := HGM.out; omega
                case rel =>
                  have hput := HX8.out.put 0 (.slice o8 (v + 1) c8)
                  simp only [List.set_cons_zero] at hput
                  have hwsz := HWS.out
                  have hw8 : wc.heap.size ≤ w8.heap.size := by
                    have := HB8.out.size
                    rw [alloc_size'] at this
                    omega
                  refine ⟨v + 1, .slice o8 (v + 1) c8, l ++ [sinkP], by omega, rfl, by go_num, HN.out, ?_, hput, ?_, ?_, ?_⟩
                  · exact HOW8.out.keep prcR_ok (fun g hg => Below.heap_setCell _ _ _ g (by have := (HOW8.out.block g hg).1; simp only; omega)) (fun k hk _ => Below.heap_setCell _ _ _ k (by have := hk.1; simp only; omega))
                  · show Below _ _ _
                    refine Below.setCell (p := ⟨b, 0, none⟩) ?_ hbW _
                    exact (HBWW.out.alloc (by omega) _).trans (HB8.out.mono hW2c)
                  · rw [World.size_setCell]; exact hw8
                  · intro k hk hkb
                    rw [Below.heap_setCell _ _ _ k (by simp only; omega), HB8.out.block k hk, Below.heap_alloc _ _ k (by omega)]
                    exact HOFW.out k hk hkb
              · have q1 : ((v : Int) != (q' : Int)) = true := by simp; omega
                obtain ⟨T, hT⟩ : ∃ T, T = row.map fun x => hv (endsL es) (oppH x.toNat) := ⟨_, rfl⟩
                have hTg : tgR ar (endsL es) v = T := by unfold tgR; rw [getD_some HROW.out, hT]
                have hTl : T.length = row.length := by rw [hT, List.length_map]
                have HT := hide hT
                have HTL := hide hTl
                have HTG := hide hTg
                have HVQ := hide hvq
                clear hT hTg hTl hvq
                go_wp2_with (go_at_call 53; refine HSK.out.mono ?_; rintro e w10 ⟨cs, rfl, ⟨oS, cS, hcs, iS, iL, hS1, hS2, hS3⟩, hb4⟩; have hcs' : cs = [.int .i64 1, .int .i64 1, .slice oS 1 cS] := hcs; subst hcs'; obtain ⟨W11, e11⟩ : ∃ W11, w10.alloc (.cells #[.int .i64 1, .int .i64 1, .slice oS 1 cS] 89) = W11 := ⟨_, rfl⟩; have bp : Box W11 w10.heap.size [.int .i64 1, .int .i64 1, .slice oS 1 cS] 89 := (by rw [← e11]; exact Box.new w10 [.int .i64 1, .int .i64 1, .slice oS 1 cS] 89); have bb5 : Below wo.heap.size wo W11 := (by rw [← e11]; exact hb4.alloc hb4.size _); have HBP := hide bp; have HBB5 := hide bb5; have hw45 : wo.heap.size ≤ w10.heap.size := hb4.size; clear bp bb5 hb4 hS1 hS2 hS3 hcs iS iL)
                go_loopg [20, 86] row.length (fun gm tv jv wx => ∃ j : Nat, j ≤ row.length ∧ gm = row.length - j ∧ jv = .int .i64 j ∧ Hid (OwnS intR 1 W11.heap.size 3 Non wx tv (T.take j)) ∧ Hid (Below W11.heap.size W11 wx))
                case atStart => exact ⟨0, by omega, by omega, rfl, OwnS.nil _ _ _ _ _ _, Below.refl _ _⟩
                case round =>
                  obtain ⟨j, hj, hgm2, rfl, HOt, HBt⟩ := hrel
                  have HGM2 := hide hgm2
                  clear hgm2
                  have hbwo : Below wo.heap.size wo wr := HBB5.out.trans (HBt.out.mono HBB5.out.size)
                  have hw11 : W11.heap.size ≤ wr.heap.size := HBt.out.size
                  by_cases hjl : j < row.length
                  · obtain ⟨y, _, hy, _, b2, off2, hol, _, e0⟩ := (HSROW.out.below intR_ok hbwo).int_at hjl
                    subst hol
                    obtain ⟨g, rfl, hg2, _⟩ := HLX.out y (List.mem_of_getElem? hy)
                    obtain ⟨qq, hqq⟩ : ∃ qq, qq = g / 2 := ⟨_, rfl⟩
                    have hq1 : ((g : Int)).tdiv 2 = (qq : Int) := by rw [Int.tdiv_eq_ediv_of_nonneg (by omega)]; omega
                    have hql : qq < (endsL es).length := by omega
                    have hse : SliceR prR 2 (Lt w5.heap.size) wr oE (endsL es) := HSEc.out.keep prR_ok fun k hk _ => by
                      have hk' : k < w5.heap.size := hk
                      rw [hbwo.block k (by omega)]
                      exact HOFF.out.2 k (by omega) (by omega)
                    obtain ⟨A, B, _, hget, iA, iB, bl, of3, hoE, _, f1, f2⟩ := hse.pr_at hql
                    have hoE' := hoE
                    subst hoE'
                    have hgd : (endsL es).getD qq (0, 0) = (A, B) := by rw [List.getD_eq_getElem?_getD, hget]; rfl
                    have hc5 : (endsL es).length ≤ cE := hcE
                    have HTJ : Hid (T.take (j + 1) = T.take j ++ [hv (endsL es) (oppH g)]) := by
                      show _ = _
                      rw [List.take_add_one, HT.out, List.getElem?_map, hy]
                      simp
                    have HTJL : Hid ((T.take j).length = j) := by show _ = _; rw [List.length_take, HTL.out]; omega
                    have hi1 : (0 : Int) ≤ (qq : Int) := by omega
                    have hi2 : (qq : Int) < ((endsL es).length : Int) := by omega
                    clear hse hget hy
                    by_cases hp : g % 2 = 0
                    · have HV2 : Hid (hv (endsL es) (oppH g) = B) := by
                        show _ = _
                        unfold hv oppH
                        rw [if_pos hp, if_neg (by omega), show (g + 1) / 2 = qq by omega, hgd]
                      have hr1 : ((g : Int)).tmod 2 = 0 := by rw [Int.tmod_eq_emod_of_nonneg (by omega)]; omega
                      clear hp hqq hgd
                      go_wp2_with (at_builtin; refine wpList_append_rep rfl (.tmp 90) (.tmp 100) 23 rfl W11.heap.size 3 _ 1 8 Tryz.underlying23 iInfo rfl (by decide) intR_ok Non All u20 (T.take j) (by simp [Act.eval, Act.put]) (HOt.out.new intR_ok _) (some ⟨wr.heap.size, 0, none⟩) 1 [B] (by simp [Act.eval, Act.put]) (intlF wr B iB trivial) (fun _ _ h => h) (fun _ h => h.elim) (by rw [HTJL.out]; simp; omega) (by rw [HTJL.out]; simp; omega) (by rw [alloc_size']; omega) ?_; intro v' w14 ho hb5 hg5; have HO5 := hide ho; have HB5' := hide hb5; clear ho hb5 hg5)
                      go_roundg (row.length - (j + 1))
                      case measure => have := HGM2.out; omega
                      case rel => exact ⟨j + 1, by omega, rfl, by go_num, by rw [HTJ.out, HV2.out]; exact HO5.out, (HBt.out.alloc hw11 _).trans HB5'.out⟩
                    · have HV2 : Hid (hv (endsL es) (oppH g) = A) := by
                        show _ = _
                        unfold hv oppH
                        rw [if_neg hp, if_pos (by omega), show (g - 1) / 2 = qq by omega, hgd]
                      have hr1 : ((g : Int)).tmod 2 = 1 := by rw [Int.tmod_eq_emod_of_nonneg (by omega)]; omega
                      clear hp hqq hgd
                      go_wp2_with (at_builtin; refine wpList_append_rep rfl (.tmp 90) (.tmp 100) 23 rfl W11.heap.size 3 _ 1 8 Tryz.underlying23 iInfo rfl (by decide) intR_ok Non All u20 (T.take j) (by simp [Act.eval, Act.put]) (HOt.out.new intR_ok _) (some ⟨wr.heap.size, 0, none⟩) 1 [A] (by simp [Act.eval, Act.put]) (intlF wr A iA trivial) (fun _ _ h => h) (fun _ h => h.elim) (by rw [HTJL.out]; simp; omega) (by rw [HTJL.out]; simp; omega) (by rw [alloc_size']; omega) ?_; intro v' w14 ho hb5 hg5; have HO5 := hide ho; have HB5' := hide hb5; clear ho hb5 hg5)
                      go_roundg (row.length - (j + 1))
                      case measure => have := HGM2.out; omega
                      case rel => exact ⟨j + 1, by omega, rfl, by go_num, by rw [HTJ.out, HV2.out]; exact HO5.out, (HBt.out.alloc hw11 _).trans HB5'.out⟩
                  · have hje : j = row.length := by omega
                    obtain ⟨oT, cT, htv, hcT, hsT⟩ := HOt.out.slice intR_ok
                    rw [List.take_of_length_le (by rw [HTL.out]; omega)] at htv hcT hsT
                    subst htv
                    obtain ⟨wt, hwt0⟩ : ∃ wt : World, wt = wr := ⟨_, rfl⟩
                    subst hwt0
                    have HTT := hide hsT
                    have HBPt := hide (HBP.out.below HBt.out)
                    have HBBt := hide hbwo
                    have hTle : T.length ≤ 200000 := by rw [HTL.out]; exact hrl9
                    clear hje hsT hbwo
                    by_cases h16 : T.length ≤ 16
                    · have HN : Hid (routU ar (endsL es) q' (v + 1) = some (l ++ [turnP T])) := by
                        show _ = _
                        unfold routU
                        rw [HPU.out, Option.bind_some, if_neg HVQ.out, HTG.out, if_pos h16]
                      go_wp2_with (first
                        | (go_at_call 73; refine (nturner_any T oT cT _ wt HTT.out hcT (by omega)).mono ?_; rintro e w12 ⟨hT, hb6⟩; rw [if_pos (by omega)] at hT; obtain ⟨cs, rfl, ⟨oP, cP, hcs, iS, iL, hT1, hT2, hT3⟩⟩ := hT; have hcs' : cs = [.int .i64 T.length, .int .i64 1, .slice oP T.length cP] := (by rw [hcs]; simp [turnP]); subst hcs'; have hbp := HBPt.out.below hb6; have p0 := hbp.cell 0; have p1 := hbp.cell 1; have p2 := hbp.cell 2; have pf := hbp.free; simp only [List.getElem?_cons_zero, List.getElem?_cons_succ] at p0 p1 p2; obtain ⟨W13, e13⟩ : ∃ W13, ((w12.setCell ⟨w10.heap.size, 0, none⟩ (.int .i64 T.length)).setCell ⟨w10.heap.size, 1, none⟩ (.int .i64 1)).setCell ⟨w10.heap.size, 2, none⟩ (.slice oP T.length cP) = W13 := ⟨_, rfl⟩; have hbp7 : Box W13 w10.heap.size [.int .i64 T.length, .int .i64 1, .slice oP T.length cP] 89 := (by rw [← e13]; have h := ((hbp.put 0 (.int .i64 T.length)).put 1 (.int .i64 1)).put 2 (.slice oP T.length cP); simpa using h); have hb56 : Below wo.heap.size wo w12 := HBBt.out.trans (hb6.mono HBBt.out.size); have bb7 : Below wo.heap.size wo W13 := (by rw [← e13]; exact ((hb56.setCell hw45 _).setCell hw45 _).setCell hw45 _); have hl5 : w10.heap.size < wt.heap.size := HBPt.out.lt; have hwt : wo.heap.size ≤ wt.heap.size := HBBt.out.size; have HREP : Hid (prcR (InF (fun k => wc.heap.size ≤ k) (.slice oV v cV)) W13 [.int .i64 T.length, .int .i64 1, .slice oP T.length cP] (turnP T)) := (⟨oP, cP, by rw [← hcs], iS, iL, hT1, hT2, (hT3.keep rowR_ok fun j hj _ => (by rw [← e13]; exact set3_heap (by omega))).wide rowR_ok (by decide) fun j hj _ => ⟨by omega, fun e => by have := (HOB.out j e.symm).2; omega⟩⟩ : prcR _ _ _ _); have HOW := hide (HO.out.below prcR_ok bb7); have HBXW := hide (HBX.out.below bb7); have HWS : Hid (wc.heap.size ≤ W13.heap.size) := Nat.le_trans hwr bb7.size; have HBWW : Hid (Below W2.heap.size W2 W13) := HBW.out.trans (bb7.mono (by omega)); have HOFW : Hid (∀ k, k < wc.heap.size → k ≠ b → W13.heap[k]? = wc.heap[k]?) := (fun k hk hkb => (bb7.block k (by omega)).trans (HOFF.out.2 k hk hkb)); have s0 := hbp7.cell 0; have s1 := hbp7.cell 1; have s2 := hbp7.cell 2; have b0 := HBXW.out.cell 0; have b0n := (HBXW.out.next (.cells #[.int .i64 T.length, .int .i64 1, .slice oP T.length cP] 89)).cell 0; simp only [List.getElem?_cons_zero, List.getElem?_cons_succ] at s0 s1 s2 b0 b0n; clear hbp hbp7 hb56 bb7 hb6 hT1 hT2 hT3 hcs iS iL)
                        | (at_builtin; refine wpList_append_in rfl (.tmp 113) (.tmp 115) 22 rfl wc.heap.size 89 _ 3 40 Tryz.underlying22 prcInfoN rfl (by decide) prcR_ok (fun k => wc.heap.size ≤ k) (.slice oV v cV) l (by simp [Act.eval, Act.put]) (HOW.out.new prcR_ok _) ⟨_, 0, none⟩ 1 [.int .i64 T.length, .int .i64 1, .slice oP T.length cP] (turnP T) (by simp [Act.eval, Act.put]) (World.news_of_block (heap_alloc_new _ _)) (prcR_ok.keep HREP.out (SameOn.of_below (bnew (Below.refl _ _) _))) (by rw [HLL.out]; omega) (by rw [HLL.out]; unfold maxLen; omega) (by rw [alloc_size']; have := HWS.out; omega) (fun v' w8 ho hb8 hg8 hat => ?_); have hbx8 := (HBXW.out.next (.cells #[.int .i64 T.length, .int .i64 1, .slice oP T.length cP] 89)).grown hg8 (fun e => by have := (HOB.out b e.symm).1; omega); have m0 := hbx8.cell 0; have mf := hbx8.free 0; obtain ⟨o8, c8, hv8, _, _⟩ := ho.slice prcR_ok; rw [List.length_append, HLL.out] at hv8; simp only [List.length_cons, List.length_nil, Nat.zero_add] at hv8; subst hv8; simp only [List.getElem?_cons_zero] at m0; have HOW8 := hide ho; have HX8 := hide hbx8; have HB8 := hide hb8; have HG8 := hide hg8; clear ho hb8 hg8 hat hbx8))
                      go_roundg (ar.length - (v + 1))
                      case measure => have := HGM.out; omega
                      case rel =>
                        have hput := HX8.out.put 0 (.slice o8 (v + 1) c8)
                        simp only [List.set_cons_zero] at hput
                        have hwsz := HWS.out
                        have hw8 : wc.heap.size ≤ w8.heap.size := by
                          have := HB8.out.size
                          rw [alloc_size'] at this
                          omega
                        refine ⟨v + 1, .slice o8 (v + 1) c8, l ++ [(turnP T)], by omega, rfl, by go_num, HN.out, ?_, hput, ?_, ?_, ?_⟩
                        · exact HOW8.out.keep prcR_ok (fun g hg => Below.heap_setCell _ _ _ g (by have := (HOW8.out.block g hg).1; simp only; omega)) (fun k hk _ => Below.heap_setCell _ _ _ k (by have := hk.1; simp only; omega))
                        · show Below _ _ _
                          refine Below.setCell (p := ⟨b, 0, none⟩) ?_ hbW _
                          exact (HBWW.out.alloc (by omega) _).trans (HB8.out.mono hW2c)
                        · rw [World.size_setCell]; exact hw8
                        · intro k hk hkb
                          rw [Below.heap_setCell _ _ _ k (by simp only; omega), HB8.out.block k hk, Below.heap_alloc _ _ k (by omega)]
                          exact HOFW.out k hk hkb
                    · have HN : Hid (routU ar (endsL es) q' (v + 1) = none) := by
                        show _ = _
                        unfold routU
                        rw [HPU.out, Option.bind_some, if_neg HVQ.out, HTG.out, if_neg h16]
                      go_wp2_with (go_at_call 73; refine (nturner_any T oT cT _ wt HTT.out hcT (by omega)).mono ?_; rintro e w12 ⟨hT, hb6⟩; rw [if_neg (by omega)] at hT; subst hT; have hbp := HBPt.out.below hb6; have p0 := hbp.cell 0; have p1 := hbp.cell 1; have p2 := hbp.cell 2; have pf := hbp.free; simp only [List.getElem?_cons_zero, List.getElem?_cons_succ] at p0 p1 p2; obtain ⟨W13, e13⟩ : ∃ W13, ((w12.setCell ⟨w10.heap.size, 0, none⟩ (.int .i64 0)).setCell ⟨w10.heap.size, 1, none⟩ (.int .i64 0)).setCell ⟨w10.heap.size, 2, none⟩ (.slice none 0 0) = W13 := ⟨_, rfl⟩; have hb56 : Below wo.heap.size wo w12 := HBBt.out.trans (hb6.mono HBBt.out.size); have bb7 : Below wo.heap.size wo W13 := (by rw [← e13]; exact ((hb56.setCell hw45 _).setCell hw45 _).setCell hw45 _); have HL13 := hide (HBW.out.trans (bb7.mono (by omega))); have hx2 := HX2.out.below HL13.out; have r0 := hx2.cell 0; have r1 := hx2.cell 1; have r2 := hx2.cell 2; have rf := hx2.free; simp only [List.getElem?_cons_zero, List.getElem?_cons_succ] at r0 r1 r2; clear hbp hb56 bb7 hb6 hx2)
                      refine bodyPost_ret (results_cell_tmp_row rfl _ _ W1.heap.size 26 _ (0, 0) _ rfl (HFIN.out _ HL13.out).1 Tryz.underlying26 rfl (by kernel_rfl)) rfl ?_
                      rw [HS.out, routU_none HN.out ar.length (by omega)]
                      exact ⟨_, rfl, HNW0.out _, (HFIN.out _ HL13.out).2⟩
            · have hve : v = ar.length := by omega
              subst hve
              obtain ⟨oV, cV, hvp, hcV, hsV⟩ := HO.out.slice prcR_ok
              rw [HLL.out] at hvp hcV
              subst hvp
              have HSV := hide hsV
              have b0 := HBX.out.cell 0
              have b1 := HBX.out.cell 1
              have b2 := HBX.out.cell 2
              have hx2 := HX2.out.below HBW.out
              have r0 := hx2.cell 0
              have r1 := hx2.cell 1
              have r2 := hx2.cell 2
              have rf := hx2.free
              simp only [List.getElem?_cons_zero, List.getElem?_cons_succ] at b0 b1 b2 r0 r1 r2
              have HX2w := hide hx2
              clear hx2 hsV
              go_wp2_with fail
              have hfin := ((HX2w.out.put 0 (.slice oV ar.length cV)).put 1 (.slice o6 ar.length c6)).put 2 (.slice o7 d.length c7)
              simp only [List.set_cons_zero, List.set_cons_succ] at hfin
              refine bodyPost_ret (results_cell_tmp_row rfl _ _ W1.heap.size 26 _ (0, 0) _ rfl hfin Tryz.underlying26 rfl (by kernel_rfl)) rfl ?_
              rw [HS.out, HPU.out]
              obtain ⟨hoff1, hoff2⟩ := HOFF.out
              have hne : ∀ k, W1.heap.size < k → (((wr.setCell ⟨W1.heap.size, 0, none⟩ (.slice oV ar.length cV)).setCell ⟨W1.heap.size, 1, none⟩ (.slice o6 ar.length c6)).setCell ⟨W1.heap.size, 2, none⟩ (.slice o7 d.length c7)).heap[k]? = wr.heap[k]? := fun k hk => set3_heap (by omega)
              refine ⟨_, rfl, ⟨oV, cV, o6, c6, o7, c7, ?_, ?_, ?_, ?_, ?_, ?_, ?_⟩, ?_⟩
              · simp only [HLL.out, HROTL.out, waitD_len]
              · simp only [HLL.out]; exact hcV
              · simp only [HROTL.out]; exact hc6
              · simp only [waitD_len]; exact hc7
              · exact (HSV.out.keep prcR_ok fun k hk _ => hne k (by rcases hk with h | h; have := h.1; omega; omega)).all prcR_ok (by decide)
              · exact ((HS6c.out.keep intR_ok fun k hk _ => (hne k (by have := hk.1; omega)).trans (hoff2 k (by have := hk.2; omega) (by have := hk.2; omega))).all intR_ok (by decide))
              · exact ((HS7c.out.keep (slcR_ok intR_ok (by decide)) fun k hk _ => (hne k (by have := hk.1; omega)).trans (hoff2 k (by have := hk.2; omega) (by have := hk.2; omega))).all (slcR_ok intR_ok (by decide)) (by decide))
              · have hbz : Below w.heap.size w wr := HB2.out.trans (HBW.out.mono (by omega))
                exact ((hbz.setCell hz1 _).setCell hz1 _).setCell hz1 _
    · have HS : Hid (routR n es f ar q' rot d = (nwk0, dErr n d)) := by
        show _ = _
        have h3 : gvE n es f ar q' rot d = dErr n d := by rw [HG.out, if_neg hE]
        unfold routR
        rw [h3, if_neg hE]
      have hq0 : (dErr n d != 0) = true := by simpa using hE
      clear hE
      go_enter Tryz.func25, Tryz.ntmps25
      go_wp2_with (first
        | (go_at_call 69; refine HCK.out.mono ?_; rintro e w3 ⟨rfl, hb3⟩; have x1 := HX1.out.below hb3; have HX13 := hide x1; have HX23 := hide (HX2.out.below hb3); have HB3 := hide (HB2.out.trans (hb3.mono (by omega))); have HL3 := hide hb3; have y0 := x1.cell 0; have y1 := x1.cell 1; have y2 := x1.cell 2; simp only [List.getElem?_cons_zero, List.getElem?_cons_succ] at y0 y1 y2; clear hb3 x1)
        | (go_at_call 70; refine (HDC.out w3 HB3.out).mono ?_; rintro e w4 ⟨rfl, hb4⟩; have x1 := HX13.out.below hb4; have HX14 := hide x1; have HX24 := hide (HX23.out.below hb4); have HB4 := hide (HB3.out.trans (hb4.mono HB3.out.size)); have HL4 := hide (HL3.out.trans (hb4.mono HL3.out.size)); have y0 := x1.cell 0; have y1 := x1.cell 1; have y2 := x1.cell 2; have hx2 := HX24.out; have r0 := hx2.cell 0; have r1 := hx2.cell 1; have r2 := hx2.cell 2; have rf := hx2.free; simp only [List.getElem?_cons_zero, List.getElem?_cons_succ] at y0 y1 y2 r0 r1 r2; clear hb4 x1 hx2))
      refine bodyPost_ret (results_cell_tmp_row rfl _ _ W1.heap.size 26 _ (0, 0) _ rfl (HFIN.out _ HL4.out).1 Tryz.underlying26 rfl (by kernel_rfl)) rfl ?_
      rw [HS.out]
      exact ⟨_, rfl, HNW0.out _, (HFIN.out _ HL4.out).2⟩
  · have HS : Hid (routR n es f ar q rot d = (nwk0, rtE n es f ar q rot)) := by
      show _ = _
      have : gvE n es f ar q rot d = rtE n es f ar q rot := if_neg h0
      unfold routR
      rw [this, if_neg h0]
    have hq0 : (rtE n es f ar q rot != 0) = true := by simpa using h0
    clear h0 bx1 bx2 bb1 bb2 hb2 hs ha hr hd
    go_enter Tryz.func25, Tryz.ntmps25
    go_wp2_with (go_at_call 69; refine HCK.out.mono ?_; rintro e w3 ⟨rfl, hb3⟩; have HL3 := hide hb3; have hx2 := HX2.out.below hb3; have r0 := hx2.cell 0; have r1 := hx2.cell 1; have r2 := hx2.cell 2; have rf := hx2.free; simp only [List.getElem?_cons_zero, List.getElem?_cons_succ] at r0 r1 r2; clear hb3 hx2)
    refine bodyPost_ret (results_cell_tmp_row rfl _ _ W1.heap.size 26 _ (0, 0) _ rfl (HFIN.out _ HL3.out).1 Tryz.underlying26 rfl (by kernel_rfl)) rfl ?_
    rw [HS.out]
    exact ⟨_, rfl, HNW0.out _, (HFIN.out _ HL3.out).2⟩
end

end Go.Proofs.YtnigfddanoaonaaGreat

set_option linter.unusedVariables false
set_option linter.unusedSimpArgs false
namespace Go.Proofs.YtnigfddanoaonaaGreat
open Go.RowKit

def picksErr (l : List Int) : Int := if 4096 < l.length then 5 else if l.length = 0 then 14 else if negB l then 2 else 0

set_option maxHeartbeats 1000000 in
theorem picked_any (l : List Int) (oa : Option Addr) (c : Nat) (F : Foot) (w : World) (hs : SliceR intR 1 F w oa l) (hc : l.length ≤ c) (hc2 : l.length ≤ 9223372036854775807) :
    Calls Tryz.prog 44 #[.slice oa l.length c] w fun e w' => e = .returned (.int .i64 (picksErr l)) ∧ w = w' := by
  by_cases h1 : 4096 < l.length
  · have HR : Hid (picksErr l = 5) := if_pos h1
    have k1 : (4096 : Int) < l.length := by omega
    clear hs h1
    go_enter Tryz.func44, Tryz.ntmps44
    go_wp2_with fail
    go_ret
    exact ⟨ret_int (by rw [HR.out]), rfl⟩
  have k1 : ¬ (4096 : Int) < l.length := by omega
  by_cases h2 : l.length = 0
  · have HR : Hid (picksErr l = 14) := by show _ = _; unfold picksErr; rw [if_neg h1, if_pos h2]
    have k2 : ((l.length : Int) == 0) = true := by simp; exact List.eq_nil_of_length_eq_zero h2
    clear hs h1 h2
    go_enter Tryz.func44, Tryz.ntmps44
    go_wp2_with fail
    go_ret
    exact ⟨ret_int (by rw [HR.out]), rfl⟩
  have k2 : ((l.length : Int) == 0) = false := by simp; intro e; rw [e] at h2; simp at h2
  have HM := hide (min_any l oa c F w hs hc hc2 (by omega))
  have HR : Hid (picksErr l = if negB l then 2 else 0) := by show _ = _; unfold picksErr; rw [if_neg h1, if_neg h2]
  obtain ⟨n, hn⟩ : ∃ n, n = l.length := ⟨_, rfl⟩
  rw [← hn] at k1 k2 HM hc2 ⊢
  clear hs h1 h2 hn hc
  go_enter Tryz.func44, Tryz.ntmps44
  go_wp2_with fail
  refine HM.out.mono ?_
  rintro e w' ⟨m, rfl, hm, rfl⟩
  by_cases hneg : m < 0
  · have HB : Hid (negB l = true) := by show _ = _; rw [← hm]; simp [hneg]
    clear hm
    go_wp2_with fail
    go_ret
    exact ⟨ret_int (by rw [HR.out, HB.out]; rfl), rfl⟩
  · have HB : Hid (negB l = false) := by show _ = _; rw [← hm]; simp; omega
    clear hm
    go_wp2_with fail
    go_ret
    exact ⟨ret_int (by rw [HR.out, HB.out]; rfl), rfl⟩

end Go.Proofs.YtnigfddanoaonaaGreat

set_option linter.unusedVariables false
set_option linter.unusedSimpArgs false
namespace Go.Proofs.YtnigfddanoaonaaGreat
open Go.RowKit

theorem wpList_append_one {α : Type} {R : Rep α} {P : Program} {w : World} {ops : Array Oper} {rest : List Oper} {o : Oper} {a : Act} {Q : Exit → Act → World → Prop} (hgd : o.guard = none) (s x : Operand) (t : TypeId)
    (ho : o.op = .call { callee := .builtin .append, args := #[s, x], argTypes := #[t, t] })
    (base : Nat) (e : TypeId) (z : Value) (size bytes : Nat) (ht : P.underlying t = some (.slice e)) (hinfo : (P.info? e).map (fun i => (i.zero, i.size, i.bytes)) = some (some z, size, bytes))
    (hzs : z.cells.size = size) (hsz : 0 < size) (ok : RepOk R size) (v : Value) (xs : List α) (hs : a.eval s = v) (hown : OwnS R size base e Non w v xs)
    (ad : Addr) (c : Nat) (news : List Value) (y : α) (hx : a.eval x = .slice (some ad) 1 c) (hnews : ∀ j u, news[j]? = some u → w.cell? (ad.add j) = some u) (hR : R Non w news y)
    (hbytes : (xs.length + 1) * bytes ≤ 140737488355328) (hm : xs.length + 1 ≤ maxLen) (hbase : base ≤ w.heap.size)
    (hK : ∀ v' w', OwnS R size base e Non w' v' (xs ++ [y]) → Below base w w' → w.grownBy w' v.ownBlock → wpList P ops Q rest (a.put o.dst v') w') : wpList P ops Q (o :: rest) a w :=
  wpList_append_in hgd s x t ho base e z size bytes ht hinfo hzs hsz ok Non v xs hs (hown.wide ok fun k hk _ => hk.elim) ad c news y hx hnews (ok.wide hR fun k hk _ => hk.elim) hbytes hm hbase fun v' w' h1 h2 h3 _ => hK v' w' (h1.wide ok fun k hk _ => hk.1.elim) h2 h3
theorem zero_lit (w : World) : SliceR intR 1 All (w.alloc (.cells #[.int .i64 0] 3)) (some ⟨w.heap.size, 0, none⟩) [0] := by
  simpa using ints_lit (F := All) (G := All) w 3 [0] (by intro x hx; simp at hx; subst hx; unfold I64; omega) trivial
theorem methMv (x : Value) (w : World) : Sem.run Tryz.prog (method 349 147 x "sandpile/network.moves") w = .ok ((198 : Nat), x) w := by kernel_rfl
theorem methMk (x : Value) (w : World) : Sem.run Tryz.prog (method 349 147 x "sandpile/network.make") w = .ok ((197 : Nat), x) w := by kernel_rfl
theorem methNw (x : Value) (w : World) : Sem.run Tryz.prog (method 349 147 x "sandpile/network.network") w = .ok ((199 : Nat), x) w := by kernel_rfl
/-- A network in memory. -/
def NetAt (F : Foot) (w : World) (v : Value) (y : Nwk) : Prop := ∃ oq cq os cs ow cw, v = .agg #[.slice oq y.procs.length cq, .slice os y.state.length cs, .slice ow y.waiting.length cw] ∧ y.procs.length ≤ cq ∧ y.state.length ≤ cs ∧ y.waiting.length ≤ cw ∧ SliceR prcR 3 F w oq y.procs ∧ SliceR intR 1 F w os y.state ∧ SliceR (slcR intR 1) 1 F w ow y.waiting
/-- What a run comes to. -/
def RunNet (F : Foot) (w : World) (e : Ending) (w' : World) : Option (Nwk × List (List Int)) → Prop
  | some (y, ct) => ∃ v oc cc, e = .returned (.tuple #[v, .slice oc ct.length cc, .int .i64 0]) ∧ NetAt F w' v y ∧ ct.length ≤ cc ∧ SliceR (slcR intR 1) 1 F w' oc ct ∧ Below w.heap.size w w'
  | none => e = .returned (.tuple #[.agg #[.slice none 0 0, .slice none 0 0, .slice none 0 0], .slice none 0 0, .int .i64 12]) ∧ Below w.heap.size w w'

section
variable {O : Foot} {B0 K H p gs : Nat} {vp tw : Value} {rs : List Rw} {x : Nwk} {W W' : World}
/-- A store into a block that is none of the machine's. -/
theorem Mach.away (h : Mach O B0 K H p gs vp tw rs x W) {q : Addr} (hq : q.block < B0) (hO : ¬ O q.block) (v : Value) : Mach O B0 K H p gs vp tw rs x (W.setCell q v) := by
  obtain ⟨l1, l2, l3, l4⟩ := h.low
  exact {
    main := h.main.other (by omega) _
    procs := h.procs.keep prcR_ok (fun g hg => Below.heap_setCell _ _ _ g (by have := (h.procs.block g hg).1; omega)) (fun k hk _ => Below.heap_setCell _ _ _ k (fun e => by
      have h1 := hk.1.1
      unfold OldNew at h1
      rcases h1 with h1 | h1
      · exact hO (e ▸ h1.1)
      · omega))
    vlt := h.vlt
    sts := h.sts.other (by omega) _
    tab := h.tab.above fun k _ hk => Below.heap_setCell _ _ _ k (by omega)
    tabs := h.tabs
    low := h.low }
/-- What is laid or changed from block C on does not concern a machine that lies below. -/
theorem Mach.keepC (h : Mach O B0 K H p gs vp tw rs x W) {C : Nat} (hp : p < C) (ht : ∀ g, tw.ownBlock = some g → g < C) (hr : ∀ r ∈ rs, r.g < C) (hk : ∀ k, k < C → W'.heap[k]? = W.heap[k]?) : Mach O B0 K H p gs vp tw rs x W' := by
  obtain ⟨l1, l2, l3, l4⟩ := h.low
  exact {
    main := h.main.keep (hk _ hp)
    procs := h.procs.keep prcR_ok (fun g hg => hk g (by have := h.vlt g hg; omega)) (fun k hkk _ => hk k (by have := hkk.2; omega))
    vlt := h.vlt
    sts := h.sts.keep (hk _ (by omega))
    tab := h.tab.keep (fun g hg => hk g (ht g hg)) fun r hr' => hk _ (hr r hr')
    tabs := h.tabs
    low := h.low }
theorem Mach.netAt (h : Mach O B0 K H p gs vp tw rs x W) (hr : Right x) : NetAt All W (.agg #[vp, .slice (some ⟨gs, 0, none⟩) x.procs.length x.procs.length, tw]) x := by
  obtain ⟨oV, cV, hvp, hcV, hsV⟩ := h.procs.slice prcR_ok
  have hI : ∀ l ∈ x.waiting, l.length ≤ 9223372036854775807 ∧ ∀ k ∈ l, I64 k := fun l hl => by
    refine ⟨?_, fun k hk => by have := hr.wb l hl k hk; unfold I64; omega⟩
    obtain ⟨j, hj, rfl⟩ := List.mem_iff_getElem.1 hl
    obtain ⟨l', h1, h2⟩ := hr.row (p := j) (by rw [← hr.nwt]; exact hj)
    rw [List.getElem?_eq_getElem hj] at h1
    injection h1 with h1
    rw [h1, h2]
    have := (hr.letters j (by rw [← hr.nwt]; exact hj)).2
    omega
  obtain ⟨oT, cT, htw, hcT, hsT⟩ := h.tab.slices fun r hr' => hI r.l (by rw [← h.tabs]; exact List.mem_map.2 ⟨r, hr', rfl⟩)
  rw [h.tabs] at htw hcT hsT
  have hst : ∀ k ∈ x.state, I64 k := fun k hk => by
    obtain ⟨j, hj, rfl⟩ := List.mem_iff_getElem.1 hk
    have hj' : j < x.procs.length := by rw [← hr.nst]; exact hj
    have h1 := hr.st j _ _ (List.getElem?_eq_getElem hj) (List.getElem?_eq_getElem hj')
    have h2 := (check_zero (hr.proc j _ (List.getElem?_eq_getElem hj'))).2.1
    unfold I64
    omega
  have hs := h.sts.ints (F := All) hst trivial
  refine ⟨oV, cV, some ⟨gs, 0, none⟩, x.procs.length, oT, cT, ?_, hcV, by rw [hr.nst]; exact Nat.le_refl _, hcT, hsV.all prcR_ok (by decide), hs, hsT.all (slcR_ok intR_ok (by decide)) (by decide)⟩
  rw [hvp, htw, hr.nst]
end
theorem SliceR.mv_at {F : Foot} {w : World} {oa : Option Addr} {xs : List (Nat × Nat)} (h : SliceR mvR 2 F w oa xs) {i : Nat} (hi : i < xs.length) :
    ∃ a b : Nat, xs[i]? = some (a, b) ∧ ∃ bl off, oa = some ⟨bl, off, none⟩ ∧ F bl ∧ w.cell? ⟨bl, off + i * 2, none⟩ = some (.int .i64 a) ∧ w.cell? ⟨bl, off + i * 2 + 1, none⟩ = some (.int .i64 b) := by
  obtain ⟨⟨a, b⟩, h1, h2, bl, off, cs, h3, h4, rfl, h8⟩ := h.at hi
  exact ⟨a, b, h2, bl, off, h3, h4, by simpa using h8 0 _ rfl, by simpa using h8 1 _ rfl⟩
theorem RTab.away {B : Nat} {tw : Value} {rs : List Rw} {W : World} (h : RTab B tw rs W) {q : Addr} (hq : q.block < B) (v : Value) : RTab B tw rs (W.setCell q v) := h.above fun k _ hk => Below.heap_setCell _ _ _ k (by omega)
theorem tab_bound {x : Nwk} {ct0 ct : List (List Int)} {j : Int} (h0 : ct0 = x.procs.map fun p => List.replicate p.letters.toNat (0 : Int)) (h : Shape ct0 ct j) (hr : Right x) (hj : j ≤ 1000000) : ∀ l ∈ ct, l.length ≤ 9223372036854775807 ∧ ∀ k ∈ l, I64 k := fun l hl => by
  refine ⟨?_, fun k hk => by have := h.num l hl k hk; unfold I64; omega⟩
  obtain ⟨i, hi, rfl⟩ := List.mem_iff_getElem.1 hl
  obtain ⟨l0, h1, h2⟩ := h.row i _ (List.getElem?_eq_getElem hi)
  rw [h0, List.getElem?_map, Option.map_eq_some_iff] at h1
  obtain ⟨p, h3, h4⟩ := h1
  have h5 := (check_zero (hr.proc i p h3)).2.2.1
  rw [h2, ← h4, List.length_replicate]
  omega
theorem tabL_app (rs : List Rw) (r : Rw) : tabL (rs ++ [r]) = tabL rs ++ [r.l] := by unfold tabL; rw [List.map_append]; rfl

set_option maxRecDepth 100000 in
set_option maxHeartbeats 4000000 in
theorem nrun_big (x : Nwk) (op : Option Addr) (cp : Nat) (os : Option Addr) (cs : Nat) (ow : Option Addr) (cw : Nat) (picks : List Int) (oP : Option Addr) (cP : Nat) (limit : Nat) (F : Foot) (w : World)
    (hp : SliceR prcR 3 F w op x.procs) (hs : SliceR intR 1 F w os x.state) (ht : SliceR (slcR intR 1) 1 F w ow x.waiting) (hz : netErr x = 0) (hpk : SliceR intR 1 F w oP picks) (hcP : picks.length ≤ cP) (hpz : picksErr picks = 0) (hl : limit ≤ 4000)
    (hfew : ∀ t ∈ x.waiting, ∀ k ∈ t, k ≤ 1000) :
    Calls Tryz.prog 13 #[.agg #[.slice op x.procs.length cp, .slice os x.state.length cs, .slice ow x.waiting.length cw], .slice oP picks.length cP, .int .i64 limit] w fun e w' => RunNet All w e w' (runX picks limit 0 x (x.procs.map fun p => List.replicate p.letters.toNat (0 : Int))) := by
  have hr := netErr_zero hz
  have hst := hr.nst
  have hwt := hr.nwt
  have hpl : 1 ≤ picks.length ∧ picks.length ≤ 4096 := by
    unfold picksErr at hpz
    split at hpz
    · cases hpz
    · split at hpz
      · cases hpz
      · omega
  have HNEG : Hid (∀ k ∈ picks, 0 ≤ k) := fun k hk => by
    unfold picksErr at hpz
    split at hpz
    · cases hpz
    · split at hpz
      · cases hpz
      · split at hpz
        · cases hpz
        · rename_i h3
          unfold negB at h3
          simp at h3
          exact h3 k hk
  obtain ⟨n, hn⟩ : ∃ n, n = x.procs.length := ⟨_, rfl⟩
  have h12 : 1 ≤ n ∧ n ≤ 12 := by rw [hn]; exact hr.n
  obtain ⟨W1, e1⟩ : ∃ W1, w.alloc (.cells #[.slice op n cp, .slice os n cs, .slice ow n cw] 26) = W1 := ⟨_, rfl⟩
  have bx1 : Box W1 w.heap.size [.slice op n cp, .slice os n cs, .slice ow n cw] 26 := by rw [← e1]; exact Box.new w [.slice op n cp, .slice os n cs, .slice ow n cw] 26
  have bb1 := bnew (Below.refl w.heap.size w) (.cells #[.slice op n cp, .slice os n cs, .slice ow n cw] 26)
  rw [e1] at bb1
  obtain ⟨W2, e2⟩ : ∃ W2, W1.alloc (.cells #[.slice none 0 0, .slice none 0 0, .slice none 0 0] 26) = W2 := ⟨_, rfl⟩
  have bx2 : Box W2 W1.heap.size [.slice none 0 0, .slice none 0 0, .slice none 0 0] 26 := by rw [← e2]; exact Box.new W1 [.slice none 0 0, .slice none 0 0, .slice none 0 0] 26
  have bb2 := bnew (Below.refl W1.heap.size W1) (.cells #[.slice none 0 0, .slice none 0 0, .slice none 0 0] 26)
  rw [e2] at bb2
  have bx1 := bx1.below bb2
  have hb2 := bb1.trans (bb2.mono bb1.size)
  have HC1 : Hid (∀ u, Below w.heap.size w u → Calls Tryz.prog 43 #[.agg #[.slice op n cp, .slice os n cs, .slice ow n cw]] u fun e w' => e = .returned (.int .i64 0) ∧ Below u.heap.size u w') := fun u h => by
    have := netCheck_any x.procs op cp x.state os cs x.waiting ow cw F u (hp.below prcR_ok h) (by have := hr.n.2; omega) (hs.below intR_ok h) (by have := hr.n.2; omega) (ht.below (slcR_ok intR_ok (by decide)) h) (by have := hr.n.2; omega)
    rw [hst, hwt, ← hn] at this
    rw [show netErr ⟨x.procs, x.state, x.waiting⟩ = 0 from hz] at this
    exact this
  have HC2 : Hid (∀ u, Below w.heap.size w u → Calls Tryz.prog 44 #[.slice oP picks.length cP] u fun e w' => e = .returned (.int .i64 0) ∧ u = w') := fun u h => by
    have := picked_any picks oP cP F u (hpk.below intR_ok h) hcP (by omega)
    rw [hpz] at this
    exact this
  have HPP := hide (hp.loc prcR_ok (by omega))
  have HSS := hide (hs.loc intR_ok (by omega))
  have HTT := hide (ht.loc (slcR_ok intR_ok (by decide)) (by omega))
  have HPK := hide (hpk.loc intR_ok (by omega))
  have HC3 : Hid (∀ u, Below w.heap.size w u → Calls Tryz.prog 45 #[.agg #[.slice op n cp, .slice os n cs, .slice ow n cw]] u fun e w' => ∃ (B0 K H p gs : Nat) (vp tw : Value) (rs : List Rw), e = .returned (.iface 147 (machV p)) ∧ u.heap.size ≤ B0 ∧ Mach (Lt w.heap.size) B0 K H p gs vp tw rs x w' ∧ Below u.heap.size u w') := fun u h => by
    rw [hn]
    exact nstart_any x op cp os cs ow cw (Lt w.heap.size) u (HPP.out.below prcR_ok h) (HSS.out.below intR_ok h) (HTT.out.below (slcR_ok intR_ok (by decide)) h) hr
  rw [hst, hwt, ← hn]
  have d0 := bx1.cell 0
  have d1 := bx1.cell 1
  have d2 := bx1.cell 2
  simp only [List.getElem?_cons_zero, List.getElem?_cons_succ] at d0 d1 d2
  have HX1 := hide bx1
  have HX2 := hide bx2
  have HB2 := hide hb2
  have HZ1 := hide bb1.size
  have HR := hide hr
  have HN := hide hn
  have HPL := hide hpl
  obtain ⟨np, hnp⟩ : ∃ m, m = picks.length := ⟨_, rfl⟩
  rw [← hnp] at HC2 hpl ⊢
  have HNP := hide hnp
  have hl0 : ¬ (limit : Int) < 0 := by omega
  have hl1 : ¬ (1048576 : Int) < limit := by omega
  clear hr hst hwt hn bx1 bx2 bb1 bb2 hb2 hp hs ht hz hpk hcP hpz hnp
  go_enter Tryz.func13, Tryz.ntmps13
  go_wp2_with (first
    | (go_at_call 43; refine (HC1.out _ HB2.out).mono ?_; rintro e w3 ⟨rfl, h3⟩; have HB3 := hide (HB2.out.trans (h3.mono HB2.out.size)); have x1 := HX1.out.below h3; have y1 := x1.cell 0; have y2 := x1.cell 1; have y3 := x1.cell 2; simp only [List.getElem?_cons_zero, List.getElem?_cons_succ] at y1 y2 y3; have HX3 := hide x1; have HX23 := hide (HX2.out.below h3); clear h3 x1)
    | (go_at_call 44; refine (HC2.out _ HB3.out).mono ?_; rintro e w4 ⟨rfl, rfl⟩)
    | (go_at_call 45; refine (HC3.out _ HB3.out).mono ?_; rintro e w4 ⟨B0, K, H, p, gs, vp, tw, rs, rfl, hB0, hM, h4⟩; have HM := hide hM; have HX2w := hide (HX23.out.below h4); have HW23 := hide (show w3.heap.size ≤ B0 from hB0); have x4 := HX3.out.below h4; have z0 := x4.cell 0; simp only [List.getElem?_cons_zero, List.getElem?_cons_succ] at z0; have HX4 := hide x4; have HB4 := hide (HB3.out.trans (h4.mono HB3.out.size)); clear hM x4))
  obtain ⟨Bc, hBc⟩ : ∃ Bc, Bc = w4.heap.size := ⟨_, rfl⟩
  have HBC := hide hBc
  clear hBc z0
  go_loopg [12, 43] n (fun gm tc iv wx => ∃ (i : Nat) (rcs : List Rw), i ≤ n ∧ gm = n - i ∧ iv = .int .i64 i ∧ Hid (RTab Bc tc rcs wx) ∧ Hid (tabL rcs = ((x.procs.take i).map fun p => List.replicate p.letters.toNat (0 : Int))) ∧ Hid (Below Bc w4 wx))
  case atStart => exact ⟨0, [], by omega, by omega, rfl, RTab.nil _ _, rfl, Below.refl _ _⟩
  case round =>
    obtain ⟨i, rcs, hi, hgm, rfl, HT, HTL, HB⟩ := hrel
    have HGM := hide hgm
    clear hgm
    have hbw : ∀ k, k < w.heap.size → wr.heap[k]? = w.heap[k]? := fun k hk => by
      have h1 := HB4.out.size
      rw [HB.out.block k (by have := HBC.out; omega)]
      exact HB4.out.block k hk
    have hBw : Bc ≤ wr.heap.size := by have := HB.out.size; have := HBC.out; omega
    by_cases hlt : i < n
    · obtain ⟨S, Le, rls, b7, off7, oR, cR, hd7, hpr, hoP, _, y0, y1, y2, iS, iL, hrc, _, _⟩ := (HPP.out.keep (w' := wr) prcR_ok (fun k hk _ => hbw k hk)).prc_at (i := i) (by have := HN.out; omega)
      subst hoP
      have hck := check_zero (HR.out.proc i _ hpr)
      simp only at hck
      obtain ⟨Ln, rfl⟩ := Int.eq_ofNat_of_zero_le (show (0 : Int) ≤ Le by omega)
      have hLn : 1 ≤ Ln ∧ Ln ≤ 8 := by omega
      obtain ⟨ot, ct_, htc, _⟩ := HT.out.len
      have hrl : rcs.length = i := by
        have := congrArg List.length HTL.out
        unfold tabL at this
        rw [List.length_map, List.length_map, List.length_take, Nat.min_eq_left (by have := HN.out; omega)] at this
        exact this
      rw [hrl] at htc
      subst htc
      have HLEN : Hid ((rcs.map Rw.val).length = i) := by show _ = _; rw [List.length_map]; exact hrl
      have HPR := hide hpr
      clear hd7 hpr hck hrc hrl iS
      have hrep := repeat_any 0 Ln 1 (some ⟨wr.heap.size + 1, 0, none⟩) All ((wr.alloc (.cells #[.int .i64 S, .int .i64 Ln, .slice oR rls.length cR] 89)).alloc (.cells #[.int .i64 0] 3)) (by unfold I64; omega) (by omega) (by have := zero_lit (wr.alloc (.cells #[.int .i64 S, .int .i64 Ln, .slice oR rls.length cR] 89)); rw [alloc_size'] at this; exact this)
      have HREP := hide hrep
      clear hrep
      go_wp2_with (first
        | (go_at_call 46; refine HREP.out.mono ?_
           rintro e w6 ⟨v6, rfl, h6, hb6⟩
           obtain ⟨gr, capr, rr, hv6, hgr, hcapr, _, hrow6, _⟩ := h6.row (by intro e; have := congrArg List.length e; simp at this; omega)
           rw [List.length_replicate] at hv6 hcapr
           subst hv6
           rw [alloc_size', alloc_size'] at hgr
           have hbw6 : Below wr.heap.size wr w6 := (bnew (bnew (Below.refl _ _) _) _).trans (hb6.mono (by rw [alloc_size', alloc_size']; omega))
           have HT6 := hide (HT.out.below hbw6)
           have HR6 := hide hrow6
           have HB6 := hide hbw6
           have hcr : Ln ≤ capr := by { omega }
           clear h6 hb6 hrow6 hcapr hbw6)
        | (at_builtin
           refine wpList_append_one rfl (.tmp 47) (.tmp 52) 24 rfl Bc 23 _ 1 24 Tryz.underlying24 tabInfoN rfl (by decide) valR_ok (.slice ot i ct_) (rcs.map Rw.val) (by simp [Act.eval, Act.put]) (OwnS.new valR_ok HT6.out.tab _) ⟨_, 0, none⟩ 1 [.slice (some ⟨gr, 0, none⟩) Ln capr] (.slice (some ⟨gr, 0, none⟩) Ln capr) (by simp [Act.eval, Act.put]) (World.news_of_block (heap_alloc_new _ _)) ⟨rfl, rfl⟩ (by rw [HLEN.out]; omega) (by rw [HLEN.out]; unfold maxLen; omega) (by rw [alloc_size']; have := HB6.out.size; omega) (fun v' w8 ho hb8 hg8 => ?_)
           have HO8 := hide ho
           have HB8 := hide hb8
           have HG8 := hide hg8
           clear ho hb8 hg8))
      go_roundg (n - (i + 1))
      case measure => have := HGM.out; omega
      case rel =>
        have hs6 := HB6.out.size
        have hlt6 := HR6.out.lt
        have hpush := HT.out.push (r := ⟨gr, capr, List.replicate Ln 0, rr⟩) (W' := w8) (by unfold Rw.val slV; rw [List.length_replicate]; exact HO8.out)
          (fun k hk hne => (HG8.out.block k (by rw [alloc_size']; omega) hne).trans ((Below.heap_alloc w6 _ k (by omega)).trans (HB6.out.block k hk)))
          (HR6.out.keep ((HG8.out.block gr (by rw [alloc_size']; omega) (fun e => by obtain ⟨cur, hcur⟩ := own_heap HT6.out.tab e.symm; exact ne_type HR6.out hcur (by decide) rfl)).trans (Below.heap_alloc w6 _ gr hlt6))) (by simp only; omega) hBw (by simp only [List.length_replicate]; exact hcr)
        refine ⟨i + 1, _, by omega, rfl, by go_num, hpush, ?_, ?_⟩
        · show _ = _
          rw [tabL_app, HTL.out, List.take_add_one, HPR.out]
          simp
        · exact ((HB.out.trans (HB6.out.mono hBw)).alloc (by omega) _).trans HB8.out
    · have hie : i = n := by omega
      subst hie
      have hM0 : Mach (Lt w.heap.size) B0 K H p gs vp tw rs x wr := HM.out.below (by rw [← HBC.out]; exact HB.out)
      have HM0 := hide hM0
      clear hM0
      have hmv := methMv
      have hmk := methMk
      have hnw := methNw
      have hl8 : ∀ y : Nwk, Right y → y.procs = x.procs → y.waiting.length ≤ 12 ∧ ∀ l ∈ y.waiting, l.length ≤ 8 := fun y hy he => by
        refine ⟨by rw [hy.nwt]; exact hy.n.2, fun l hl => ?_⟩
        obtain ⟨j, hj, rfl⟩ := List.mem_iff_getElem.1 hl
        obtain ⟨l', h1, h2⟩ := hy.row (p := j) (by rw [← hy.nwt]; exact hj)
        rw [List.getElem?_eq_getElem hj] at h1
        injection h1 with h1
        rw [h1, h2]
        exact (hy.letters j (by rw [← hy.nwt]; exact hj)).2
      have HL8 := hide hl8
      have HMV := hide (nmoves_any HM0.out (hl8 x HR.out rfl).1 (hl8 x HR.out rfl).2)
      clear hl8
      go_wp2_with (go_at_call 198; refine HMV.out.mono ?_; rintro e w5 ⟨v5, rfl, h5, hb5⟩; obtain ⟨o5, c5, hv5, _, _⟩ := h5.slice mvR_ok; subst hv5; have HO5 := hide h5; have HB5 := hide hb5; clear h5 hb5)
      obtain ⟨oc, cc, htc, _⟩ := HT.out.len
      subst htc
      have hct0 : tabL rcs = x.procs.map fun p => List.replicate p.letters.toNat (0 : Int) := by
        have := HTL.out
        rw [List.take_of_length_le (by have := HN.out; omega)] at this
        exact this
      obtain ⟨ct0, hc0⟩ : ∃ ct0, ct0 = x.procs.map fun p => List.replicate p.letters.toNat (0 : Int) := ⟨_, rfl⟩
      rw [← hc0] at hct0
      have HCT0 := hide hct0
      have HC0 := hide hc0
      have hsh0 : Shape ct0 ct0 0 := ⟨rfl, fun j l hj => ⟨l, hj, rfl⟩, fun l hl z hz => by
        rw [hc0] at hl
        obtain ⟨p, _, rfl⟩ := List.mem_map.1 hl
        have := List.eq_of_mem_replicate hz
        omega⟩
      have HSH0 := hide hsh0
      have hB0c : B0 ≤ Bc := by have h1 := HM.out.low; have h2 := HM.out.sts.lt; have := HBC.out; omega
      have hwr : Bc ≤ wr.heap.size := hBw
      have HT5 : Hid (RTab Bc (.slice oc rcs.length cc) rcs w5) := HT.out.below HB5.out
      have HM5 : Hid (Mach (Lt w.heap.size) B0 K H p gs vp tw rs x w5) := HM0.out.below HB5.out
      have HBB5 : Hid (Below B0 w4 w5) := (HB.out.mono hB0c).trans (HB5.out.mono (by omega))
      have HO6 : Hid (OwnS mvR 2 Bc 80 Non w5 (.slice o5 (movesS x.waiting).length c5) (movesS x.waiting)) := HO5.out.rebase hwr
      obtain ⟨nc, hnc⟩ : ∃ m, m = rcs.length := ⟨_, rfl⟩
      have HNC := hide hnc
      rw [← hnc] at HT5 ⊢
      clear hct0 hc0 hsh0 hnc
      go_loopg [15, 16] limit (fun gm jv lv wx => ∃ (j : Nat) (y : Nwk) (ct : List (List Int)) (rs' rcs' : List Rw) (o6 : Option Addr) (c6 : Nat), j ≤ limit ∧ gm = limit - j ∧ jv = .int .i64 j ∧ lv = .slice o6 (movesS y.waiting).length c6 ∧
        Hid (runX picks (limit - j) j y ct = runX picks limit 0 x ct0) ∧ Hid (Right y ∧ y.procs = x.procs ∧ ∀ t ∈ y.waiting, ∀ z ∈ t, z ≤ 1000 + 16 * j) ∧ Hid (Mach (Lt w.heap.size) B0 K H p gs vp tw rs' y wx) ∧ Hid (rs'.map (·.g) = rs.map (·.g)) ∧ Hid (RTab Bc (.slice oc nc cc) rcs' wx) ∧ Hid (tabL rcs' = ct) ∧ Hid (Shape ct0 ct j) ∧
        Hid (OwnS mvR 2 Bc 80 Non wx (.slice o6 (movesS y.waiting).length c6) (movesS y.waiting)) ∧ Hid (Below B0 w4 wx))
      case atStart => exact ⟨0, x, ct0, rs, rcs, o5, c5, by omega, by omega, rfl, rfl, rfl, ⟨HR.out, rfl, fun t ht z hz => by have := hfew t ht z hz; omega⟩, HM5.out, rfl, HT5.out, HCT0.out, HSH0.out, HO6.out, HBB5.out⟩
      case round =>
        obtain ⟨j, y, ct, rs', rcs', o6, c6, hj, hgm, rfl, rfl, HRX, HRY, HMy, HRG, HTy, HTLy, HSHy, HOy, HBy⟩ := hrel
        have HGM := hide hgm
        clear hgm
        obtain ⟨ml, hml⟩ : ∃ m, m = (movesS y.waiting).length := ⟨_, rfl⟩
        have HML := hide hml
        rw [← hml]
        clear hml
        have hpo : W1.heap.size < B0 := by have h2 := HX23.out.lt; have h3 := HW23.out; omega
        have hres : Box wr W1.heap.size [.slice none 0 0, .slice none 0 0, .slice none 0 0] 26 := HX2w.out.keep (HBy.out.block _ hpo)
        have r0 := hres.cell 0
        have r1 := hres.cell 1
        have r2 := hres.cell 2
        have rf := hres.free
        simp only [List.getElem?_cons_zero, List.getElem?_cons_succ] at r0 r1 r2
        have HRES := hide hres
        clear hres
        by_cases hme : 0 < ml
        · by_cases hjl : j = limit
          · have HNO : Hid (runX picks limit 0 x ct0 = none) := by
              show _ = _
              rw [← HRX.out, hjl, Nat.sub_self]
              unfold runX
              rw [if_neg]
              intro e
              have e2 := List.isEmpty_iff.1 e
              have h9 := HML.out
              rw [e2, List.length_nil] at h9
              omega
            have q1 : (((j : Nat) : Int) == ((limit : Nat) : Int)) = true := by simp [hjl]
            have q0 : (0 : Int) < ml := by omega
            clear hjl
            have hp1 : w.heap.size ≤ W1.heap.size := HZ1.out
            have hbw4 : Below w.heap.size w wr := HB4.out.trans (HBy.out.mono (by omega))
            go_wp2_with fail
            have hfin := ((HRES.out.put 0 (.slice none 0 0)).put 1 (.slice none 0 0)).put 2 (.slice none 0 0)
            simp only [List.set_cons_zero, List.set_cons_succ] at hfin
            refine bodyPost_ret (results_cell_tmp2_row rfl _ _ W1.heap.size 26 _ (0, 0) _ rfl hfin Tryz.underlying26 rfl (by kernel_rfl)) rfl ?_
            rw [← HC0.out, HNO.out]
            exact ⟨rfl, ((hbw4.setCell hp1 _).setCell hp1 _).setCell hp1 _⟩
          · obtain ⟨hRy, hpy, hby⟩ := HRY.out
            have q1 : (((j : Nat) : Int) == ((limit : Nat) : Int)) = false := by simp; omega
            have q0 : (0 : Int) < ml := by omega
            have hbw4 : Below w.heap.size w wr := HB4.out.trans (HBy.out.mono (by have := HZ1.out; omega))
            obtain ⟨A, hA⟩ : ∃ A, A = j % np := ⟨_, rfl⟩
            have hAl : A < np := by rw [hA]; exact Nat.mod_lt _ (by omega)
            have rem1 : ((j : Int)).tmod (np : Int) = (A : Int) := by rw [hA, Int.tmod_eq_emod_of_nonneg (by omega)]; rfl
            obtain ⟨Yi, _, hYg, _, bP, offP, hoP, _, cY⟩ := (HPK.out.below intR_ok hbw4).int_at (i := A) (by rw [← HNP.out]; exact hAl)
            subst hoP
            obtain ⟨Y, rfl⟩ := Int.eq_ofNat_of_zero_le (HNEG.out Yi (List.mem_of_getElem? hYg))
            obtain ⟨J, hJ⟩ : ∃ J, J = Y % ml := ⟨_, rfl⟩
            have hJl : J < ml := by rw [hJ]; exact Nat.mod_lt _ hme
            have rem2 : ((Y : Int)).tmod (ml : Int) = (J : Int) := by rw [hJ, Int.tmod_eq_emod_of_nonneg (by omega)]; rfl
            obtain ⟨oz, cz, hz1, hz2, hz3⟩ := HOy.out.slice mvR_ok
            injection hz1 with hz1 hz4 hz5
            subst hz1 hz5
            rw [← HML.out] at hz2
            obtain ⟨mp, ma, hmg, bl, offm, hom, _, cm0, cm1⟩ := hz3.mv_at (i := J) (by rw [← HML.out]; exact hJl)
            subst hom
            have HPS : Hid (pickS picks (movesS y.waiting) j = (mp, ma)) := by
              show _ = _
              unfold pickS
              rw [← HNP.out, ← HML.out, ← hA, getD_some hYg, Int.toNat_natCast, ← hJ, getD_some hmg]
            obtain ⟨l, z, hl, hz, hz0⟩ := mem_moves (List.mem_of_getElem? hmg)
            have hmk0 := moveX_right hRy hl hz hz0 hby (by omega)
            have HMK0 := hide hmk0
            obtain ⟨W6, e6⟩ : ∃ W6, wr.alloc (.cells #[.int .i64 mp, .int .i64 ma] 80) = W6 := ⟨_, rfl⟩
            have bx6 : Box W6 wr.heap.size [.int .i64 mp, .int .i64 ma] 80 := by rw [← e6]; exact Box.new wr [.int .i64 mp, .int .i64 ma] 80
            have bb6 := bnew (Below.refl wr.heap.size wr) (.cells #[.int .i64 mp, .int .i64 ma] 80)
            rw [e6] at bb6
            have HMK := hide (nmake_any (HMy.out.below bb6) hRy hl hz hz0 (fun t ht k hk => by have := hby t ht k hk; omega))
            have HBX6 := hide bx6
            have HBB6 := hide bb6
            have k60 := bx6.cell 0
            have k61 := bx6.cell 1
            simp only [List.getElem?_cons_zero, List.getElem?_cons_succ] at k60 k61
            have HLZ := hide (And.intro hl (And.intro hz hz0))
            clear hYg hA hJ hz3 hz4 hmg hmk0 bx6 bb6 hl hz hRy hpy hby
            go_wp2_with (go_at_call 197; refine HMK.out.mono ?_; rintro e w7 ⟨rfl, rs2, hM7, hg7, hk7⟩; have HM7 := hide hM7; have HG7 := hide hg7; have HK7 := hide hk7; clear hM7 hg7 hk7)
            obtain ⟨hl, hz, hz0⟩ := HLZ.out
            obtain ⟨hRn, hbn, hpn⟩ := HMK0.out
            have hB4 : Bc = w4.heap.size := HBC.out
            have hpB : p < Bc := by rw [hB4]; exact HM.out.main.lt
            have hgs : gs < Bc := by have := HM.out.low; omega
            have htB : ∀ g, tw.ownBlock = some g → g < Bc := fun g hg => by rw [hB4]; exact (HM.out.tab.tab.block g hg).2
            have hrs0 : ∀ r ∈ rs, r.g < Bc := fun r hr => by rw [hB4]; exact (HM.out.tab.row r hr).1.lt
            have hgB : ∀ {rz : List Rw}, rz.map (·.g) = rs.map (·.g) → ∀ r ∈ rz, r.g < Bc := fun {rz} he r hr => by
              have h1 : r.g ∈ rz.map (·.g) := List.mem_map.2 ⟨r, hr, rfl⟩
              rw [he] at h1
              obtain ⟨r0, h2, h3⟩ := List.mem_map.1 h1
              rw [← h3]
              exact hrs0 r0 h2
            have hw6 : wr.heap.size ≤ W6.heap.size := HBB6.out.size
            have hBcr : Bc ≤ wr.heap.size := by rw [hB4]; exact HBy.out.size
            have fix7 : ∀ k, k < W6.heap.size → Bc ≤ k → w7.heap[k]? = W6.heap[k]? := fun k hk hk2 => HK7.out.fix k hk (by omega) fun r hr => by have := hgB HRG.out r hr; omega
            have hT7 : RTab Bc (.slice oc nc cc) rcs' w7 := (HTy.out.below HBB6.out).above fix7
            have hX7 : Box w7 wr.heap.size [.int .i64 mp, .int .i64 ma] 80 := HBX6.out.keep (fix7 _ HBX6.out.lt hBcr)
            have hO7 : Hid (Below B0 w4 w7) := HBy.out.trans ((HBB6.out.mono (by omega)).trans HK7.out.low)
            -- the count
            have hmpn : mp < y.waiting.length := (List.getElem?_eq_some_iff.1 hl).1
            have hmpl : mp < ct.length := by
              rw [HSHy.out.len, HC0.out, List.length_map, ← HRY.out.2.1, ← HRY.out.1.nwt]
              exact hmpn
            obtain ⟨cl, hcl⟩ : ∃ cl, ct[mp]? = some cl := ⟨_, List.getElem?_eq_getElem hmpl⟩
            have hcll : cl.length = l.length := by
              obtain ⟨l0, h1, h2⟩ := HSHy.out.row mp cl hcl
              rw [HC0.out, List.getElem?_map, Option.map_eq_some_iff] at h1
              obtain ⟨pr, h3, h4⟩ := h1
              have h5 := HRY.out.1.wl mp l pr hl (by rw [HRY.out.2.1]; exact h3)
              rw [h2, ← h4, List.length_replicate]
              omega
            have hmal : ma < cl.length := by rw [hcll]; exact (List.getElem?_eq_some_iff.1 hz).1
            obtain ⟨zc, hzc⟩ : ∃ zc, cl[ma]? = some zc := ⟨_, List.getElem?_eq_getElem hmal⟩
            have hzcb := HSHy.out.num cl (List.mem_of_getElem? hcl) zc (List.mem_of_getElem? hzc)
            obtain ⟨r, hr, hrl⟩ : ∃ r, rcs'[mp]? = some r ∧ r.l = cl := by
              have h1 := hcl
              rw [← HTLy.out] at h1
              unfold tabL at h1
              rw [List.getElem?_map, Option.map_eq_some_iff] at h1
              exact h1
            obtain ⟨gc, capc, htc, hcc, hBg, c0, hrow7, hBr, hrc, hrne⟩ := hT7.get hr
            injection htc with htc htn htcap
            subst htc htcap
            rw [hrl] at c0 hrow7 hrc
            have c1 := hrow7.cell (i := ma) (x := zc) hzc
            have f1 := hrow7.free ma
            have k70 := hX7.cell 0
            have k71 := hX7.cell 1
            simp only [List.getElem?_cons_zero, List.getElem?_cons_succ] at k70 k71
            have hmpc : mp < nc := by
              have h1 := (List.getElem?_eq_some_iff.1 hr).1
              omega
            have HT7 := hide hT7
            have HCT := hide (And.intro hcl (And.intro hzc (And.intro hr hrl)))
            have HROW7 := hide hrow7
            obtain ⟨cn, hcn⟩ : ∃ cn, cn = cl.length := ⟨_, rfl⟩
            rw [← hcn] at hmal
            unfold slV at c0
            rw [← hcn] at c0 hrc
            have l0 := World.block_lt_of_cell? _ _ c0
            have l1 := World.block_lt_of_cell? _ _ c1
            have l2 := World.block_lt_of_cell? _ _ k70
            simp only at l0 l1 l2
            have HCN := hide hcn
            have HCLL := hide hcll
            have HMAL := hide hmal
            have HMMM := hide (And.intro hRn (And.intro hbn hpn))
            have HGS := hide (And.intro hpB (And.intro htB (And.intro (@hgB) (And.intro hBr hBcr))))
            have hcn8 : cn ≤ 8 := by
              rw [hcn, hcll]
              have h1 := (HL8.out y HRY.out.1 HRY.out.2.1).2 l (List.mem_of_getElem? hl)
              exact h1
            clear hl hz hz0 hRn hbn hpn hgB hrs0 htB hT7 hX7 fix7 hcl hcll hzc hr hrl hrow7 hcn hmpl hmpn htn hcc hBg hBr hrne hB4 hpB hgs hw6 hBcr
            go_wp2_with fail
            go_region
            obtain ⟨W8, e8⟩ : ∃ W8, (w7.setCell ⟨r.g, ma, none⟩ (.int .i64 (zc + 1))).drew = W8 := ⟨_, rfl⟩
            obtain ⟨hcl, hzc, hr, hrl⟩ := HCT.out
            obtain ⟨hpB, htB, hgB, hBr, hBcr⟩ := HGS.out
            obtain ⟨hRn, hbn, hpn⟩ := HMMM.out
            have hrg2 : rs2.map (·.g) = rs.map (·.g) := HG7.out.trans HRG.out
            have HM8 : Hid (Mach (Lt w.heap.size) B0 K H p gs vp tw rs2 (moveX y mp ma) W8) := by
              show Mach _ _ _ _ _ _ _ _ _ _ _
              refine HM7.out.keepC hpB htB (hgB hrg2) fun k hk => ?_
              rw [← e8]
              exact Below.heap_setCell _ _ _ k (by simp only; omega)
            have HT8 : Hid (RTab Bc (.slice (some ⟨gc, 0, none⟩) nc cc) (rwSet rcs' mp (cl.set ma (zc + 1))) W8) := by
              show RTab _ _ _ _
              rw [← e8]
              have := HT7.out.put hr (k := ma) (by rw [hrl, ← HCN.out]; exact HMAL.out) (zc + 1)
              rw [hrl] at this
              exact this.draw
            have hb78 : Below Bc w7 W8 := by rw [← e8]; exact ((Below.refl _ _).setCell hBr _).drew
            have h78 : w7.heap.size = W8.heap.size := by rw [← e8]; simp
            have HO8 : Hid (Below B0 w4 W8) := hO7.out.trans (hb78.mono hB0c)
            have HMV2 := hide (nmoves_any HM8.out (HL8.out _ hRn (hpn.trans HRY.out.2.1)).1 (HL8.out _ hRn (hpn.trans HRY.out.2.1)).2)
            have HS78 : Hid (Bc ≤ W8.heap.size) := by
              show _ ≤ _
              have h1 := HK7.out.size
              have h2 := HBB6.out.size
              omega
            rw [e8]
            clear e8 c0 c1 f1 k70 k71 l0 l1 l2 hcl hzc hr hrl hpB htB hgB hBr hBcr hRn hbn hpn hrg2 hb78 h78
            go_wp2_with (go_at_call 198; refine HMV2.out.mono ?_; rintro e w9 ⟨v9, rfl, h9, hb9⟩; obtain ⟨o9, c9, hv9, _, _⟩ := h9.slice mvR_ok; subst hv9; have HO9 := hide h9; have HB9 := hide hb9; clear h9 hb9)
            go_roundg (limit - (j + 1))
            case measure => have := HGM.out; omega
            case rel =>
              obtain ⟨hcl, hzc, hr, hrl⟩ := HCT.out
              obtain ⟨hRn, hbn, hpn⟩ := HMMM.out
              have hne : ¬ (movesS y.waiting).isEmpty = true := fun e => by
                have e2 := List.isEmpty_iff.1 e
                have h9 := HML.out
                rw [e2, List.length_nil] at h9
                omega
              refine ⟨j + 1, moveX y mp ma, bump ct mp ma 1, rs2, _, o9, c9, by omega, rfl, by go_num, rfl, ?_, ⟨hRn, hpn.trans HRY.out.2.1, fun t ht k hk => by have := hbn t ht k hk; push_cast; omega⟩, HM8.out.below HB9.out, HG7.out.trans HRG.out, HT8.out.below HB9.out, ?_, ?_, HO9.out.rebase HS78.out, HO8.out.trans (HB9.out.mono (by have := HS78.out; omega))⟩
              · show _ = _
                rw [← HRX.out, show limit - j = (limit - (j + 1)) + 1 from by omega, runX, if_neg hne, HPS.out]
              · show _ = _
                rw [tabL_set, HTLy.out, bump_eq hcl hzc]
              · show Shape _ _ _
                rw [bump_eq hcl hzc]
                have hz9 := HSHy.out.num cl (List.mem_of_getElem? hcl) zc (List.mem_of_getElem? hzc)
                exact HSHy.out.put (by push_cast; omega) hcl (by rw [← HCN.out]; exact HMAL.out) (by push_cast; omega)
        · have hme0 : movesS y.waiting = [] := List.length_eq_zero_iff.1 (by have := HML.out; omega)
          have HYE : Hid (runX picks limit 0 x ct0 = some (y, ct)) := by
            show _ = _
            rw [← HRX.out]
            cases (limit - j) <;> (unfold runX; rw [if_pos (by simp [hme0])])
          have q0 : ¬ (0 : Int) < ml := by omega
          have HNN := hide (nnet_any HMy.out)
          obtain ⟨oV, cV, hvp, _, _⟩ := HMy.out.procs.slice prcR_ok
          obtain ⟨oT, cT, htw, _⟩ := HMy.out.tab.len
          subst hvp htw
          have hp1 : w.heap.size ≤ W1.heap.size := HZ1.out
          have hbw4 : Below w.heap.size w wr := HB4.out.trans (HBy.out.mono (by omega))
          obtain ⟨nv, hnv⟩ : ∃ m, m = y.procs.length := ⟨_, rfl⟩
          obtain ⟨nt, hnt⟩ : ∃ m, m = rs'.length := ⟨_, rfl⟩
          have HNV := hide hnv
          have HNT := hide hnt
          rw [← hnv, ← hnt] at HNN
          clear hme hme0 hnv hnt
          go_wp2_with (go_at_call 199; refine HNN.out.mono ?_; rintro e w7 ⟨rfl, hb7⟩; have HB7 := hide hb7; have hr7 := HRES.out.below hb7; have HRES7 := hide hr7; have t0 := hr7.cell 0; have t1 := hr7.cell 1; have t2 := hr7.cell 2; have tf := hr7.free; simp only [List.getElem?_cons_zero, List.getElem?_cons_succ] at t0 t1 t2; clear hb7 hr7 r0 r1 r2 rf)
          have hO : ¬ Lt w.heap.size W1.heap.size := by unfold Lt; omega
          have hfin := ((HRES7.out.put 0 (.slice oV nv cV)).put 1 (.slice (some ⟨gs, 0, none⟩) nv nv)).put 2 (.slice oT nt cT)
          simp only [List.set_cons_zero, List.set_cons_succ] at hfin
          have hM8 := (((HMy.out.below HB7.out).away (q := ⟨W1.heap.size, 0, none⟩) hpo hO (.slice oV nv cV)).away (q := ⟨W1.heap.size, 1, none⟩) hpo hO (.slice (some ⟨gs, 0, none⟩) nv nv)).away (q := ⟨W1.heap.size, 2, none⟩) hpo hO (.slice oT nt cT)
          have hpc : W1.heap.size < Bc := by omega
          have hT8 := (((HTy.out.below HB7.out).away (q := ⟨W1.heap.size, 0, none⟩) hpc (.slice oV nv cV)).away (q := ⟨W1.heap.size, 1, none⟩) hpc (.slice (some ⟨gs, 0, none⟩) nv nv)).away (q := ⟨W1.heap.size, 2, none⟩) hpc (.slice oT nt cT)
          have hb8 : Below w.heap.size w w7 := hbw4.trans (HB7.out.mono hbw4.size)
          refine bodyPost_ret (results_cell_tmp2_row rfl _ _ W1.heap.size 26 _ (0, 0) _ rfl hfin Tryz.underlying26 rfl (by kernel_rfl)) rfl ?_
          rw [← HC0.out, HYE.out]
          have hbd := tab_bound HC0.out HSHy.out HR.out (by omega)
          obtain ⟨oa, cap, e1, e2, e3⟩ := hT8.slices fun r hr => hbd r.l (by rw [← HTLy.out]; exact List.mem_map.2 ⟨r, hr, rfl⟩)
          injection e1 with e1 e4 e5
          subst e1 e5
          rw [HTLy.out] at e2 e3 e4
          refine ⟨_, oc, cc, ?_, hM8.netAt HRY.out.1, e2, e3.all (slcR_ok intR_ok (by decide)) (by decide), ((hb8.setCell hp1 _).setCell hp1 _).setCell hp1 _⟩
          rw [HNV.out, HNT.out, ← e4]
          rfl

theorem nrun_any (x : Nwk) (op : Option Addr) (cp : Nat) (os : Option Addr) (cs : Nat) (ow : Option Addr) (cw : Nat) (picks : List Int) (oP : Option Addr) (cP : Nat) (limit : Nat) (F : Foot) (w : World)
    (hp : SliceR prcR 3 F w op x.procs) (hs : SliceR intR 1 F w os x.state) (ht : SliceR (slcR intR 1) 1 F w ow x.waiting) (hz : netErr x = 0) (hpk : SliceR intR 1 F w oP picks) (hcP : picks.length ≤ cP) (hpz : picksErr picks = 0) (hl : limit ≤ 4000)
    (hfew : ∀ t ∈ x.waiting, ∀ k ∈ t, k ≤ 40) :
    Calls Tryz.prog 13 #[.agg #[.slice op x.procs.length cp, .slice os x.state.length cs, .slice ow x.waiting.length cw], .slice oP picks.length cP, .int .i64 limit] w fun e w' => RunNet All w e w' (runX picks limit 0 x (x.procs.map fun p => List.replicate p.letters.toNat (0 : Int))) :=
  nrun_big x op cp os cs ow cw picks oP cP limit F w hp hs ht hz hpk hcP hpz hl fun t ht k hk => by
    have := hfew t ht k hk
    omega

end Go.Proofs.YtnigfddanoaonaaGreat

set_option linter.unusedVariables false
set_option linter.unusedSimpArgs false
set_option linter.unnecessarySimpa false
namespace Go.Proofs.YtnigfddanoaonaaGreat
open Go.RowKit

/-- A list of the call's own is put behind: 'out = append(out, row)'. -/
theorem Lists.push {base s0 : Nat} {e lt : TypeId} {w w1 w' : World} {ov ov' v : Value} {vs : List Value} {xss : List (List Int)} {xs : List Int} (h : Lists base e lt w ov vs xss) (hs : w.heap.size = s0) (hb : base ≤ s0) (hb1 : Below s0 w w1) (hv : OwnN s0 e w1 v xs) {o : Obj}
    (hr : w'.ownsRow base lt 1 ov' (vs.length + 1) (vs ++ [v])) (hg : (w1.alloc o).grownBy w' ov.ownBlock)
    (hat : ov'.ownBlock = ov.ownBlock ∨ ov'.ownBlock = some (w1.alloc o).heap.size) : Lists base e lt w' ov' (vs ++ [v]) (xss ++ [xs]) := by
  have hsz := hb1.size
  have key : ∀ (i : Nat) (u : Value), (vs ++ [v])[i]? = some u → (i < vs.length ∧ vs[i]? = some u) ∨ (i = vs.length ∧ u = v) := fun i u hi => by
    rcases Nat.lt_or_ge i vs.length with hj | hj
    · rw [List.getElem?_append_left hj] at hi; exact .inl ⟨hj, hi⟩
    · rw [List.getElem?_append_right hj] at hi
      have h1 := (List.getElem?_eq_some_iff.1 hi).1
      simp at h1
      have : i = vs.length := by omega
      subst this
      simp at hi
      exact .inr ⟨rfl, hi.symm⟩
  have hold : ∀ (i : Nat) (u : Value) (k : Nat), vs[i]? = some u → u.ownBlock = some k → base ≤ k ∧ k < s0 := fun i u k hi hk => by have := h.ms.block hi k hk; omega
  have hovl : ∀ k, ov.ownBlock = some k → k < s0 := fun k hk => by have := (h.row.lt k hk).2; omega
  refine ⟨by rw [List.length_append]; exact hr, ⟨by simp [h.len], fun i u ys hu hy => ?_, fun i j u t k hu ht hku hkt => ?_⟩, fun i u k hi hk he => ?_⟩
  · rcases key i u hu with ⟨a1, a2⟩ | ⟨a1, a2⟩
    · rw [List.getElem?_append_left (by rw [← h.len]; exact a1)] at hy
      refine (h.ms.own i u ys a2 hy).keep fun g hgu => ?_
      have hgl := hold i u g a2 hgu
      rw [hg.block g (by simp; omega) (fun he => h.off i u g a2 hgu he.symm), Below.heap_alloc w1 o g (by omega)]
      exact hb1.block g hgl.2
    · subst a1 a2
      rw [List.getElem?_append_right (by rw [← h.len]; exact Nat.le_refl _), h.len, Nat.sub_self] at hy
      simp at hy
      subst hy
      refine (hv.rebase hb).keep fun g hgu => ?_
      have hgl := hv.block g hgu
      rw [hg.block g (by simp; omega) (fun he => by have := hovl g he.symm; omega), Below.heap_alloc w1 o g (by omega)]
  · rcases key i u hu with ⟨a1, a2⟩ | ⟨a1, a2⟩ <;> rcases key j t ht with ⟨b1, b2⟩ | ⟨b1, b2⟩
    · exact h.ms.apart i j u t k a2 b2 hku hkt
    · subst b2
      have := hold i u k a2 hku
      have := hv.block k hkt
      omega
    · subst a2
      have := hold j t k b2 hkt
      have := hv.block k hku
      omega
    · rw [a1, b1]
  · rcases key i u hi with ⟨a1, a2⟩ | ⟨a1, a2⟩
    · rcases hat with ha | ha
      · exact h.off i u k a2 hk (ha ▸ he)
      · rw [ha] at he
        injection he with he
        have := hold i u k a2 hk
        simp at he
        omega
    · subst a2
      have hkl := hv.block k hk
      rcases hat with ha | ha
      · rw [ha] at he
        have := hovl k he
        omega
      · rw [ha] at he
        injection he with he
        simp at he
        omega

/-- To which vertex each half-edge in the lists leads. -/
def tgL (ar : List (List Int)) (E : List (Int × Int)) : List (List Int) := ar.map fun l => l.map fun x => hv E (oppH x.toNat)

def TgPost (w : World) (t : List (List Int)) (e : Ending) (w' : World) : Prop := ∃ ot c, e = .returned (.slice ot t.length c) ∧ t.length ≤ c ∧ SliceR (slcR intR 1) 1 All w' ot t ∧ Below w.heap.size w w'

end Go.Proofs.YtnigfddanoaonaaGreat

set_option linter.unusedVariables false
set_option linter.unusedSimpArgs false
set_option linter.unnecessarySimpa false
namespace Go.Proofs.YtnigfddanoaonaaGreat
open Go.RowKit

/-- The results of Step. -/
def stepResR (n : Int) (es : List Edg) (f : List Nat) (ar : List (List Int)) (q : Int) (rot : List Int) (v : Int) : List Int × Int × Int :=
  if stE n es f ar q rot v = 0 then (if v = q then ([], 0, 15) else (stpR ar rot v.toNat, ((stpV ar (endsL es) rot v.toNat : Nat) : Int), 0)) else ([], 0, stE n es f ar q rot v)
def StepRes (w : World) (x : List Int × Int × Int) (e : Ending) (w' : World) : Prop := ∃ rv, e = .returned (.tuple #[rv, .int .i64 x.2.1, .int .i64 x.2.2]) ∧ OwnS intR 1 w.heap.size 3 Non w' rv x.1 ∧ Below w.heap.size w w'

theorem Brd.own {B : Nat} {w : World} {p rg cap : Nat} {tv : Value} {q : Int} {av : Value} {tl rot : List Int} {rest : List Value} (h : Brd B w p rg cap tv q av tl rot rest) (hx : ∀ x ∈ rot, I64 x) :
    OwnS intR 1 B 3 Non w (.slice (some ⟨rg, 0, none⟩) rot.length cap) rot := h.row.ownInts hx h.gB h.len h.max
theorem RtOk.i64 {n : Int} {es : List Edg} {ar : List (List Int)} {q : Nat} {rot : List Int} (h : RtOk n es ar q rot) : ∀ x ∈ rot, I64 x := by
  intro x hx
  obtain ⟨i, hi, rfl⟩ := List.getElem_of_mem hx
  have hia : i < ar.length := by rw [← h.nrot]; exact hi
  have h1 := h.rots i _ _ (List.getElem?_eq_getElem hi) (List.getElem?_eq_getElem hia)
  have h2 := (h.rows i _ (List.getElem?_eq_getElem hia)).1
  have h3 := h.cap
  unfold I64
  by_cases e : i = q
  · have := h1.2.1 e; omega
  · have := h1.2.2 e; omega

end Go.Proofs.YtnigfddanoaonaaGreat

set_option linter.unusedVariables false
set_option linter.unusedSimpArgs false
set_option linter.unnecessarySimpa false
namespace Go.Proofs.YtnigfddanoaonaaGreat
open Go.RowKit

section
variable (n : Int) (es : List Edg) (oe : Option Addr) (c : Nat) (ar : List (List Int)) (oa : Option Addr) (ca : Nat) (F G : Foot) (w : World) (hs : SliceR edgR 3 F w oe es) (hc : es.length ≤ c) (hc2 : es.length ≤ 1000)
    (ha : SliceR (slcR intR 1) 1 G w oa ar) (hac : ar.length ≤ ca) (hac2 : ar.length ≤ 9223372036854775807) (f : List Nat) (hU : Hid (gErr n es = 0 → Uf f (eL es)))
    (q : Int) (rot : List Int) (ot : Option Addr) (ct : Nat) (H : Foot) (hr : SliceR intR 1 H w ot rot) (hrc : rot.length ≤ ct) (hrl : rot.length ≤ 9223372036854775807)
include hs hc hc2 ha hac hac2 hU hr hrc hrl

end

end Go.Proofs.YtnigfddanoaonaaGreat

set_option linter.unusedVariables false
set_option linter.unusedSimpArgs false
set_option linter.unnecessarySimpa false
namespace Go.Proofs.YtnigfddanoaonaaGreat
open Go.RowKit

def smB (n : Int) (es : List Edg) (N M : Int) : Bool := if es.length ≤ 40 then (if gErr n es = 0 then decide (n ≤ N ∧ ((endsL es).length : Int) ≤ M) else true) else false

set_option maxRecDepth 100000 in
set_option maxHeartbeats 2000000 in
theorem small_any (n : Int) (es : List Edg) (oe : Option Addr) (c : Nat) (F : Foot) (w : World) (hs : SliceR edgR 3 F w oe es) (hc : es.length ≤ c) (hc2 : es.length ≤ 9223372036854775807) (N M : Int) :
    Calls Tryz.prog 100 #[.agg #[.int .i64 n, .slice oe es.length c], .int .i64 N, .int .i64 M] w fun e w' => e = .returned (.bool (smB n es N M)) ∧ Below w.heap.size w w' := by
  have hb0 := box_refl w (.cells #[.int .i64 n, .slice oe es.length c] 43)
  by_cases h40 : es.length ≤ 40
  · have q1 : decide ((40 : Int) < (es.length : Int)) = false := by simp; omega
    have hc3 : es.length ≤ 1000 := by omega
    have HS : Hid (smB n es N M = if gErr n es = 0 then decide (n ≤ N ∧ ((endsL es).length : Int) ≤ M) else true) := if_pos h40
    have HK := hide (rgcheck_any n es oe c F _ (hs.below edgR_ok (below_box hb0)) hc hc2)
    clear h40
    go_enter Tryz.func100, Tryz.ntmps100
    go_wp2_with fail
    refine HK.out.mono ?_
    rintro e w2 ⟨rfl, hb2⟩
    have hx2 := hb2.mono (B' := w.heap.size + 1) (by simp)
    have d0 := box_cell hx2 0
    have d1 := box_cell hx2 1
    simp at d0 d1
    have HX := hide hx2
    clear hb0 hb2 hx2
    by_cases hE : gErr n es = 0
    · have HS2 : Hid (smB n es N M = decide (n ≤ N ∧ ((endsL es).length : Int) ≤ M)) := by show _ = _; rw [HS.out, if_pos hE]
      have HM : Hid (∀ x ∈ es, x.m ≤ 50) := fun x hx => ((gErr_zero hE).2.1 x hx).2.2.2.1
      rw [hE]
      clear hE
      by_cases hN : n ≤ N
      · have q2 : decide (n ≤ N) = true := by simp [hN]
        by_cases hM : ((endsL es).length : Int) ≤ M
        · have q3 : decide (((endsL es).length : Int) ≤ M) = true := by simp [hM]
          have HS3 : Hid (smB n es N M = true) := by show _ = _; rw [HS2.out]; exact decide_eq_true ⟨hN, hM⟩
          clear hN hM
          go_wp2_with fail
          refine (rsize_any n es oe c F w2 (hs.below edgR_ok (below_box HX.out)) hc hc3 HM).mono ?_
          rintro e w3 ⟨rfl, hb3⟩
          go_wp2_with fail
          go_ret
          exact ⟨ret_bool HS3.out.symm, (below_box HX.out).trans (hb3.mono (below_box HX.out).size)⟩
        · have q3 : decide (((endsL es).length : Int) ≤ M) = false := by simp; omega
          have HS3 : Hid (smB n es N M = false) := by show _ = _; rw [HS2.out]; exact decide_eq_false (fun h => hM h.2)
          clear hN hM
          go_wp2_with fail
          refine (rsize_any n es oe c F w2 (hs.below edgR_ok (below_box HX.out)) hc hc3 HM).mono ?_
          rintro e w3 ⟨rfl, hb3⟩
          go_wp2_with fail
          go_ret
          exact ⟨ret_bool HS3.out.symm, (below_box HX.out).trans (hb3.mono (below_box HX.out).size)⟩
      · have q2 : decide (n ≤ N) = false := by simp; omega
        have HS3 : Hid (smB n es N M = false) := by show _ = _; rw [HS2.out]; exact decide_eq_false (fun h => hN h.1)
        clear hN
        go_wp2_with fail
        go_ret
        exact ⟨ret_bool HS3.out.symm, below_box HX.out⟩
    · have HS2 : Hid (smB n es N M = true) := by show _ = _; rw [HS.out, if_neg hE]
      have q2 : (gErr n es != 0) = true := by simpa using hE
      clear hE
      go_wp2_with fail
      go_ret
      exact ⟨ret_bool HS2.out.symm, below_box HX.out⟩
  · have q1 : decide ((40 : Int) < (es.length : Int)) = true := by simp; omega
    have HS : Hid (smB n es N M = false) := if_neg h40
    clear h40
    go_enter Tryz.func100, Tryz.ntmps100
    go_wp2_with fail
    go_ret
    exact ⟨ret_bool HS.out.symm, below_box hb0⟩

theorem rfew_any (n : Int) (es : List Edg) (oe : Option Addr) (c : Nat) (F : Foot) (w : World) (hs : SliceR edgR 3 F w oe es) (hc : es.length ≤ c) (hc2 : es.length ≤ 9223372036854775807) :
    Calls Tryz.prog 67 #[.agg #[.int .i64 n, .slice oe es.length c]] w fun e w' => e = .returned (.bool (smB n es 6 9)) ∧ Below w.heap.size w w' := by
  have hb0 := box_refl w (.cells #[.int .i64 n, .slice oe es.length c] 43)
  have HK := hide (small_any n es oe c F _ (hs.below edgR_ok (below_box hb0)) hc hc2 6 9)
  go_enter Tryz.func67, Tryz.ntmps67
  go_wp2_with fail
  refine HK.out.mono ?_
  rintro e w2 ⟨rfl, hb2⟩
  go_wp2_with fail
  go_ret
  exact ⟨rfl, below_box (hb2.mono (B' := w.heap.size + 1) (by simp))⟩

/-- No list is longer than 40. -/
def longB : List (List Int) → Bool
  | [] => true
  | l :: r => if l.length ≤ 40 then longB r else false
def few44 (n : Int) (es : List Edg) (ar : List (List Int)) : Bool := if smB n es 6 9 = true then (if ar.length ≤ 20 then longB ar else false) else false
def few45 (n : Int) (es : List Edg) (ar : List (List Int)) (rot : List Int) : Bool := if few44 n es ar = true then decide (rot.length ≤ 30) else false

end Go.Proofs.YtnigfddanoaonaaGreat

set_option linter.unusedVariables false
set_option linter.unusedSimpArgs false
namespace Go.Proofs.YtnigfddanoaonaaGreat
open Go.RowKit

def forest (es : List Edg) : List Nat := (eL es).foldl (fun f x => joinF f x.1 x.2) (List.range 12)
theorem forest_go : ∀ (l m : List (Nat × Nat)) (f : List Nat), Uf f m → (∀ x ∈ m, x.1 < 12 ∧ x.2 < 12) → (∀ x ∈ l, x.1 < 12 ∧ x.2 < 12) → Uf (l.foldl (fun f x => joinF f x.1 x.2) f) (m ++ l)
  | [], m, f, h, _, _ => by simpa using h
  | x :: l, m, f, h, hm, hl => by
    obtain ⟨h1, h2⟩ := hl x (List.mem_cons_self ..)
    have := forest_go l (m ++ [x]) (joinF f x.1 x.2) (h.join h1 h2 hm) (fun y hy => by
      rcases List.mem_append.1 hy with h3 | h3
      · exact hm y h3
      · simp at h3; subst h3; exact ⟨h1, h2⟩) (fun y hy => hl y (List.mem_cons_of_mem _ hy))
    rw [List.append_assoc] at this
    exact this
theorem forest_ok (n : Int) (es : List Edg) : gErr n es = 0 → Uf (forest es) (eL es) := fun h => by
  have := forest_go (eL es) [] (List.range 12) Uf.begin (by simp) (fun x hx => ?_)
  · unfold forest; simpa using this
  · have h1 := eL_lt h es.length x
    rw [List.take_length] at h1
    exact h1 hx

end Go.Proofs.YtnigfddanoaonaaGreat

set_option linter.unusedVariables false
set_option linter.unusedSimpArgs false
namespace Go.Proofs.YtnigfddanoaonaaGreat
open Go.RowKit

/-- How a round may be left. -/
def jointPost (Jy : World → Prop) (Jx : Code → World → Prop) (W : World) : Exit → Act → World → Prop
  | .normal, _, W' => KeepsOthers W W' ∧ Jy W'
  | .ret, _, W' => KeepsOthers W W' ∧ Jx .ret W'
  | .exit id, _, W' => KeepsOthers W W' ∧ Jx (.exit id) W'
  | .goto t, _, W' => KeepsOthers W W' ∧ Jx (.goto t) W'
  | .panic _, _, _ => False
  | .outgrown, _, _ => False

/-- The iterator's word: J i before the i-th yield, Jy i behind it, Jd at the end. -/
def SeqJoint (F : Fence) (n : Nat) (P : Program) (g : Nat) (lb : Array Value) (encs : Nat → Array Value) (J Jy : Nat → World → Prop) (Jd : World → Prop) : Prop :=
  ∀ (l : Nat) (R X : World → Prop) (W : World), (∀ A B, R A → KeepsOthers A B → R B) →
    (∀ i W1, J i W1 → R W1 → YieldAt F (n - 1) P l (encs i) W1 fun e W' => (e = .returned (.bool true) ∧ Jy i W' ∧ R W') ∨ (e = .returned (.bool false) ∧ X W')) →
    J 0 W → R W → CallsIn F n P g (#[.func (.yield l) #[] #[]] ++ lb) W fun e W' => (∃ v, e = .returned v) ∧ ((Jd W' ∧ R W') ∨ X W')

end Go.Proofs.YtnigfddanoaonaaGreat

set_option linter.unusedVariables false
set_option linter.unusedSimpArgs false
namespace Go.Proofs.YtnigfddanoaonaaGreat
open Go.RowKit Go.Shelf

attribute [local go_sem] Oper.semAt_some

/-- The boxes of a way: where the chip is, the sink, the step. -/
structure WayBox (W : World) (h : Nat) (v q : Nat) (fv : Value) : Prop where
  bv : Boxed W h 3 (.int .i64 v)
  bq : Boxed W (h + 1) 3 (.int .i64 q)
  bs : Boxed W (h + 2) 170 fv
theorem boxed_same {W W' : World} {B : Nat} {t : TypeId} {v : Value} (h : Boxed W B t v) (e : W'.heap[B]? = W.heap[B]?) : Boxed W' B t v := e.trans h
theorem WayBox.keep {W W' : World} {h v q : Nat} {fv : Value} (hb : WayBox W h v q fv) (hk : ∀ k, h ≤ k → k ≤ h + 2 → k < W.heap.size → W'.heap[k]? = W.heap[k]?) : WayBox W' h v q fv :=
  ⟨boxed_same hb.bv (hk _ (by omega) (by omega) hb.bv.lt), boxed_same hb.bq (hk _ (by omega) (by omega) hb.bq.lt), boxed_same hb.bs (hk _ (by omega) (by omega) hb.bs.lt)⟩
theorem WayBox.put {W : World} {h v q : Nat} {fv : Value} (hb : WayBox W h v q fv) (u : Nat) : WayBox (W.setCell ⟨h, 0, none⟩ (.int .i64 u)) h u q fv :=
  ⟨hb.bv.set _, hb.bq.other (by omega) _, hb.bs.other (by omega) _⟩
theorem WayBox.own {β : Type} {h q : Nat} {fv : Value} (v : β → Nat) : Own (fun (s : β) W => WayBox W h (v s) q fv) := fun s X Y row hs hg hr =>
  ⟨boxed_own h _ (fun s : β => Value.int .i64 (v s : Nat)) s X Y row hs.bv hg hr, boxed_own (h + 1) _ (fun _ : Unit => _) () X Y row hs.bq hg hr, boxed_own (h + 2) _ (fun _ : Unit => _) () X Y row hs.bs hg hr⟩
end Go.Proofs.YtnigfddanoaonaaGreat

set_option linter.unusedVariables false
set_option linter.unusedSimpArgs false
namespace Go.Proofs.YtnigfddanoaonaaGreat
open Go.RowKit

/-- The rotors and the chip behind i steps. -/
def rtN (ar : List (List Int)) (E : List (Int × Int)) (rot : List Int) (v : Nat) : Nat → List Int × Nat
  | 0 => (rot, v)
  | i + 1 => (stpR ar (rtN ar E rot v i).1 (rtN ar E rot v i).2, stpV ar E (rtN ar E rot v i).1 (rtN ar E rot v i).2)
/-- The first time at q, before M. -/
def firstAt (v : Nat → Nat) (q M : Nat) : Option Nat := (List.range M).find? (fun i => v i == q)
/-- The vertices on a way. -/
def wayL (v : Nat → Nat) (k : Nat) : List Int := (List.range k).map fun i => ((v i : Nat) : Int)
theorem Brd.owned {β : Type} {B p rg cap : Nat} {tv : Value} {q : Int} {av : Value} {tl : List Int} {rest : List Value} (rot : β → List Int) : Own (fun (s : β) W => Brd B W p rg cap tv q av tl (rot s) rest) := fun s X Y row h hg hr => by
  refine h.keep fun k _ hk hor => ?_
  have hc : ∃ o : Obj, X.heap[k]? = some o ∧ o.isCells = true := by
    rcases hor with rfl | rfl | e
    · exact ⟨_, h.box, rfl⟩
    · exact ⟨_, h.row, rfl⟩
    · obtain ⟨cells, ho, _⟩ := h.tos
      rcases ho.2 with ⟨rfl, _⟩ | ⟨g, c, cur, rfl, _, hg2, _⟩
      · simp [Value.ownBlock] at e
      · simp only [Value.ownBlock, Option.some.injEq] at e
        subst e
        exact ⟨_, hg2, rfl⟩
  obtain ⟨o, ho, hc⟩ := hc
  exact grownBy_keeps_cells hg hr ho hc

def ListErr (w : World) (l : List Int) (x : Int) (e : Ending) (w' : World) : Prop := ∃ rv, e = .returned (.tuple #[rv, .int .i64 x]) ∧ OwnS intR 1 w.heap.size 3 Non w' rv l ∧ Below w.heap.size w w'

def chipV (ar : List (List Int)) (E : List (Int × Int)) (rot : List Int) (v : Nat) (i : Nat) : Nat := (rtN ar E rot v i).2
def rotI (ar : List (List Int)) (E : List (Int × Int)) (rot : List Int) (v : Nat) (i : Nat) : List Int := (rtN ar E rot v i).1

/-- Between the yields of a way whose step turns: the board, what is the caller's own (C), and what lay before. -/
structure WA (w1 : World) (p rg cap : Nat) (tv : Value) (q : Int) (av : Value) (tl : List Int) (rest : List Value) (R : Nat → List Int) (C : Nat → World → Prop) (i k : Nat) (W : World) : Prop where
  brd : Brd w1.heap.size W p rg cap tv q av tl (R i) rest
  own : C k W
  low : Below w1.heap.size w1 W
theorem WA.from {β : Type} {w1 : World} {p rg cap : Nat} {tv : Value} {q : Int} {av : Value} {tl : List Int} {rest : List Value} {R : Nat → List Int} {C : Nat → World → Prop} {B : Nat} (hB : w1.heap.size ≤ B) (hC : OwnFrom B C) (i k : β → Nat) :
    OwnFrom B (fun (s : β) W => WA w1 p rg cap tv q av tl rest R C (i s) (k s) W) := fun s X Y row h hg hr =>
  ⟨(Brd.owned (fun s : β => R (i s))).from B s X Y row h.brd hg hr, hC (k s) X Y row h.own hg hr, ownFrom_below (β := Unit) (Nat.le_refl _) hB () X Y row h.low hg hr⟩

section
variable {w1 : World} {p rg cap : Nat} {tv : Value} {q : Int} {av : Value} {tl : List Int} {rest : List Value} {R : Nat → List Int} {C : Nat → World → Prop} {B : Nat} {h q' : Nat} {fv : Value}
end

end Go.Proofs.YtnigfddanoaonaaGreat

set_option linter.unusedVariables false
set_option linter.unusedSimpArgs false
set_option linter.unnecessarySimpa false
namespace Go.Proofs.YtnigfddanoaonaaGreat
open Go.RowKit Go.Shelf

attribute [local go_sem] Oper.semAt_some

def walkOf (ar : List (List Int)) (E : List (Int × Int)) (q : Nat) (rot : List Int) (v : Nat) : List Int × Int :=
  match firstAt (chipV ar E rot v) q 4096 with
  | some i => (wayL (chipV ar E rot v) (i + 1), 0)
  | none => ([], 12)
/-- The vertices on the way of a chip, or the error. -/
def walkRes (n : Int) (es : List Edg) (f : List Nat) (ar : List (List Int)) (q : Int) (rot : List Int) (v : Int) : List Int × Int :=
  if stE n es f ar q rot v = 0 then walkOf ar (endsL es) q.toNat rot v.toNat else ([], stE n es f ar q rot v)

theorem run_cellAddr {P : Program} {tmps : Array Value} {a : Tmp} {w : World} {x : Addr} (ha : tmps.getD a undef = .pointer (some x)) : (asAddr (tmps.getD a undef)).run P w = .ok x w := by
  rw [ha]; simp [asAddr]
/-- The caller's own of Walk: the vertices that have come. -/
def WOut (b n₀ : Nat) (V : Nat → Nat) (k : Nat) (W : World) : Prop := ∃ u, Boxed W b 23 u ∧ W.ownsRow n₀ 3 1 u k ((wayL V k).map (Value.int .i64)) ∧ True
theorem WOut.from (b n₀ B : Nat) (V : Nat → Nat) : OwnFrom B (WOut b n₀ V) := (holdsRow_own n₀ b 23 3 1 (fun k : Nat => k) (fun k => (wayL V k).map (Value.int .i64)) (fun _ _ => True)).from B
theorem ownsRow_other {W W' : World} {n₀ : Nat} {e : TypeId} {size : Nat} {v : Value} {k : Nat} {xs : List Value} (h : W.ownsRow n₀ e size v k xs) {r : Nat} (hr : r < n₀) (hg : W.grownBy W' (some r)) : W'.ownsRow n₀ e size v k xs :=
  h.kept hg (.inr fun e' => by
    rcases h.2 with ⟨rfl, _⟩ | ⟨g, cap, cur, rfl, hb, _, _⟩
    · simp [Value.ownBlock] at e'
    · simp only [Value.ownBlock, Option.some.injEq] at e'
      omega)
theorem WOut.grown {b n₀ : Nat} {V : Nat → Nat} {k r : Nat} {W W' : World} (h : WOut b n₀ V k W) (hg : W.grownBy W' (some r)) (hb : b ≠ r) (hr : r < n₀) : WOut b n₀ V k W' := by
  obtain ⟨u, h1, h2, h3⟩ := h
  exact ⟨u, h1.kept hg (fun e => hb (by injection e)), ownsRow_other h2 hr hg, h3⟩

section
variable (n : Int) (es : List Edg) (oe : Option Addr) (c : Nat) (ar : List (List Int)) (oa : Option Addr) (ca : Nat) (F G : Foot) (w : World) (hs : SliceR edgR 3 F w oe es) (hc : es.length ≤ c) (hc2 : es.length ≤ 1000)
    (ha : SliceR (slcR intR 1) 1 G w oa ar) (hac : ar.length ≤ ca) (hac2 : ar.length ≤ 9223372036854775807) (f : List Nat) (hU : Hid (gErr n es = 0 → Uf f (eL es)))
    (q : Int) (rot : List Int) (ot : Option Addr) (ct : Nat) (H : Foot) (hr : SliceR intR 1 H w ot rot) (hrc : rot.length ≤ ct) (hrl : rot.length ≤ 9223372036854775807)
include hs hc hc2 ha hac hac2 hU hr hrc hrl

end

end Go.Proofs.YtnigfddanoaonaaGreat

set_option linter.unusedVariables false
set_option linter.unusedSimpArgs false
set_option linter.unnecessarySimpa false
namespace Go.Proofs.YtnigfddanoaonaaGreat
open Go.RowKit Go.Shelf

attribute [local go_sem] Oper.semAt_some

def routeUp (M : Nat) (ar : List (List Int)) (E : List (Int × Int)) (q : Nat) (rot : List Int) (v : Nat) : List Int × Int × Int :=
  match firstAt (chipV ar E rot v) q M with
  | some i => (rotI ar E rot v i, (i : Int), 0)
  | none => ([], 0, 12)
def routeOf (ar : List (List Int)) (E : List (Int × Int)) (q : Nat) (rot : List Int) (v : Nat) : List Int × Int × Int := routeUp 1048577 ar E q rot v
/-- The rotors behind the way of a chip and the number of steps, or the error. -/
def routeRes (n : Int) (es : List Edg) (f : List Nat) (ar : List (List Int)) (q : Int) (rot : List Int) (v : Int) : List Int × Int × Int :=
  if stE n es f ar q rot v = 0 then routeOf ar (endsL es) q.toNat rot v.toNat else ([], 0, stE n es f ar q rot v)

/-- The caller's own of Route: the count. -/
def RCnt (b : Nat) (k : Nat) (W : World) : Prop := Boxed W b 3 (.int .i64 ((k : Int) - 1))
theorem RCnt.from (b B : Nat) : OwnFrom B (RCnt b) := (boxed_own b 3 (fun k : Nat => Value.int .i64 ((k : Int) - 1))).from B

section
variable (n : Int) (es : List Edg) (oe : Option Addr) (c : Nat) (ar : List (List Int)) (oa : Option Addr) (ca : Nat) (F G : Foot) (w : World) (hs : SliceR edgR 3 F w oe es) (hc : es.length ≤ c) (hc2 : es.length ≤ 1000)
    (ha : SliceR (slcR intR 1) 1 G w oa ar) (hac : ar.length ≤ ca) (hac2 : ar.length ≤ 9223372036854775807) (f : List Nat) (hU : Hid (gErr n es = 0 → Uf f (eL es)))
    (q : Int) (rot : List Int) (ot : Option Addr) (ct : Nat) (H : Foot) (hr : SliceR intR 1 H w ot rot) (hrc : rot.length ≤ ct) (hrl : rot.length ≤ 9223372036854775807)
include hs hc hc2 ha hac hac2 hU hr hrc hrl

end

end Go.Proofs.YtnigfddanoaonaaGreat

set_option linter.unusedVariables false
set_option linter.unusedSimpArgs false
set_option linter.unnecessarySimpa false
namespace Go.Proofs.YtnigfddanoaonaaGreat
open Go.RowKit

/-- The single edges along which the rotors of the first k vertices point. -/
def edL (ar : List (List Int)) (q : Nat) (rot : List Int) : Nat → List Int
  | 0 => []
  | k + 1 => edL ar q rot k ++ (if k = q then [] else [((((ar.getD k []).getD (rot.getD k 0).toNat 0).toNat / 2 : Nat) : Int)])
def edR (n : Int) (es : List Edg) (f : List Nat) (ar : List (List Int)) (q : Int) (rot : List Int) : List Int := if rtE n es f ar q rot = 0 then edL ar q.toNat rot rot.length else []
/-- What the rotor at a vertex points to. -/
theorem RtOk.at {n : Int} {es : List Edg} {ar : List (List Int)} {q : Nat} {rot : List Int} (h : RtOk n es ar q rot) {v : Nat} (hv' : v < ar.length) (hvq : v ≠ q) :
    ∃ (l : List Int) (k g : Nat), ar[v]? = some l ∧ rot[v]? = some (k : Int) ∧ k < l.length ∧ l.length ≤ 1000000 ∧ l[k]? = some (g : Int) ∧ g < 2 * (endsL es).length := by
  have hl : ar[v]? = some ar[v] := List.getElem?_eq_getElem hv'
  have hk0 : rot[v]? = some (rot[v]'(by rw [h.nrot]; exact hv')) := List.getElem?_eq_getElem (by rw [h.nrot]; exact hv')
  obtain ⟨r1, _, r3⟩ := h.rots v _ _ hk0 hl
  generalize rot[v]'(by rw [h.nrot]; exact hv') = k at hk0 r1 r3
  generalize ar[v] = l at *
  obtain ⟨k, rfl⟩ := Int.eq_ofNat_of_zero_le r1
  have hkl : k < l.length := by have := r3 hvq; omega
  obtain ⟨w1, w2⟩ := h.rows v l hl
  obtain ⟨g, hg, hg2, _⟩ := w2 _ (List.getElem_mem hkl)
  exact ⟨l, k, g, hl, hk0, hkl, by have := h.cap; omega, by rw [List.getElem?_eq_getElem hkl, hg], hg2⟩
end Go.Proofs.YtnigfddanoaonaaGreat

set_option linter.unusedVariables false
set_option linter.unusedSimpArgs false
set_option linter.unnecessarySimpa false
namespace Go.Proofs.YtnigfddanoaonaaGreat
open Go.RowKit

/-- The vertices that Routed keeps. -/
def keptN (i : Nat) : Nat := if i + 1 ≤ 4096 then i + 1 else 4097

def RoutedPost (w : World) (ar : List (List Int)) (E : List (Int × Int)) (q : Nat) (rot : List Int) (v : Nat) (e : Ending) (w' : World) : Prop :=
  ∃ o1 n1 c1 o2 n2 c2 k o, e = .returned (.agg #[.slice o1 n1 c1, .int .i64 k, .slice o2 n2 c2, .bool o]) ∧ Below w.heap.size w w' ∧
    ((∃ i : Nat, o = false ∧ k = (i : Int) ∧ firstAt (chipV ar E rot v) q 1048577 = some i ∧ i < 1048577 ∧ chipV ar E rot v i = q ∧ (∀ j, j < i → chipV ar E rot v j ≠ q) ∧
        OwnS intR 1 w.heap.size 3 Non w' (.slice o1 n1 c1) (rotI ar E rot v i) ∧ OwnS intR 1 w.heap.size 3 Non w' (.slice o2 n2 c2) (wayL (chipV ar E rot v) (keptN i))) ∨
     (o = true ∧ ∀ j, j < 1048577 → chipV ar E rot v j ≠ q))

theorem results_row1 {fn : Func} {a : Tmp} {ty : TypeId} (h : fn.results = #[.cell a ty]) {P : Program} (tmps : Array Value) (w : World) (g : Nat) (cs : Array Value)
    (ha : tmps.getD a undef = .pointer (some ⟨g, 0, none⟩)) (e2 : (loadVar ty ⟨g, 0, none⟩).run P w = .ok (.agg cs) w) :
    (results fn tmps).run P w = .ok (.agg cs) w := by
  have e1 := run_cellAddr (P := P) (w := w) ha
  have e3 : (asAddr (tmps[a]?.getD undef)).run P w = .ok ⟨g, 0, none⟩ w := by simpa using e1
  simp [results, h, Sem.run_bind, e3, e2, Result.andThen]

def stepsOf (W : World) (xb : Nat) : Nat := match W.cell? ⟨xb, 1, none⟩ with | some v => (intOf v).toNat | none => 0
end Go.Proofs.YtnigfddanoaonaaGreat

set_option linter.unusedVariables false
set_option linter.unusedSimpArgs false
set_option linter.unnecessarySimpa false
namespace Go.Proofs.YtnigfddanoaonaaGreat
open Go.RowKit


/-- The order of two lists of the same length. -/
def ordE : List Int → List Int → Int
  | [], _ => 0
  | _, [] => 0
  | x :: l, y :: m => if x < y then -1 else if y < x then 1 else ordE l m
end Go.Proofs.YtnigfddanoaonaaGreat

set_option linter.unusedVariables false
set_option linter.unusedSimpArgs false
set_option linter.unnecessarySimpa false
namespace Go.Proofs.YtnigfddanoaonaaGreat
open Go.RowKit

def triE : List Edg := [⟨0, 1, 1⟩, ⟨0, 2, 1⟩, ⟨1, 2, 1⟩]
def triA : List (List Int) := [[0, 2], [1, 4], [3, 5]]

theorem i64_s {x : Int} (h : 0 ≤ x ∧ x ≤ 100) : I64 x := by unfold I64; omega
theorem triE_lit (B : Nat) (w : World) (hB : B ≤ w.heap.size) : SliceR edgR 3 (Ge B) (w.alloc (.cells #[.int .i64 0, .int .i64 1, .int .i64 1, .int .i64 0, .int .i64 2, .int .i64 1, .int .i64 1, .int .i64 2, .int .i64 1] 145)) (some ⟨w.heap.size, 0, none⟩) triE :=
  SliceR.lit (F := Ge B) edgR_ok w 145 [[.int .i64 0, .int .i64 1, .int .i64 1], [.int .i64 0, .int .i64 2, .int .i64 1], [.int .i64 1, .int .i64 2, .int .i64 1]] _ (fun i y hy => by
    match i, hy with
    | 0, hy => simp [triE] at hy; subst hy; exact ⟨_, rfl, rfl, i64_s (by decide), i64_s (by decide), i64_s (by decide)⟩
    | 1, hy => simp [triE] at hy; subst hy; exact ⟨_, rfl, rfl, i64_s (by decide), i64_s (by decide), i64_s (by decide)⟩
    | 2, hy => simp [triE] at hy; subst hy; exact ⟨_, rfl, rfl, i64_s (by decide), i64_s (by decide), i64_s (by decide)⟩
    | i + 3, hy => simp [triE] at hy) rfl (fun _ h => h) hB

set_option maxRecDepth 100000 in
theorem tri18_any (w : World) : Calls Tryz.prog 39 #[] w fun e w' => ∃ g, e = .returned (.agg #[.int .i64 3, .slice (some ⟨g, 0, none⟩) 3 3]) ∧ SliceR edgR 3 (Ge w.heap.size) w' (some ⟨g, 0, none⟩) triE ∧ Below w.heap.size w w' := by
  go_enter Tryz.func39, Tryz.ntmps39
  go_wp2_with fail
  have hb := (Box.new w [.int .i64 3, .slice (some ⟨w.heap.size + 1, 0, none⟩) 3 3] 43).next (.cells #[.int .i64 0, .int .i64 1, .int .i64 1, .int .i64 0, .int .i64 2, .int .i64 1, .int .i64 1, .int .i64 2, .int .i64 1] 145)
  have hl := triE_lit w.heap.size (w.alloc (.cells #[.int .i64 3, .slice (some ⟨w.heap.size + 1, 0, none⟩) 3 3] 43)) (by simp)
  rw [World.size_alloc] at hl
  refine bodyPost_ret (results_row1 rfl _ _ w.heap.size #[.int .i64 3, .slice (some ⟨w.heap.size + 1, 0, none⟩) 3 3] rfl (run_loadVar_row _ _ _ _ _ _ _ hb Tryz.underlying43 rfl (by kernel_rfl))) rfl ?_
  exact ⟨_, rfl, hl, bnew (bnew (Below.refl _ _) _) _⟩

set_option maxRecDepth 100000 in
theorem tri45_any (w : World) : Calls Tryz.prog 42 #[] w fun e w' => ∃ g h, e = .returned (.agg #[.int .i64 3, .slice (some ⟨g, 0, none⟩) 3 3, .slice (some ⟨h, 0, none⟩) 3 3]) ∧ SliceR edgR 3 All w' (some ⟨g, 0, none⟩) triE ∧ SliceR (slcR intR 1) 1 All w' (some ⟨h, 0, none⟩) triA ∧ Below w.heap.size w w' := by
  go_enter Tryz.func42, Tryz.ntmps42
  go_wp2_with fail
  refine (tri18_any _).mono ?_
  rintro e w2 ⟨g, rfl, hE, hb2⟩
  have hx2 := hb2.mono (B' := w.heap.size + 1) (by simp)
  have hsz2 := box_lt hx2
  obtain ⟨W3, hW3⟩ : ∃ W3, (((w2.alloc (.cells #[.int .i64 0, .int .i64 2] 3)).alloc (.cells #[.int .i64 1, .int .i64 4] 3)).alloc (.cells #[.int .i64 3, .int .i64 5] 3)).alloc (.cells #[.slice (some ⟨w2.heap.size, 0, none⟩) 2 2, .slice (some ⟨w2.heap.size + 1, 0, none⟩) 2 2, .slice (some ⟨w2.heap.size + 1 + 1, 0, none⟩) 2 2] 23) = W3 := ⟨_, rfl⟩
  have hb3 : Below w2.heap.size w2 W3 := by rw [← hW3]; exact bnew (bnew (bnew (bnew (Below.refl _ _) _) _) _) _
  have hx3 := hx2.trans (hb3.mono (by omega))
  have hA : SliceR (slcR intR 1) 1 (Ge w2.heap.size) W3 (some ⟨w2.heap.size + 1 + 1 + 1, 0, none⟩) triA := by
    rw [← hW3]
    have a1 := (ints_lit (F := Ge w2.heap.size) (G := Ge w2.heap.size) w2 3 [0, 2] (by intro x hx; simp at hx; rcases hx with rfl | rfl <;> exact i64_s (by decide)) (by show _ ≤ _; simp; try omega))
    have a2 := (ints_lit (F := Ge w2.heap.size) (G := Ge w2.heap.size) (w2.alloc (.cells #[.int .i64 0, .int .i64 2] 3)) 3 [1, 4] (by intro x hx; simp at hx; rcases hx with rfl | rfl <;> exact i64_s (by decide)) (by show _ ≤ _; simp; try omega))
    have a3 := (ints_lit (F := Ge w2.heap.size) (G := Ge w2.heap.size) ((w2.alloc (.cells #[.int .i64 0, .int .i64 2] 3)).alloc (.cells #[.int .i64 1, .int .i64 4] 3)) 3 [3, 5] (by intro x hx; simp at hx; rcases hx with rfl | rfl <;> exact i64_s (by decide)) (by show _ ≤ _; simp; try omega))
    simp only [List.map_cons, List.map_nil, World.size_alloc] at a1 a2 a3
    have b1 := (a1.below intR_ok (bnew (Below.refl _ _) (.cells #[.int .i64 1, .int .i64 4] 3))).below intR_ok (bnew (Below.refl _ _) (.cells #[.int .i64 3, .int .i64 5] 3))
    have b2 := a2.below intR_ok (bnew (Below.refl _ _) (.cells #[.int .i64 3, .int .i64 5] 3))
    have := SliceR.lit (F := Ge w2.heap.size) (G := Ge w2.heap.size) (slcR_ok intR_ok (by decide)) (((w2.alloc (.cells #[.int .i64 0, .int .i64 2] 3)).alloc (.cells #[.int .i64 1, .int .i64 4] 3)).alloc (.cells #[.int .i64 3, .int .i64 5] 3)) 23
      [[.slice (some ⟨w2.heap.size, 0, none⟩) 2 2], [.slice (some ⟨w2.heap.size + 1, 0, none⟩) 2 2], [.slice (some ⟨w2.heap.size + 1 + 1, 0, none⟩) 2 2]] triA (fun i y hy => by
        match i, hy with
        | 0, hy => simp [triA] at hy; subst hy; exact ⟨_, rfl, _, _, rfl, by decide, by decide, b1⟩
        | 1, hy => simp [triA] at hy; subst hy; exact ⟨_, rfl, _, _, rfl, by decide, by decide, b2⟩
        | 2, hy => simp [triA] at hy; subst hy; exact ⟨_, rfl, _, _, rfl, by decide, by decide, a3⟩
        | i + 3, hy => simp [triA] at hy) rfl (fun _ h => h) (by show _ ≤ _; simp; try omega)
    simpa using this
  have hbx : Box W3 w.heap.size [.int .i64 0, .slice none 0 0, .slice none 0 0] 52 := (Box.new w [.int .i64 0, .slice none 0 0, .slice none 0 0] 52).under hx3 (by omega)
  have d0 := hbx.cell 0
  have d1 := hbx.cell 1
  have d2 := hbx.cell 2
  simp only [List.getElem?_cons_zero, List.getElem?_cons_succ] at d0 d1 d2
  have f0 := hbx.free 0
  have f1 := hbx.free 1
  have f2 := hbx.free 2
  have HE := hide (hE.below edgR_ok hb3)
  have HX := hide hx3
  have HA := hide hA
  have HBX := hide hbx
  clear hb2 hx2 hE hbx hA hx3 hb3
  go_wp2_with fail
  have hbx := ((HBX.out.put 0 (.int .i64 3)).put 1 (.slice (some ⟨g, 0, none⟩) 3 3)).put 2 (.slice (some ⟨w2.heap.size + 1 + 1 + 1, 0, none⟩) 3 3)
  simp only [List.set_cons_zero, List.set_cons_succ] at hbx
  refine bodyPost_ret (results_row1 rfl _ _ w.heap.size #[.int .i64 3, .slice (some ⟨g, 0, none⟩) 3 3, .slice (some ⟨w2.heap.size + 1 + 1 + 1, 0, none⟩) 3 3] rfl (run_loadVar_row _ _ _ _ _ _ _ hbx Tryz.underlying52 rfl (by kernel_rfl))) rfl ?_
  have hn : ∀ k, w.heap.size < k → (((W3.setCell ⟨w.heap.size, 0, none⟩ (.int .i64 3)).setCell ⟨w.heap.size, 1, none⟩ (.slice (some ⟨g, 0, none⟩) 3 3)).setCell ⟨w.heap.size, 2, none⟩ (.slice (some ⟨w2.heap.size + 1 + 1 + 1, 0, none⟩) 3 3)).heap[k]? = W3.heap[k]? := fun k hk => by
    rw [Below.heap_setCell _ _ _ k (by simp; omega), Below.heap_setCell _ _ _ k (by simp; omega), Below.heap_setCell _ _ _ k (by simp; omega)]
  refine ⟨g, _, rfl, (HE.out.keep edgR_ok fun k hk _ => hn k ?_).all edgR_ok (by decide), (HA.out.keep (slcR_ok intR_ok (by decide)) fun k hk _ => hn k ?_).all (slcR_ok intR_ok (by decide)) (by decide), ?_⟩
  · have h1 : w.heap.size + 1 ≤ k := by simpa [Ge] using hk
    omega
  · have h1 : w2.heap.size ≤ k := hk
    omega
  · exact (((below_box HX.out).setCell (p := ⟨w.heap.size, 0, none⟩) (by simp) _).setCell (p := ⟨w.heap.size, 1, none⟩) (by simp) _).setCell (p := ⟨w.heap.size, 2, none⟩) (by simp) _

end Go.Proofs.YtnigfddanoaonaaGreat

set_option linter.unusedVariables false
set_option linter.unusedSimpArgs false
set_option linter.unnecessarySimpa false
namespace Go.Proofs.YtnigfddanoaonaaGreat
open Go.RowKit

/-- The vertices below k, other than the sink, that have chips. -/
def liveP (q : Nat) (l : List Int) (k : Nat) : List Int := ((List.range k).filter fun v : Nat => decide (v ≠ q ∧ 0 < l.getD v 0)).map fun v : Nat => (v : Int)
def liveL (q : Nat) (l : List Int) : List Int := liveP q l l.length
abbrev MSt := List Int × List Int × List Int
def addL (l : List Int) (v : Nat) (x : Int) : List Int := l.set v (l.getD v 0 + x)
theorem addL_len (l : List Int) (v : Nat) (x : Int) : (addL l v x).length = l.length := by simp [addL]
theorem addL_mem {l : List Int} {v : Nat} {x y : Int} (h : y ∈ addL l v x) (hv : v < l.length) : y ∈ l ∨ ∃ z ∈ l, y = z + x := by
  unfold addL at h
  rcases List.mem_or_eq_of_mem_set h with h1 | h1
  · exact .inl h1
  · refine .inr ⟨l[v], List.getElem_mem hv, ?_⟩
    rw [h1, getD_of (List.getElem?_eq_getElem hv)]
/-- A chip moves from v. -/
def mvS (ar : List (List Int)) (E : List (Int × Int)) (s : MSt) (v : Nat) : MSt := (stpR ar s.1 v, addL (addL s.2.1 v (-1)) (stpV ar E s.1 v) 1, addL s.2.2 v 1)
/-- What there is behind i moves, by picks. -/
def mvN (ar : List (List Int)) (E : List (Int × Int)) (q : Nat) (pk : Nat → List Int → Int) (s : MSt) : Nat → MSt
  | 0 => s
  | i + 1 => mvS ar E (mvN ar E q pk s i) (pk i (liveL q (mvN ar E q pk s i).2.1)).toNat

structure MvOk (n : Int) (es : List Edg) (ar : List (List Int)) (q : Nat) (i : Nat) (s : MSt) : Prop where
  rot : RtOk n es ar q s.1
  ll : s.2.1.length = ar.length
  tl : s.2.2.length = ar.length
  lb : ∀ x ∈ s.2.1, -1048576 - (i : Int) ≤ x ∧ x ≤ 1048576 + (i : Int)
  tb : ∀ x ∈ s.2.2, 0 ≤ x ∧ x ≤ (i : Int)
theorem MvOk.step {n : Int} {es : List Edg} {ar : List (List Int)} {q i : Nat} {s : MSt} (h : MvOk n es ar q i s) {v : Nat} (hv : v < ar.length) (hq : v ≠ q) : MvOk n es ar q (i + 1) (mvS ar (endsL es) s v) ∧ stpV ar (endsL es) s.1 v < ar.length := by
  obtain ⟨_, h1, h2⟩ := h.rot.step hv hq
  refine ⟨⟨h1, by simp [mvS, addL_len, h.ll], by simp [mvS, addL_len, h.tl], fun x hx => ?_, fun x hx => ?_⟩, h2⟩
  · rcases addL_mem hx (by rw [addL_len, h.ll]; exact h2) with h3 | ⟨z, h3, rfl⟩
    · rcases addL_mem h3 (by rw [h.ll]; exact hv) with h4 | ⟨y, h4, rfl⟩
      · have := h.lb x h4; omega
      · have := h.lb y h4; omega
    · rcases addL_mem h3 (by rw [h.ll]; exact hv) with h4 | ⟨y, h4, rfl⟩
      · have := h.lb z h4; omega
      · have := h.lb y h4; omega
  · rcases addL_mem hx (by rw [h.tl]; exact hv) with h4 | ⟨y, h4, rfl⟩
    · have := h.tb x h4; omega
    · have := h.tb y h4; omega

def Picks (pk : Nat → List Int → Int) : Prop := ∀ i l, l ≠ [] → pk i l ∈ l
/-- The first pick. -/
def pk0 : Nat → List Int → Int := fun _ l => l.headD 0
def start (rot d : List Int) (n : Nat) : MSt := (rot, d, List.replicate n 0)
/-- The rotors and the numbers of steps, or the error. -/
def movesUp (M : Nat) (ar : List (List Int)) (E : List (Int × Int)) (q : Nat) (pk : Nat → List Int → Int) (rot d : List Int) : List Int × List Int × Int :=
  match firstAt (fun i => (liveL q (mvN ar E q pk (start rot d d.length) i).2.1).length) 0 M with
  | some i => ((mvN ar E q pk (start rot d d.length) i).1, (mvN ar E q pk (start rot d d.length) i).2.2, 0)
  | none => ([], [], 12)
def movesOf (ar : List (List Int)) (E : List (Int × Int)) (q : Nat) (pk : Nat → List Int → Int) (rot d : List Int) : List Int × List Int × Int := movesUp 1048577 ar E q pk rot d
end Go.Proofs.YtnigfddanoaonaaGreat

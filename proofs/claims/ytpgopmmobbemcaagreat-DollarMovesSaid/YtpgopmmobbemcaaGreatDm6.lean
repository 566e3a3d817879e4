/-
  Moves and Play of the dollar game return what the reference returns, for all graphs, scripts and moves.
  DollarMoves: the walk.
  DollarPlays: the walk.
  ref18.Few. (Cut out of XPileStab.)
  The reference's Summed and Play.
  The moves of a script lead where the script does, in either order; the cheapest script changes the same: in plain Lean.
  A solution wins, costs no less than the bound, and no more than a greedy game made cheap: in plain Lean.
  The moves of the law, and the reference's Play.
  The dollar game: Play.
  law43.small, and what a won greedy game gives.
  ref08.FewRanks and ref43.Small.
  The reference's Solve.
  The reference's search for a winning script, and its Solve.
-/
import Derived.Test.YtpgopmmobbemcaaGreatDm5
import Derived.BigQuiet
import Derived.Test.YtpgopmmobbemcaaGreatRows

set_option linter.unusedVariables false
set_option linter.unusedSimpArgs false
set_option linter.unnecessarySimpa false
namespace Go.Proofs.YtpgopmmobbemcaaGreat
open Go.RowKit

def FirstV (w : World) (v : Value) : Option (List Int) → Prop
  | none => v = .slice none 0 0
  | some s => ∃ b off c, v = .slice (some ⟨b, off, none⟩) s.length c ∧ s.length ≤ c ∧ SliceR intR 1 All w (some ⟨b, off, none⟩) s
theorem FirstV.below {w w' : World} {v : Value} (hb : Below w.heap.size w w') : ∀ {o : Option (List Int)}, FirstV w v o → FirstV w' v o
  | none, h => h
  | some s, ⟨b, off, c, h1, h2, h3⟩ => ⟨b, off, c, h1, h2, h3.below intR_ok hb⟩
def FirstPost (w : World) (o : Option (List Int)) (e : Ending) (w' : World) : Prop := ∃ v, e = .returned v ∧ FirstV w' v o ∧ Below w.heap.size w w'
end Go.Proofs.YtpgopmmobbemcaaGreat

set_option linter.unusedVariables false
set_option linter.unusedSimpArgs false
set_option linter.unnecessarySimpa false
namespace Go.Proofs.YtpgopmmobbemcaaGreat
open Go.RowKit

theorem GOk.of {N : Nat} {es : List Edg} {f : List Nat} {d : List Int} (hT : TOk N es f d) (hc2 : es.length ≤ 1000) (hU : gErr N es = 0 → Uf f (eL es)) (hS : SmG N es d) : GOk N es d :=
  ⟨EOk.of hT.g hc2, hT.n12.1, conn_link hU hT.j, hS⟩
/-- What the reference's Wins says. -/
def winsB (N : Nat) (es : List Edg) (d : List Int) : Bool := if totL d < 0 then false else wRun N es 10000000 (fun v => d.getD v 0) (fun _ => false)
def RSolvePost (w : World) (n : Int) (es : List Edg) (f : List Nat) (d : List Int) (limit : Int) (e : Ending) (w' : World) : Prop :=
  ∃ b : Bool, (tErr n es f d = 0 → (b = true ↔ Winn n.toNat (linkE es) (fun v => d.getD v 0))) ∧ SolPost w (refSolveR n es f d limit b) e w'
end Go.Proofs.YtpgopmmobbemcaaGreat

set_option linter.unusedVariables false
set_option linter.unusedSimpArgs false
set_option linter.unnecessarySimpa false
namespace Go.Proofs.YtpgopmmobbemcaaGreat
open Go.RowKit

def sm43 (n : Int) (es : List Edg) (f : List Nat) (d : List Int) : Bool := smB n es 5 7 && (decide (d.length ≤ 24) && (smD d || decide (tErr n es f d ≠ 0)))
theorem smB_len {n : Int} {es : List Edg} {N M : Int} (h : smB n es N M = true) : es.length ≤ 40 := by
  unfold smB at h
  split at h
  · assumption
  · cases h
end Go.Proofs.YtpgopmmobbemcaaGreat

set_option linter.unusedVariables false
set_option linter.unusedSimpArgs false
set_option linter.unnecessarySimpa false
namespace Go.Proofs.YtpgopmmobbemcaaGreat
open Go.RowKit

def lsm43 (n : Int) (es : List Edg) (f : List Nat) (d : List Int) : Bool := smB n es 6 9 && (decide (d.length ≤ 24) && (decide (tErr n es f d = 0) && smD d))
theorem dErr_ok {N : Nat} {l : List Int} (h12 : 1 ≤ N ∧ N ≤ 12) (hl : l.length = N) (hb : ∀ x ∈ l, -1048576 ≤ x ∧ x ≤ 1048576) : dErr N l = 0 := by
  unfold dErr
  rw [if_pos (by omega), if_pos (by omega)]
  clear hl
  induction l with
  | nil => rfl
  | cons x r ih =>
    have h1 := hb x (by simp)
    have h2 := ih fun y hy => hb y (by simp [hy])
    unfold dScan
    rw [if_pos (show inChips x = true from decide_eq_true h1)]
    exact h2
end Go.Proofs.YtpgopmmobbemcaaGreat

set_option linter.unusedVariables false
set_option linter.unusedSimpArgs false
set_option linter.unnecessarySimpa false
namespace Go.Proofs.YtpgopmmobbemcaaGreat
open Go.RowKit

def badM (N : Nat) (l : List Mv) : Bool := l.any fun x => decide (x.v < 0 ∨ (N : Int) ≤ x.v)
def playR (n : Int) (es : List Edg) (f : List Nat) (d : List Int) (l : List Mv) : List Int × Int :=
  if tErr n es f d ≠ 0 then ([], tErr n es f d) else if 4096 < l.length then ([], 5) else if badM n.toNat l = true then ([], 2) else applyR n es d (lst n.toNat (sumM l))
theorem badM_drop {N : Nat} {l : List Mv} {k : Nat} {x : Mv} (h : l.drop k = x :: l.drop (k + 1)) : badM N (l.drop k) = (decide (x.v < 0 ∨ (N : Int) ≤ x.v) || badM N (l.drop (k + 1))) := by rw [h]; rfl
theorem sum_put {l : List Mv} {k u : Nat} {b : Bool} (h : l[k]? = some ⟨(u : Int), b⟩) (N : Nat) : lst N (sumM (l.take (k + 1))) = lst N (updF (sumM (l.take k)) u (sumM (l.take k) u + if b = true then -1 else 1)) := by
  refine lst_congr fun i hi => ?_
  rw [sumM_take h]
  unfold updF
  by_cases e : i = u
  · subst e
    rw [if_pos rfl, if_pos rfl]
  · rw [if_neg e, if_neg (fun e2 : (u : Int) = i => e (by omega))]
    omega
set_option maxRecDepth 100000 in
set_option maxHeartbeats 8000000 in
theorem dplay_any (n : Int) (es : List Edg) (oe : Option Addr) (c : Nat) (F : Foot) (w : World) (hs : SliceR edgR 3 F w oe es) (hc : es.length ≤ c) (hc2 : es.length ≤ 1000)
    (f : List Nat) (hU : Hid (gErr n es = 0 → Uf f (eL es))) (d : List Int) (od : Option Addr) (cd : Nat) (G : Foot) (hd : SliceR intR 1 G w od d) (hdc : d.length ≤ cd) (hdl : d.length ≤ 9223372036854775807)
    (l : List Mv) (ol : Option Addr) (cl : Nat) (H : Foot) (hl : SliceR dmvR 2 H w ol l) (hlc : l.length ≤ cl) (hll : l.length ≤ 9223372036854775807) :
    Calls Tryz.prog 35 #[.agg #[.int .i64 n, .slice oe es.length c], .slice od d.length cd, .slice ol l.length cl] w (DivPost w (playR n es f d l)) := by
  have hb0 := bnew (Below.refl w.heap.size w) (.cells #[.int .i64 n, .slice oe es.length c] 24)
  have bxx := Box.new w [.int .i64 n, .slice oe es.length c] 24
  have HK := hide (dgiven_any n es oe c F _ (hs.below edgR_ok hb0) hc (by omega) f hU d od cd G (hd.below intR_ok hb0) hdc hdl)
  have HD := hide hd
  have HS := hide hs
  have HLM := hide hl
  have HB := hide hb0
  have HX := hide bxx
  clear hs hd hl hb0 bxx
  go_enter Tryz.func35, Tryz.ntmps35
  go_wp2_with fail
  refine HK.out.mono ?_
  rintro e w2 ⟨rfl, hb2⟩
  have HB2 := hide (below_then HB.out hb2)
  have HX2 := hide (HX.out.below hb2)
  have y0 := HX2.out.cell 0
  have y1 := HX2.out.cell 1
  simp only [List.getElem?_cons_zero, List.getElem?_cons_succ] at y0 y1
  clear hb2
  by_cases hV : tErr n es f d = 0
  case neg =>
    have hR : Hid (playR n es f d l = ([], tErr n es f d)) := if_pos hV
    have hq : (tErr n es f d != 0) = true := by simpa using hV
    go_wp2_with fail
    go_ret2
    rw [hR.out]
    exact DivPost.none HB2.out
  obtain ⟨N, rfl, hT⟩ := tErr_ok hV
  have h12 := hT.n12
  have HRR : Hid (playR N es f d l = if 4096 < l.length then ([], 5) else if badM N l = true then ([], 2) else applyR N es d (lst N (sumM l))) := by
    show _ = _
    unfold playR
    rw [if_neg (fun h => h hV), Int.toNat_natCast]
  rw [hV]
  clear hV hT
  by_cases h4 : 4096 < l.length
  · have hR : Hid (playR N es f d l = ([], 5)) := by show _ = _; rw [HRR.out, if_pos h4]
    have hq : decide ((4096 : Int) < (l.length : Int)) = true := by simp; omega
    clear h4
    go_wp2_with fail
    go_ret2
    rw [hR.out]
    exact DivPost.none HB2.out
  have hq : decide ((4096 : Int) < (l.length : Int)) = false := by simp; omega
  have hl4 : l.length ≤ 4096 := by omega
  have HR1 : Hid (playR N es f d l = if badM N l = true then ([], 2) else applyR N es d (lst N (sumM l))) := by show _ = _; rw [HRR.out, if_neg h4]
  clear h4 HRR
  have hwl := HX.out.lt
  go_wp2_with (at_make; refine wpList_make_row (f := Value.int .i64) _ rfl _ _ 26 rfl 3 (0 : Int) 8 Tryz.underlying26 iInfo rfl .i64 .i64 _ _ N rfl rfl rfl rfl (by omega) (by unfold maxLen; omega) (fun w5 hrow5 hb5 hg5 => ?_))
  obtain ⟨gs, hgs⟩ : ∃ gs, gs = w2.heap.size := ⟨_, rfl⟩
  have HB5 := hide (below_then HB2.out hb5)
  have HX5 := hide (HX2.out.below hb5)
  have hgl : w.heap.size ≤ gs := by have := HB2.out.size; omega
  have hgb : w.heap.size < gs := by have := HX2.out.lt; omega
  rw [← hgs] at hrow5 ⊢
  have HR5 : Hid (Row1 (Value.int .i64) w5 gs 3 (lst N (sumM (l.take 0))) []) := by
    show Row1 _ _ _ _ _ _
    rw [lst_congr (g := fun _ => 0) (fun i hi => by simp [sumM]), lst_zero]
    exact hrow5
  clear hrow5 hb5 hg5 hgs y0 y1
  go_wp2_with fail
  go_loopg [11, 26] l.length (fun gm _ iv wx => ∃ k : Nat, k ≤ l.length ∧ gm = l.length - k ∧ iv = .int .i64 k ∧ Hid (Row1 (Value.int .i64) wx gs 3 (lst N (sumM (l.take k))) []) ∧ Hid (Below w.heap.size w wx) ∧ Hid (Box wx w.heap.size [.int .i64 N, .slice oe es.length c] 24) ∧ Hid (badM N l = badM N (l.drop k)))
  case atStart => exact ⟨0, by omega, by omega, rfl, HR5, HB5, HX5, rfl⟩
  case round =>
    obtain ⟨k, hk, hgm, rfl, HR, HBr, HXr, HBD⟩ := hrel
    have HGM := hide hgm
    clear hgm
    by_cases hlt : k < l.length
    · obtain ⟨v, b, hdr, hget, hvi, bl, offl, hol, _, cv, cb⟩ := (HLM.out.below dmvR_ok HBr.out).dmv_at hlt
      subst hol
      have HBD2 : Hid (badM N l = (decide (v < 0 ∨ (N : Int) ≤ v) || badM N (l.drop (k + 1)))) := by show _ = _; rw [HBD.out, badM_drop hdr]
      obtain ⟨W4, hW4⟩ : ∃ W4, wr.alloc (.cells #[.int .i64 v, .bool b] 81) = W4 := ⟨_, rfl⟩
      have hbb := bnew (Below.refl wr.heap.size wr) (.cells #[.int .i64 v, .bool b] 81)
      rw [hW4] at hbb
      have bx4 : Box W4 wr.heap.size [.int .i64 v, .bool b] 81 := by rw [← hW4]; exact Box.new wr [.int .i64 v, .bool b] 81
      have x0 := bx4.cell 0
      have x1 := bx4.cell 1
      have bg4 := HXr.out.below hbb
      have y0 := bg4.cell 0
      have y1 := bg4.cell 1
      simp only [List.getElem?_cons_zero, List.getElem?_cons_succ] at x0 x1 y0 y1
      have HB4 := hide (below_then HBr.out hbb)
      have HX4 := hide bg4
      have hr4 := HR.out.below hbb
      have HR4 := hide hr4
      have HGT := hide hget
      have hvi2 := hvi
      unfold I64 at hvi2
      clear hdr hbb bx4 bg4 hget hr4
      go_upto_region 11 with fail
      clear hW4
      by_cases hv0 : v < 0
      · have hR : Hid (playR N es f d l = ([], 2)) := by show _ = _; rw [HR1.out, HBD2.out, decide_eq_true (.inl hv0)]; rfl
        go_wp2_with fail
        go_ret2
        rw [hR.out]
        exact DivPost.none HB4.out
      by_cases hvN : (N : Int) ≤ v
      · have hR : Hid (playR N es f d l = ([], 2)) := by show _ = _; rw [HR1.out, HBD2.out, decide_eq_true (.inr hvN)]; rfl
        have hq2 : decide ((N : Int) ≤ v) = true := decide_eq_true hvN
        go_wp2_with fail
        go_ret2
        rw [hR.out]
        exact DivPost.none HB4.out
      have HBD3 : Hid (badM N l = badM N (l.drop (k + 1))) := by show _ = _; rw [HBD2.out, decide_eq_false (fun h => by rcases h with h | h <;> omega)]; rfl
      obtain ⟨u, rfl⟩ := Int.eq_ofNat_of_zero_le (show 0 ≤ v by omega)
      have huN : u < N := by omega
      have hq2 : decide ((N : Int) ≤ (u : Int)) = false := by simp; omega
      have hq3 : ¬ ((u : Int) < 0) := by omega
      have HPU := hide (sum_put HGT.out N)
      obtain ⟨z, hz⟩ : ∃ z, z = sumM (l.take k) u := ⟨_, rfl⟩
      have hzb := sumM_bnd (l.take k) u
      have hzl : (l.take k).length ≤ 4096 := by rw [List.length_take]; omega
      rw [← hz] at hzb HPU
      have e0 : W4.cell? ⟨gs, u, none⟩ = some (.int .i64 z) := by rw [hz]; exact HR4.out.cell (lst_get _ huN)
      have f0 := HR4.out.free u
      have hu0 : (0 : Int) ≤ u := by omega
      have hu1 : (u : Int) < N := by omega
      have hnb : w.heap.size ≠ gs := by omega
      clear hz hv0 hvN HBD2
      cases b
      · have HRP : Hid (Row1 (Value.int .i64) (W4.setCell ⟨gs, u, none⟩ (.int .i64 (z + 1))) gs 3 (lst N (sumM (l.take (k + 1)))) []) := by
          have h5 := HR4.out.put (i := u) (by rw [lst_len]; exact huN) (z + 1)
          rw [lst_set] at h5
          rw [HPU.out]
          exact h5
        go_wp2_with fail
        go_roundg (l.length - (k + 1))
        case rel => exact ⟨k + 1, by omega, rfl, by go_num, HRP, HB4.out.setCell hgl _, HX4.out.other hnb _, HBD3⟩
        case measure => rw [HGM.out]; omega
      · have HRP : Hid (Row1 (Value.int .i64) (W4.setCell ⟨gs, u, none⟩ (.int .i64 (z - 1))) gs 3 (lst N (sumM (l.take (k + 1)))) []) := by
          have h5 := HR4.out.put (i := u) (by rw [lst_len]; exact huN) (z - 1)
          rw [lst_set] at h5
          rw [HPU.out]
          exact h5
        go_wp2_with fail
        go_roundg (l.length - (k + 1))
        case rel => exact ⟨k + 1, by omega, rfl, by go_num, HRP, HB4.out.setCell hgl _, HX4.out.other hnb _, HBD3⟩
        case measure => rw [HGM.out]; omega
    · have hke : k = l.length := by omega
      have hR : Hid (playR N es f d l = applyR N es d (lst N (sumM l))) := by
        show _ = _
        rw [HR1.out, HBD.out, hke, List.drop_length]
        rfl
      have hsl : ∀ y ∈ lst N (sumM l), I64 y := fun y hy => by
        obtain ⟨v, _, rfl⟩ := List.mem_map.1 hy
        have := sumM_bnd l v
        unfold I64
        omega
      have HSC : Hid (SliceR intR 1 All wr (some ⟨gs, 0, none⟩) (lst N (sumM l))) := by
        have h5 := HR.out
        rw [hke, List.take_length] at h5
        exact h5.ints hsl trivial
      have HAP := hide (fapply_any N es oe c F wr (HS.out.below edgR_ok HBr.out) hc hc2 d od cd G (HD.out.below intR_ok HBr.out) hdc hdl (lst N (sumM l)) (some ⟨gs, 0, none⟩) N All HSC.out (by rw [lst_len]; omega) (by rw [lst_len]; omega))
      rw [lst_len] at HAP
      have y0 := HXr.out.cell 0
      have y1 := HXr.out.cell 1
      simp only [List.getElem?_cons_zero, List.getElem?_cons_succ] at y0 y1
      clear hke hsl
      go_wp2_with fail
      refine HAP.out.mono ?_
      rintro e w6 ⟨o6, c6, rfl, hc6, hs6, hb6⟩
      have HS6 := hide hs6
      have HB6 := hide (below_then HBr.out hb6)
      clear hs6 hb6
      go_wp2_with fail
      go_ret2
      rw [hR.out]
      exact ⟨o6, c6, rfl, hc6, HS6.out, HB6.out⟩
end Go.Proofs.YtpgopmmobbemcaaGreat

set_option linter.unusedVariables false
set_option linter.unusedSimpArgs false
set_option linter.unnecessarySimpa false
namespace Go.Proofs.YtpgopmmobbemcaaGreat
open Go.RowKit

set_option maxRecDepth 100000 in
set_option maxHeartbeats 4000000 in
theorem lmoves_any (l : List Mv) (ol : Option Addr) (cl : Nat) (H : Foot) (w : World) (hl : SliceR dmvR 2 H w ol l) (hll : l.length ≤ 8796093022207) :
    Calls Tryz.prog 32 #[.slice ol l.length cl] w fun e w' => ∃ v, e = .returned v ∧ OwnS dmvR 2 w.heap.size 112 Non w' v l ∧ Below w.heap.size w w' := by
  have HL := hide hl
  clear hl
  go_enter Tryz.func32, Tryz.ntmps32
  go_wp2_with fail
  go_loopg [3, 5, 8] l.length (fun gm mv _ iv wx => ∃ k : Nat, k ≤ l.length ∧ gm = l.length - k ∧ iv = .int .i64 k ∧ Hid (OwnS dmvR 2 w.heap.size 112 Non wx mv (l.take k)) ∧ Hid (Below w.heap.size w wx))
  case atStart => exact ⟨0, by omega, by omega, rfl, OwnS.nil _ _ _ _ _ _, Below.refl _ _⟩
  case round =>
    obtain ⟨k, hk, hgm, rfl, HO, HBr⟩ := hrel
    have HGM := hide hgm
    clear hgm
    by_cases hlt : k < l.length
    · obtain ⟨v, b, _, hget, hvi, bl, offl, hol, _, cv, cb⟩ := (HL.out.below dmvR_ok HBr.out).dmv_at hlt
      subst hol
      have HTK : Hid (l.take (k + 1) = l.take k ++ [⟨v, b⟩]) := by show _ = _; rw [List.take_add_one, hget]; rfl
      have hXl : (l.take k).length + 1 ≤ 8796093022207 := by rw [List.length_take]; omega
      obtain ⟨X, hX⟩ : ∃ X, X = l.take k := ⟨_, rfl⟩
      rw [← hX] at HO HTK hXl
      obtain ⟨W4, hW4⟩ : ∃ W4, wr.alloc (.cells #[.int .i64 v, .bool b] 81) = W4 := ⟨_, rfl⟩
      have hbb := bnew (Below.refl wr.heap.size wr) (.cells #[.int .i64 v, .bool b] 81)
      rw [hW4] at hbb
      have bx4 : Box W4 wr.heap.size [.int .i64 v, .bool b] 81 := by rw [← hW4]; exact Box.new wr [.int .i64 v, .bool b] 81
      have x0 := bx4.cell 0
      have x1 := bx4.cell 1
      simp only [List.getElem?_cons_zero, List.getElem?_cons_succ] at x0 x1
      have HB4 := hide (below_then HBr.out hbb)
      have HO4 := hide (HO.out.below dmvR_ok hbb)
      have HL1 : Hid (SliceR dmvR 2 All (W4.alloc (.cells #[.int .i64 v, .bool b] 112)) (some ⟨W4.heap.size, 0, none⟩) [⟨v, b⟩]) := lit1 (F := All) dmvR_ok W4 112 [.int .i64 v, .bool b] ⟨v, b⟩ ⟨rfl, hvi⟩ (fun _ _ => trivial) trivial
      clear hget hX hbb bx4
      go_upto_region 5 with fail
      clear hW4 cv cb
      go_wp2_with (at_builtin; refine wpList_append_rep rfl (.tmp 12) (.tmp 14) 65 rfl w.heap.size 112 _ 2 16 Tryz.underlying65 drmvInfoN rfl (by decide) dmvR_ok Non All _ X (by simp [Act.eval, Act.put]) (HO4.out.new dmvR_ok _) (some ⟨W4.heap.size, 0, none⟩) 1 [⟨v, b⟩] (by simp [Act.eval, Act.put]) HL1.out (fun _ _ h => h) (fun _ h => h.elim) (by simp; omega) (by simp; omega) (by have := HB4.out.size; simp only [World.size_alloc]; omega) ?_; intro v' w13 ho8 hb8 hg8; have HO8 := hide ho8; have HB8 := hide hb8; clear ho8 hb8 hg8)
      go_roundg (l.length - (k + 1))
      case rel => exact ⟨k + 1, by omega, rfl, by go_num, by rw [HTK.out]; exact HO8.out, (HB4.out.alloc HB4.out.size _).trans HB8.out⟩
      case measure => rw [HGM.out]; omega
    · have hke : l.take k = l := List.take_of_length_le (by omega)
      have HO2 : Hid (OwnS dmvR 2 w.heap.size 112 Non wr u3 l) := by
        have h5 := HO.out
        rw [hke] at h5
        exact h5
      clear hke HO
      go_wp2_with fail
      go_ret
      exact ⟨_, rfl, HO2.out, HBr.out⟩
def fewMB (n : Nat) : Bool := if n ≤ 60 then true else if 4096 < n then decide (n ≤ 8192) else false
theorem fewM_any (n : Nat) (oa : Option Addr) (c : Nat) (w : World) : Calls Tryz.prog 31 #[.slice oa n c] w fun e w' => e = .returned (.bool (fewMB n)) ∧ w = w' := by
  by_cases h1 : n ≤ 60
  · have q1 : decide ((n : Int) ≤ 60) = true := by simp; omega
    have HR : Hid (fewMB n = true) := if_pos h1
    clear h1
    go_enter Tryz.func31, Tryz.ntmps31
    go_wp2_with fail
    go_ret
    exact ⟨ret_bool HR.out.symm, rfl⟩
  · have q1 : decide ((n : Int) ≤ 60) = false := by simp; omega
    by_cases h2 : 4096 < n
    · have q2 : decide ((4096 : Int) < (n : Int)) = true := by simp; omega
      have HR : Hid (fewMB n = decide ((n : Int) ≤ 8192)) := by
        show _ = _
        unfold fewMB
        rw [if_neg h1, if_pos h2]
        simp
        omega
      clear h1 h2
      go_enter Tryz.func31, Tryz.ntmps31
      go_wp2_with fail
      go_ret
      exact ⟨ret_bool HR.out.symm, rfl⟩
    · have q2 : decide ((4096 : Int) < (n : Int)) = false := by simp; omega
      have HR : Hid (fewMB n = false) := by show _ = _; unfold fewMB; rw [if_neg h1, if_neg h2]
      clear h1 h2
      go_enter Tryz.func31, Tryz.ntmps31
      go_wp2_with fail
      go_ret
      exact ⟨ret_bool HR.out.symm, rfl⟩
theorem neqGuard_mv (op : BinOp) (a b : Operand) (x y : Array Value) (w : World) : (eqGuard op 112 a b (.agg x) (.agg y)).run Tryz.prog w = .ok () w := by
  simp [eqGuard]
theorem neq_mv (a c : Int) (b d : Bool) (w : World) : (binOp .neq 112 (.agg #[.int .i64 a, .bool b]) (.agg #[.int .i64 c, .bool d])).run Tryz.prog w = .ok (.bool (!(a == c && b == d))) w := by
  have u3 := Tryz.underlying3
  have a3 := Tryz.isAgg3
  have z3 := Tryz.sizeOf3
  have u4 := Tryz.underlying4
  have a4 := Tryz.isAgg4
  have z4 := Tryz.sizeOf4
  have hS : Tryz.prog.underlying 112 = some (.struct (Tryz.prog.fieldsOf 112)) := by kernel_rfl
  have hp : Tryz.prog.stoodInHeld 112 = false := by kernel_rfl
  rw [run_neq_struct, show (10000 : Nat) = 9999 + 1 from rfl, run_equalIn_agg w 9999 112 _ _ hS hp]
  simp only [Program.fieldsOf, Tryz.underlying112]
  go_simp
  by_cases h1 : a = c <;> by_cases h2 : b = d <;> simp [h1, h2]
set_option maxHeartbeats 4000000 in
theorem sameM_any (l m : List Mv) (oa ob : Option Addr) (c d : Nat) (F : Foot) (w : World) (hs : SliceR dmvR 2 F w oa l) (ht : SliceR dmvR 2 F w ob m) (hc2 : l.length ≤ 9223372036854775807) :
    Calls Tryz.prog 37 #[.slice oa l.length c, .slice ob m.length d] w fun e w' => e = .returned (.bool (decide (l = m))) ∧ Below w.heap.size w w' := by
  by_cases hlen : l.length = m.length
  case neg =>
    have hl' : ((l.length : Int) != m.length) = true := by simp; omega
    have HL : Hid (decide (l = m) = false) := decide_eq_false fun h => hlen (by rw [h])
    clear hlen
    go_enter Tryz.func37, Tryz.ntmps37
    go_wp2_with fail
    go_ret
    exact ⟨ret_bool HL.out.symm, Below.refl _ _⟩
  have hl' : ((l.length : Int) != m.length) = false := by simp [hlen]
  have HL := hide hlen
  clear hlen
  go_enter Tryz.func37, Tryz.ntmps37
  go_wp2_with fail
  go_loopw [5] (fun i wr => ∃ k : Nat, k ≤ l.length ∧ i = .int .i64 k ∧ Hid (l = m ↔ l.drop k = m.drop k) ∧ Below w.heap.size w wr) (fun i _ => l.length - (intOf i).toNat)
  case atStart => exact ⟨0, by omega, rfl, Iff.rfl, Below.refl _ _⟩
  case round =>
    obtain ⟨k, hk, rfl, HE, hb⟩ := hrel
    by_cases hlt : k < l.length
    · obtain ⟨x, y, hd, _, _, b, off, rfl, _, c0, c1⟩ := (hs.below dmvR_ok hb).dmv_at hlt
      have hlt2 : k < m.length := by rw [← HL.out]; exact hlt
      obtain ⟨x', y', hd', _, _, b', off', rfl, _, c0', c1'⟩ := (ht.below dmvR_ok hb).dmv_at hlt2
      have HD := hide hd
      have HD' := hide hd'
      have hk0 : (0 : Int) ≤ k := by omega
      have hk1 : (k : Int) < l.length := by omega
      have hk2 : (k : Int) < m.length := by omega
      clear hd hd' hs ht
      have q1 := neqGuard_mv
      have q2 := neq_mv
      by_cases hx : x = x' ∧ y = y'
      · obtain ⟨rfl, rfl⟩ := hx
        go_wp2_with fail
        go_quiet (fail)
        go_wp2_with fail
        go_roundw
        case rel =>
          refine ⟨k + 1, by omega, by go_num, ?_, below_drewN hb _⟩
          show _ ↔ _
          rw [HE.out, HD.out, HD'.out]; simp
        case measure => simp [intOf]; omega
      · have hne : (!(x == x' && y == y')) = true := by
          by_cases h1 : x = x' <;> by_cases h2 : y = y' <;> simp_all
        have HX := hide hx
        clear hx
        go_wp2_with fail
        go_quiet (fail)
        go_wp2_with fail
        go_ret
        refine ⟨ret_bool ?_, below_drewN hb _⟩
        symm
        refine decide_eq_false fun h => HX.out ?_
        have h2 := HE.out.1 h
        rw [HD.out, HD'.out] at h2
        simp at h2
        exact h2.1
    · go_wp2_with fail
      go_ret
      refine ⟨ret_bool ?_, hb⟩
      symm
      refine decide_eq_true (HE.out.2 ?_)
      rw [List.drop_eq_nil_of_le (by omega), List.drop_eq_nil_of_le (by have := HL.out; omega)]
end Go.Proofs.YtpgopmmobbemcaaGreat

set_option linter.unusedVariables false
set_option linter.unusedSimpArgs false
namespace Go.Proofs.YtpgopmmobbemcaaGreat
open Go.RowKit

end Go.Proofs.YtpgopmmobbemcaaGreat

set_option linter.unusedVariables false
set_option linter.unusedSimpArgs false
namespace Go.Proofs.YtpgopmmobbemcaaGreat
open Go.RowKit

end Go.Proofs.YtpgopmmobbemcaaGreat

set_option linter.unusedVariables false
set_option linter.unusedSimpArgs false
set_option linter.unnecessarySimpa false
namespace Go.Proofs.YtpgopmmobbemcaaGreat
open Go.RowKit

set_option maxRecDepth 100000 in
set_option maxHeartbeats 4000000 in
theorem summed_any {N : Nat} (h12 : 1 ≤ N ∧ N ≤ 12) (oe : Option Addr) (k0 c : Nat) (w : World) (l : List Mv) (ol : Option Addr) (cl : Nat) (H : Foot) (hl : SliceR dmvR 2 H w ol l) (hl4 : l.length ≤ 4096) (hbad : Hid (badM N l = false)) :
    Calls Tryz.prog 77 #[.agg #[.int .i64 N, .slice oe k0 c], .slice ol l.length cl] w fun e w' => ∃ gs, e = .returned (.slice (some ⟨gs, 0, none⟩) N N) ∧ Row1 (Value.int .i64) w' gs 3 (lst N (sumM l)) [] ∧ Below w.heap.size w w' := by
  have hb0 := bnew (Below.refl w.heap.size w) (.cells #[.int .i64 N, .slice oe k0 c] 24)
  have bxx := Box.new w [.int .i64 N, .slice oe k0 c] 24
  have HLM := hide hl
  have HB := hide hb0
  have hwl := bxx.lt
  have y0 := bxx.cell 0
  simp only [List.getElem?_cons_zero, List.getElem?_cons_succ] at y0
  have HIN : Hid (∀ x ∈ l, 0 ≤ x.v ∧ x.v < N) := fun x hx => by
    have h5 := hbad.out
    unfold badM at h5
    rw [List.any_eq_false] at h5
    have h6 := h5 x hx
    simp at h6
    omega
  obtain ⟨W2, hW2⟩ : ∃ W2, w.alloc (.cells #[.int .i64 N, .slice oe k0 c] 24) = W2 := ⟨_, rfl⟩
  have HB2 : Hid (Below w.heap.size w W2) := by show Below _ _ _; rw [← hW2]; exact hb0
  rw [hW2] at y0
  clear hl hb0 bxx
  go_enter Tryz.func77, Tryz.ntmps77
  go_wp2_with (at_make; refine wpList_make_row (f := Value.int .i64) _ rfl _ _ 26 rfl 3 (0 : Int) 8 Tryz.underlying26 iInfo rfl .i64 .i64 _ _ N rfl rfl rfl rfl (by omega) (by unfold maxLen; omega) (fun w5 hrow5 hb5 hg5 => ?_))
  obtain ⟨gs, hgs⟩ : ∃ gs, gs = W2.heap.size := ⟨_, rfl⟩
  have HB5 := hide (below_then HB2.out hb5)
  have hgl : w.heap.size ≤ gs := by have := HB2.out.size; omega
  rw [← hgs] at hrow5 ⊢
  have HR5 : Hid (Row1 (Value.int .i64) w5 gs 3 (lst N (sumM (l.take 0))) []) := by
    show Row1 _ _ _ _ _ _
    rw [lst_congr (g := fun _ => 0) (fun i hi => by simp [sumM]), lst_zero]
    exact hrow5
  clear hrow5 hb5 hg5 hgs y0 hW2
  go_wp2_with fail
  go_loopg [6] l.length (fun gm iv wx => ∃ k : Nat, k ≤ l.length ∧ gm = l.length - k ∧ iv = .int .i64 k ∧ Hid (Row1 (Value.int .i64) wx gs 3 (lst N (sumM (l.take k))) []) ∧ Hid (Below w.heap.size w wx))
  case atStart => exact ⟨0, by omega, by omega, rfl, HR5, HB5⟩
  case round =>
    obtain ⟨k, hk, hgm, rfl, HR, HBr⟩ := hrel
    have HGM := hide hgm
    clear hgm
    by_cases hlt : k < l.length
    · obtain ⟨v, b, _, hget, hvi, bl, offl, hol, _, cv, cb⟩ := (HLM.out.below dmvR_ok HBr.out).dmv_at hlt
      subst hol
      have hvr := HIN.out _ (List.mem_of_getElem? hget)
      simp only at hvr
      obtain ⟨u, rfl⟩ := Int.eq_ofNat_of_zero_le hvr.1
      have huN : u < N := by omega
      have HPU := hide (sum_put hget N)
      obtain ⟨z, hz⟩ : ∃ z, z = sumM (l.take k) u := ⟨_, rfl⟩
      have hzb := sumM_bnd (l.take k) u
      have hzl : (l.take k).length ≤ 4096 := by rw [List.length_take]; omega
      rw [← hz] at hzb HPU
      have e0 : wr.cell? ⟨gs, u, none⟩ = some (.int .i64 z) := by rw [hz]; exact HR.out.cell (lst_get _ huN)
      have f0 := HR.out.free u
      have hu0 : (0 : Int) ≤ u := by omega
      have hu1 : (u : Int) < N := by omega
      have hk0 : (0 : Int) ≤ k := by omega
      have hk1 : (k : Int) < l.length := by omega
      clear hz hget
      cases b
      · have HRP : Hid (Row1 (Value.int .i64) (wr.setCell ⟨gs, u, none⟩ (.int .i64 (z + 1))) gs 3 (lst N (sumM (l.take (k + 1)))) []) := by
          have h5 := HR.out.put (i := u) (by rw [lst_len]; exact huN) (z + 1)
          rw [lst_set] at h5
          rw [HPU.out]
          exact h5
        go_wp2_with fail
        go_roundg (l.length - (k + 1))
        case rel => exact ⟨k + 1, by omega, rfl, by go_num, HRP, HBr.out.setCell hgl _⟩
        case measure => rw [HGM.out]; omega
      · have HRP : Hid (Row1 (Value.int .i64) (wr.setCell ⟨gs, u, none⟩ (.int .i64 (z - 1))) gs 3 (lst N (sumM (l.take (k + 1)))) []) := by
          have h5 := HR.out.put (i := u) (by rw [lst_len]; exact huN) (z - 1)
          rw [lst_set] at h5
          rw [HPU.out]
          exact h5
        go_wp2_with fail
        go_roundg (l.length - (k + 1))
        case rel => exact ⟨k + 1, by omega, rfl, by go_num, HRP, HBr.out.setCell hgl _⟩
        case measure => rw [HGM.out]; omega
    · have hke : k = l.length := by omega
      have HR2 : Hid (Row1 (Value.int .i64) wr gs 3 (lst N (sumM l)) []) := by
        have h5 := HR.out
        rw [hke, List.take_length] at h5
        exact h5
      clear hke
      go_wp2_with fail
      go_ret
      exact ⟨gs, rfl, HR2.out, HBr.out⟩
theorem outB_dErr {N : Nat} {l : List Int} (h12 : 1 ≤ N ∧ N ≤ 12) (hl : l.length = N) : dErr N l = 0 ↔ outB l = false := by
  constructor
  · intro h
    obtain ⟨_, _, hb⟩ := dErr_len h
    unfold outB
    rw [List.any_eq_false]
    intro x hx
    have : inChips x = true := decide_eq_true (hb x hx)
    simp [this]
  · intro h
    refine dErr_ok h12 hl fun x hx => ?_
    unfold outB at h
    rw [List.any_eq_false] at h
    have h5 := h x hx
    have h6 : inChips x = true := by simpa using h5
    exact of_decide_eq_true h6
set_option maxRecDepth 100000 in
set_option maxHeartbeats 8000000 in
theorem rplay43_any (n : Int) (es : List Edg) (oe : Option Addr) (c : Nat) (F : Foot) (w : World) (hs : SliceR edgR 3 F w oe es) (hc : es.length ≤ c) (hc2 : es.length ≤ 1000)
    (f : List Nat) (hU : Hid (gErr n es = 0 → Uf f (eL es))) (d : List Int) (od : Option Addr) (cd : Nat) (G : Foot) (hd : SliceR intR 1 G w od d) (hdc : d.length ≤ cd) (hdl : d.length ≤ 9223372036854775807)
    (l : List Mv) (ol : Option Addr) (cl : Nat) (H : Foot) (hl : SliceR dmvR 2 H w ol l) (hlc : l.length ≤ cl) (hll : l.length ≤ 9223372036854775807) :
    Calls Tryz.prog 36 #[.agg #[.int .i64 n, .slice oe es.length c], .slice od d.length cd, .slice ol l.length cl] w (DivPost w (playR n es f d l)) := by
  have hb0 := bnew (Below.refl w.heap.size w) (.cells #[.int .i64 n, .slice oe es.length c] 24)
  have bxx := Box.new w [.int .i64 n, .slice oe es.length c] 24
  have HK := hide (rgiven43_any n es oe c F _ (hs.below edgR_ok hb0) hc (by omega) f hU d od cd G (hd.below intR_ok hb0) hdc hdl)
  have HD := hide hd
  have HS := hide hs
  have HLM := hide hl
  have HB := hide hb0
  have HX := hide bxx
  clear hs hd hl hb0 bxx
  go_enter Tryz.func36, Tryz.ntmps36
  go_wp2_with fail
  refine HK.out.mono ?_
  rintro e w2 ⟨rfl, hb2⟩
  have HB2 := hide (below_then HB.out hb2)
  have HX2 := hide (HX.out.below hb2)
  have y0 := HX2.out.cell 0
  have y1 := HX2.out.cell 1
  simp only [List.getElem?_cons_zero, List.getElem?_cons_succ] at y0 y1
  clear hb2
  by_cases hV : tErr n es f d = 0
  case neg =>
    have hR : Hid (playR n es f d l = ([], tErr n es f d)) := if_pos hV
    have hq : (tErr n es f d != 0) = true := by simpa using hV
    go_wp2_with fail
    go_ret2
    rw [hR.out]
    exact DivPost.none HB2.out
  obtain ⟨N, rfl, hT⟩ := tErr_ok hV
  have h12 := hT.n12
  have HT := hide hT
  have hdN := hT.len
  have HRR : Hid (playR N es f d l = if 4096 < l.length then ([], 5) else if badM N l = true then ([], 2) else applyR N es d (lst N (sumM l))) := by
    show _ = _
    unfold playR
    rw [if_neg (fun h => h hV), Int.toNat_natCast]
  rw [hV]
  clear hV hT
  by_cases h4 : 4096 < l.length
  · have hR : Hid (playR N es f d l = ([], 5)) := by show _ = _; rw [HRR.out, if_pos h4]
    have hq : decide ((4096 : Int) < (l.length : Int)) = true := by simp; omega
    clear h4 hdN
    go_wp2_with fail
    go_ret2
    rw [hR.out]
    exact DivPost.none HB2.out
  have hq : decide ((4096 : Int) < (l.length : Int)) = false := by simp; omega
  have hl4 : l.length ≤ 4096 := by omega
  have HR1 : Hid (playR N es f d l = if badM N l = true then ([], 2) else applyR N es d (lst N (sumM l))) := by show _ = _; rw [HRR.out, if_neg h4]
  have HDN := hide hdN
  clear h4 HRR y0 y1 hdN
  have hwl := HX.out.lt
  go_wp2_with fail
  go_loopg [9] l.length (fun gm iv wx => ∃ k : Nat, k ≤ l.length ∧ gm = l.length - k ∧ iv = .int .i64 k ∧ Hid (Below w2.heap.size w2 wx) ∧ Hid (badM N l = badM N (l.drop k)))
  case atStart => exact ⟨0, by omega, by omega, rfl, Below.refl _ _, rfl⟩
  case round =>
    obtain ⟨k, hk, hgm, rfl, HBr, HBD⟩ := hrel
    have HGM := hide hgm
    have HBW : Hid (Below w.heap.size w wr) := below_then HB2.out HBr.out
    have bx := HX2.out.below HBr.out
    have y0 := bx.cell 0
    have y1 := bx.cell 1
    simp only [List.getElem?_cons_zero, List.getElem?_cons_succ] at y0 y1
    clear hgm bx
    by_cases hlt : k < l.length
    · obtain ⟨v, b, hdr, hget, hvi, bl, offl, hol, _, cv, cb⟩ := (HLM.out.below dmvR_ok HBW.out).dmv_at hlt
      subst hol
      have HBD2 : Hid (badM N l = (decide (v < 0 ∨ (N : Int) ≤ v) || badM N (l.drop (k + 1)))) := by show _ = _; rw [HBD.out, badM_drop hdr]
      have hk0 : (0 : Int) ≤ k := by omega
      have hk1 : (k : Int) < l.length := by omega
      have HVX : Hid (∀ W, Calls Tryz.prog 75 #[.agg #[.int .i64 N, .slice oe es.length c], .int .i64 v] W fun e w' => e = .returned (.bool (vtxB N v)) ∧ Below W.heap.size W w') := fun W => rvertex_any N v oe es.length c W
      have HVB : Hid (vtxB N v = !decide (v < 0 ∨ (N : Int) ≤ v)) := by
        show _ = _
        unfold vtxB
        by_cases h1 : 0 ≤ v <;> by_cases h2 : v < (N : Int)
        · rw [decide_eq_true h1, decide_eq_true h2, decide_eq_false (fun h => by rcases h with h | h <;> omega)]; rfl
        · rw [decide_eq_true h1, decide_eq_false h2, decide_eq_true (.inr (by omega))]; rfl
        · rw [decide_eq_false h1, decide_eq_true h2, decide_eq_true (.inl (by omega))]; rfl
        · rw [decide_eq_false h1, decide_eq_false h2, decide_eq_true (.inl (by omega))]; rfl
      have HBZ := hide (Below.refl wr.heap.size wr)
      generalize vtxB N v = vb at *
      clear hdr hget
      go_upto_region 9 with fail
      go_cut [33] (fun s33 wx => s33 = .bool (!vb) ∧ Hid (Below wr.heap.size wr wx))
      case first =>
        go_region_held3 (fun w' => w'.cell? ⟨w.heap.size, 0, none⟩ = some (.int .i64 N) ∧ w'.cell? ⟨w.heap.size, 1, none⟩ = some (.slice oe es.length c) ∧ w'.cell? ⟨bl, offl + k * 2, none⟩ = some (.int .i64 v)) (first | with_reducible exact ⟨y0, y1, cv⟩ | exact ⟨y0, y1, cv⟩) (first
          | (go_at_call 75; refine (HVX.out _).mono ?_; rintro e w5 ⟨rfl, h5⟩; have y0 := (h5.cell (World.block_lt_of_cell? _ _ y0)).trans y0; have y1 := (h5.cell (World.block_lt_of_cell? _ _ y1)).trans y1; have cv := (h5.cell (World.block_lt_of_cell? _ _ cv)).trans cv; have HBZ := hide (show Below wr.heap.size wr w5 from below_then (by first | with_reducible exact HBZ.out | with_reducible exact HBZ.out.drew) h5); clear h5))
        all_goals
          go_wp2_with fail
          go_meet
          exact ⟨by first | rfl | trivial, HBZ⟩
      case rest =>
        obtain ⟨e33, HC⟩ := hcut
        subst e33
        have HBr2 := hide (below_then HBr.out HC.out)
        have HBW2 := hide (below_then HBW.out HC.out)
        clear y0 y1 cv cb HBZ
        cases vb
        · have hR : Hid (playR N es f d l = ([], 2)) := by
            show _ = _
            rw [HR1.out, HBD2.out]
            have : decide (v < 0 ∨ (N : Int) ≤ v) = true := by
              have h := HVB.out
              rcases hp : decide (v < 0 ∨ (N : Int) ≤ v) with _ | _
              · rw [hp] at h; cases h
              · rfl
            rw [this]
            rfl
          go_wp2_with fail
          go_ret2
          rw [hR.out]
          exact DivPost.none HBW2.out
        · have HBD3 : Hid (badM N l = badM N (l.drop (k + 1))) := by
            show _ = _
            rw [HBD2.out]
            have : decide (v < 0 ∨ (N : Int) ≤ v) = false := by have := HVB.out; simpa using this
            rw [this]
            rfl
          go_wp2_with fail
          go_roundg (l.length - (k + 1))
          case rel => exact ⟨k + 1, by omega, rfl, by go_num, HBr2, HBD3⟩
          case measure => rw [HGM.out]; omega
    · have hke : k = l.length := by omega
      have hbad : badM N l = false := by rw [HBD.out, hke, List.drop_length]; rfl
      have HBAD : Hid (badM N l = false) := hbad
      have hR : Hid (playR N es f d l = applyR N es d (lst N (sumM l))) := by show _ = _; rw [HR1.out, if_neg (by rw [hbad]; simp)]
      have hsb : ∀ y ∈ lst N (sumM l), -1048576 ≤ y ∧ y ≤ 1048576 := fun y hy => by
        obtain ⟨v, _, rfl⟩ := List.mem_map.1 hy
        have := sumM_bnd l v
        omega
      have HSB := hide hsb
      have hok := EOk.of HT.out.g hc2
      have HOK := hide hok
      have HML : Hid ((movedL (lst N (sumM l)) es d).length = N) := by show _ = _; rw [moved_len, HDN.out]
      have HMI : Hid (∀ y ∈ movedL (lst N (sumM l)) es d, I64 y) := fun y hy => by
        have hve : ∀ x ∈ es, (0 ≤ x.m ∧ x.m ≤ 50) ∧ x.a.toNat < d.length ∧ x.b.toNat < d.length := fun x hx => by
          have := hok.at_ x hx
          have := HDN.out
          omega
        have h1 := moved_bound (s := lst N (sumM l)) (fun y hy => by have := hsb y hy; omega) hve HT.out.dB es.length (by omega) y (by rw [List.take_length]; exact hy)
        unfold I64
        omega
      have HAP : Hid (applyR N es d (lst N (sumM l)) = if outB (movedL (lst N (sumM l)) es d) = true then ([], 11) else (movedL (lst N (sumM l)) es d, 0)) := by
        show _ = _
        have hf : ∀ {x : List Int}, x.length = N → (∀ y ∈ x, -1048576 ≤ y ∧ y ≤ 1048576) → fErr N es x = 0 := fun {x} h1 h2 => by
          unfold fErr
          rw [if_pos HT.out.g]
          exact dErr_ok h12 h1 h2
        unfold applyR
        rw [if_neg (fun h => h (hf HDN.out HT.out.dB)), if_neg (fun h => h (hf (lst_len _ _) hsb))]
      have HSU : Hid (∀ W, Below w.heap.size w W → Calls Tryz.prog 77 #[.agg #[.int .i64 N, .slice oe es.length c], .slice ol l.length cl] W fun e w' => ∃ gs, e = .returned (.slice (some ⟨gs, 0, none⟩) N N) ∧ Row1 (Value.int .i64) w' gs 3 (lst N (sumM l)) [] ∧ Below W.heap.size W w') := fun W hW => summed_any h12 oe es.length c W l ol cl H (HLM.out.below dmvR_ok hW) hl4 HBAD
      have HMV : Hid (∀ W gs, Below w.heap.size w W → Row1 (Value.int .i64) W gs 3 (lst N (sumM l)) [] → Calls Tryz.prog 76 #[.agg #[.int .i64 N, .slice oe es.length c], .slice od d.length cd, .slice (some ⟨gs, 0, none⟩) N N] W fun e w' => ∃ g cap rest, e = .returned (.slice (some ⟨g, 0, none⟩) N cap) ∧ N ≤ cap ∧ Row1 (Value.int .i64) w' g 3 (movedL (lst N (sumM l)) es d) rest ∧ Below W.heap.size W w') := fun W gs hW hr => by
        have h5 := rmoved_any hok h12 oe c F W (HS.out.below edgR_ok hW) hc d od cd G (HD.out.below intR_ok hW) (by have := HDN.out; omega) HDN.out (lst N (sumM l)) (some ⟨gs, 0, none⟩) N All (hr.ints (fun y hy => by have := hsb y hy; unfold I64; omega) trivial) (lst_len _ _) (Nat.le_refl _) HSB HT.out.dB
        rw [mov_eq HT.out.g hok HDN.out] at h5
        rw [HDN.out]
        exact h5
      clear hke hbad hsb hok
      go_upto_region 11 with fail
      go_cut [10] (fun s10 wx => ∃ g cap rest, s10 = .slice (some ⟨g, 0, none⟩) N cap ∧ N ≤ cap ∧ Hid (Row1 (Value.int .i64) wx g 3 (movedL (lst N (sumM l)) es d) rest) ∧ Hid (Below wr.heap.size wr wx))
      case first =>
        have HBZ := hide (Below.refl wr.heap.size wr)
        go_region_held3 (fun w' => w'.cell? ⟨w.heap.size, 0, none⟩ = some (.int .i64 N) ∧ w'.cell? ⟨w.heap.size, 1, none⟩ = some (.slice oe es.length c)) (first | with_reducible exact ⟨y0, y1⟩ | exact ⟨y0, y1⟩) (first
          | (go_at_call 77; refine (HSU.out _ (HBW.out.trans ((show Below wr.heap.size wr _ from by first | with_reducible exact HBZ.out | with_reducible exact HBZ.out.drew).mono HBW.out.size))).mono ?_; rintro e w5 ⟨gs, rfl, hrs, h5⟩; have HRS := hide hrs; have y0 := (h5.cell (World.block_lt_of_cell? _ _ y0)).trans y0; have y1 := (h5.cell (World.block_lt_of_cell? _ _ y1)).trans y1; have HBZ := hide (show Below wr.heap.size wr w5 from below_then (by first | with_reducible exact HBZ.out | with_reducible exact HBZ.out.drew) h5); clear h5 hrs)
          | (go_at_call 76; refine (HMV.out _ gs (HBW.out.trans ((show Below wr.heap.size wr _ from by first | with_reducible exact HBZ.out | with_reducible exact HBZ.out.drew).mono HBW.out.size)) (by first | with_reducible exact HRS.out | exact HRS.out)).mono ?_; rintro e w6 ⟨g, cap, rest, rfl, hcap, hr, h6⟩; have HR6 := hide hr; have y0 := (h6.cell (World.block_lt_of_cell? _ _ y0)).trans y0; have y1 := (h6.cell (World.block_lt_of_cell? _ _ y1)).trans y1; have HBZ := hide (show Below wr.heap.size wr w6 from below_then (by first | with_reducible exact HBZ.out | with_reducible exact HBZ.out.drew) h6); clear h6 hr))
        all_goals
          go_wp2_with fail
          go_meet
          exact ⟨g, cap, rest, rfl, hcap, HR6, HBZ⟩
      case rest =>
        obtain ⟨g, cap, rest, rfl, hcap, HRM, HC⟩ := hcut
        have HBW2 := hide (below_then HBW.out HC.out)
        have bx2 := HX2.out.below (below_then HBr.out HC.out)
        clear y0 y1
        have y0 := bx2.cell 0
        have y1 := bx2.cell 1
        simp only [List.getElem?_cons_zero, List.getElem?_cons_succ] at y0 y1
        have HSM : Hid (SliceR intR 1 All wc (some ⟨g, 0, none⟩) (movedL (lst N (sumM l)) es d)) := HRM.out.ints (fun y hy => HMI.out y hy) trivial
        have HCK : Hid (Calls Tryz.prog 50 #[.slice (some ⟨g, 0, none⟩) N cap, .int .i64 N] wc fun e w' => e = .returned (.int .i64 (dErr N (movedL (lst N (sumM l)) es d))) ∧ wc = w') := by
          have h5 := rdcheck_any N (movedL (lst N (sumM l)) es d) (some ⟨g, 0, none⟩) cap All wc HSM.out (by rw [HML.out]; exact hcap) (by rw [HML.out]; omega)
          rw [HML.out] at h5
          exact h5
        have HOB := hide (outB_dErr h12 HML.out)
        clear bx2
        go_wp2_with fail
        refine HCK.out.mono ?_
        rintro e w7 ⟨rfl, hw7⟩
        subst hw7
        by_cases ho : dErr N (movedL (lst N (sumM l)) es d) = 0
        · have hR2 : Hid (playR N es f d l = (movedL (lst N (sumM l)) es d, 0)) := by show _ = _; rw [hR.out, HAP.out, if_neg (by rw [HOB.out.1 ho]; simp)]
          have hq2 : (dErr N (movedL (lst N (sumM l)) es d) != 0) = false := by simpa using ho
          clear ho
          go_wp2_with fail
          go_ret2
          rw [hR2.out]
          exact ⟨_, cap, by simp only [HML.out]; rfl, by simp only [HML.out]; exact hcap, HSM.out, HBW2.out⟩
        · have hR2 : Hid (playR N es f d l = ([], 11)) := by
            show _ = _
            rw [hR.out, HAP.out]
            have : outB (movedL (lst N (sumM l)) es d) = true := by
              rcases hx : outB (movedL (lst N (sumM l)) es d) with _ | _
              · exact absurd (HOB.out.2 hx) ho
              · rfl
            rw [if_pos this]
          have hq2 : (dErr N (movedL (lst N (sumM l)) es d) != 0) = true := by simpa using ho
          clear ho
          go_wp2_with fail
          go_ret2
          rw [hR2.out]
          exact DivPost.none HBW2.out
end Go.Proofs.YtpgopmmobbemcaaGreat

set_option linter.unusedVariables false
set_option linter.unusedSimpArgs false
namespace Go.Proofs.YtpgopmmobbemcaaGreat
open Go.RowKit

theorem rfew18_any (n : Int) (es : List Edg) (oe : Option Addr) (c : Nat) (F : Foot) (w : World) (hs : SliceR edgR 3 F w oe es) (hc : es.length ≤ c) (hc2 : es.length ≤ 9223372036854775807) (d : List Int) (od : Option Addr) (cd : Nat) :
    Calls Tryz.prog 11 #[.agg #[.int .i64 n, .slice oe es.length c], .slice od d.length cd] w fun e w' => e = .returned (.bool (smB n es 6 9 && decide (d.length ≤ 24))) ∧ Below w.heap.size w w' := by
  have HBN : Hid (∀ A, Below w.heap.size w (w.alloc A)) := fun A => bnew (Below.refl _ _) A
  have HK : Hid (∀ u, Below w.heap.size w u → Calls Tryz.prog 41 #[.agg #[.int .i64 n, .slice oe es.length c]] u fun e w' => e = .returned (.bool (smB n es 6 9)) ∧ Below u.heap.size u w') := fun u hu => rfew_any n es oe c F u (hs.below edgR_ok hu) hc hc2
  obtain ⟨b, hb⟩ : ∃ b, b = smB n es 6 9 := ⟨_, rfl⟩
  rw [← hb] at HK ⊢
  clear hs hc hc2 hb
  cases b
  · go_enter Tryz.func11, Tryz.ntmps11
    go_wp2_with (go_at_call 41; refine (HK.out _ (HBN.out _)).mono ?_; rintro e w3 ⟨rfl, hb3⟩; have HB3 := hide ((HBN.out _).trans (hb3.mono (HBN.out _).size)); clear hb3)
    go_ret
    exact ⟨ret_bool (by simp), HB3.out⟩
  · go_enter Tryz.func11, Tryz.ntmps11
    go_wp2_with (first
      | (go_at_call 41; refine (HK.out _ (HBN.out _)).mono ?_; rintro e w3 ⟨rfl, hb3⟩; have HB3 := hide ((HBN.out _).trans (hb3.mono (HBN.out _).size)); clear hb3)
      | (go_at_call 22; refine (few17_any d od cd _).mono ?_; rintro e w4 ⟨rfl, hb4⟩; have HB4 := hide (HB3.out.trans (hb4.mono HB3.out.size)); clear hb4))
    go_ret
    exact ⟨ret_bool (by simp), HB4.out⟩
end Go.Proofs.YtpgopmmobbemcaaGreat

set_option linter.unusedVariables false
set_option linter.unusedSimpArgs false
set_option linter.unnecessarySimpa false
namespace Go.Proofs.YtpgopmmobbemcaaGreat
open Go.RowKit

theorem OwnS.intoM {w : World} {base : Nat} {t : TypeId} {v : Value} {xs : List Mv} (h : OwnS dmvR 2 base t Non w v xs) : ∃ o c, v = .slice o xs.length c ∧ xs.length ≤ c ∧ SliceR dmvR 2 All w o xs := by
  obtain ⟨o, c, h1, h2, h3⟩ := h.slice dmvR_ok
  exact ⟨o, c, h1, h2, h3.all dmvR_ok (by decide)⟩
end Go.Proofs.YtpgopmmobbemcaaGreat

set_option linter.unusedVariables false
set_option linter.unusedSimpArgs false
set_option linter.unnecessarySimpa false
namespace Go.Proofs.YtpgopmmobbemcaaGreat
open Go.RowKit

theorem applyR_len (n : Int) (es : List Edg) (d s : List Int) : (applyR n es d s).1.length ≤ 12 := by
  unfold applyR
  split
  · simp
  · rename_i h1
    split
    · simp
    · split
      · simp
      · obtain ⟨_, hd⟩ := fErr_parts (n := n) (es := es) (d := d) (by simpa using h1)
        have := dErr_len hd
        simp only
        rw [moved_len]
        omega
theorem playR_len (n : Int) (es : List Edg) (f : List Nat) (d : List Int) (l : List Mv) : (playR n es f d l).1.length ≤ 12 := by
  unfold playR
  split
  · simp
  · split
    · simp
    · split
      · simp
      · exact applyR_len _ _ _ _
theorem movesR_len (n : Int) (es : List Edg) (f : List Nat) (s : List Int) : (movesR n es f s).1.length ≤ 4096 := by
  unfold movesR
  split
  · simp
  · split
    · simp
    · rename_i h
      have := mvFrom_len s 0
      simp only
      omega
set_option maxRecDepth 100000 in
set_option maxHeartbeats 8000000 in
theorem moves_walk (w : World) (n : Int) (es : List Edg) (oe : Option Addr) (c : Nat) (hc : es.length ≤ c) (hc2 : es.length ≤ 9223372036854775807) (hs : SliceR edgR 3 All w oe es)
    (d : List Int) (od : Option Addr) (cd : Nat) (hdc : d.length ≤ cd) (hdl : d.length ≤ 9223372036854775807) (hd : SliceR intR 1 All w od d)
    (s : List Int) (os : Option Addr) (cs : Nat) (hsc : s.length ≤ cs) (hsl : s.length ≤ 9223372036854775807) (hS : SliceR intR 1 All w os s)
    (l : List Mv) (ol : Option Addr) (cl : Nat) (hlc : l.length ≤ cl) (hll : l.length ≤ 8796093022207) (hl : SliceR dmvR 2 All w ol l) :
    Calls Tryz.prog 9 #[.agg #[.int .i64 n, .slice oe es.length c], .agg #[.slice od d.length cd, .slice os s.length cs, .slice ol l.length cl]] w fun r w' => r = .returned (.bool true) ∧ Below w.heap.size w w' := by
  have HU : Hid (gErr n es = 0 → Uf (forest es) (eL es)) := forest_ok n es
  obtain ⟨W0, e0⟩ : ∃ W0, w.alloc (.cells #[.int .i64 n, .slice oe es.length c] 24) = W0 := ⟨_, rfl⟩
  have hW0s : W0.heap.size = w.heap.size + 1 := by rw [← e0, World.size_alloc]
  obtain ⟨W1, e1⟩ : ∃ W1, W0.alloc (.cells #[.slice od d.length cd, .slice os s.length cs, .slice ol l.length cl] 63) = W1 := ⟨_, rfl⟩
  have bx0 : Box W0 w.heap.size [.int .i64 n, .slice oe es.length c] 24 := by rw [← e0]; exact Box.new w [.int .i64 n, .slice oe es.length c] 24
  have bx1 : Box W1 w.heap.size [.int .i64 n, .slice oe es.length c] 24 := by rw [← e1]; exact bx0.next _
  have bt1 : Box W1 (w.heap.size + 1) [.slice od d.length cd, .slice os s.length cs, .slice ol l.length cl] 63 := by rw [← hW0s, ← e1]; exact Box.new W0 [.slice od d.length cd, .slice os s.length cs, .slice ol l.length cl] 63
  have bb1 : Below w.heap.size w W1 := by
    rw [← e1, ← e0]
    exact bnew (bnew (Below.refl w.heap.size w) _) _
  have HX := hide bx1
  have HT := hide bt1
  have HB := hide bb1
  have K1 := hide (rfew18_any n es oe c All W1 (hs.below edgR_ok bb1) hc hc2 d od cd)
  have HD := hide hd
  have HS := hide hs
  have HSS := hide hS
  have HL := hide hl
  have haw : ∀ W : World, Calls Tryz.prog 12 #[] W fun e w' => e = .returned (.bool true) ∧ Below W.heap.size W w' := fun W => awake43_any W
  have HAW := hide haw
  have hwl := bt1.lt
  have y0 := bx1.cell 0
  have y1 := bx1.cell 1
  have t0 := bt1.cell 0
  have t1 := bt1.cell 1
  have t2 := bt1.cell 2
  simp only [List.getElem?_cons_zero, List.getElem?_cons_succ] at y0 y1 t0 t1 t2
  clear hs hd hS hl bx0 bx1 bt1 bb1 haw
  go_enter Tryz.func9, Tryz.ntmps9
  go_wp2_with fail
  clear e0 e1 hW0s
  refine K1.out.mono ?_
  rintro e w2 ⟨rfl, hb2⟩
  have HB2 := hide (below_then HB.out hb2)
  have HX2 := hide (HX.out.below hb2)
  have HT2 := hide (HT.out.below hb2)
  clear hb2 y0 y1 t0 t1 t2
  have y0 := HX2.out.cell 0
  have y1 := HX2.out.cell 1
  have t0 := HT2.out.cell 0
  have t1 := HT2.out.cell 1
  have t2 := HT2.out.cell 2
  simp only [List.getElem?_cons_zero, List.getElem?_cons_succ] at y0 y1 t0 t1 t2
  by_cases hf : (smB n es 6 9 && decide (d.length ≤ 24)) = true
  case neg =>
    have hf2 : (smB n es 6 9 && decide (d.length ≤ 24)) = false := by simpa using hf
    rw [hf2]
    clear hf hf2
    go_wp2_with fail
    refine (HAW.out _).mono ?_
    rintro e w6 ⟨rfl, hb6⟩
    have HB6 := hide (below_then HB2.out hb6)
    clear hb6
    go_wp2_with fail
    go_ret
    exact ⟨by first | rfl | trivial, HB6.out⟩
  have h40 : es.length ≤ 1000 := by
    simp only [Bool.and_eq_true, decide_eq_true_eq] at hf
    have := smB_len hf.1
    omega
  rw [hf]
  clear hf
  go_wp2_with fail
  refine (few17_any s os cs _).mono ?_
  rintro e w3 ⟨rfl, hb3⟩
  have HB3 := hide (below_then HB2.out hb3)
  have HX3 := hide (HX2.out.below hb3)
  have HT3 := hide (HT2.out.below hb3)
  clear hb3 y0 y1 t0 t1 t2
  have y0 := HX3.out.cell 0
  have y1 := HX3.out.cell 1
  have t0 := HT3.out.cell 0
  have t1 := HT3.out.cell 1
  have t2 := HT3.out.cell 2
  simp only [List.getElem?_cons_zero, List.getElem?_cons_succ] at y0 y1 t0 t1 t2
  by_cases hf : s.length ≤ 24
  case neg =>
    rw [decide_eq_false hf]
    clear hf
    go_wp2_with fail
    refine (HAW.out _).mono ?_
    rintro e w6 ⟨rfl, hb6⟩
    have HB6 := hide (below_then HB3.out hb6)
    clear hb6
    go_wp2_with fail
    go_ret
    exact ⟨by first | rfl | trivial, HB6.out⟩
  rw [decide_eq_true hf]
  have HLM : Hid (∀ W, Below w.heap.size w W → Calls Tryz.prog 32 #[.slice ol l.length cl] W fun e w' => ∃ o2 c2, e = .returned (.slice o2 l.length c2) ∧ l.length ≤ c2 ∧ SliceR dmvR 2 All w' o2 l ∧ Below W.heap.size W w') := fun W hW => by
    refine (lmoves_any l ol cl All W (HL.out.below dmvR_ok hW) hll).mono ?_
    rintro e w' ⟨v, rfl, ho, hb⟩
    obtain ⟨o2, c2, rfl, h2, h3⟩ := OwnS.intoM ho
    exact ⟨o2, c2, rfl, h2, h3, hb⟩
  clear hf
  go_wp2_with fail
  refine (HLM.out w3 HB3.out).mono ?_
  rintro e w4 ⟨o4, c4, rfl, hc4, hs4, hb4⟩
  have HB4 := hide (below_then HB3.out hb4)
  have HX4 := hide (HX3.out.below hb4)
  have HT4 := hide (HT3.out.below hb4)
  clear hb4 hs4 y0 y1 t0 t1 t2
  have y0 := HX4.out.cell 0
  have y1 := HX4.out.cell 1
  have t0 := HT4.out.cell 0
  have t1 := HT4.out.cell 1
  have t2 := HT4.out.cell 2
  simp only [List.getElem?_cons_zero, List.getElem?_cons_succ] at y0 y1 t0 t1 t2
  go_wp2_with fail
  refine (fewM_any l.length o4 c4 w4).mono ?_
  rintro e w5 ⟨rfl, hw5⟩
  subst hw5
  generalize fewMB l.length = bf at *
  cases bf
  · go_wp2_with fail
    refine (HAW.out _).mono ?_
    rintro e w6 ⟨rfl, hb6⟩
    have HB6 := hide (below_then HB4.out hb6)
    clear hb6
    go_wp2_with fail
    go_ret
    exact ⟨by first | rfl | trivial, HB6.out⟩
  have hML := movesR_len n es (forest es) s
  have hPL := playR_len n es (forest es) d l
  have HM1 : Hid (∀ W, Below w.heap.size w W → Calls Tryz.prog 33 #[.agg #[.int .i64 n, .slice oe es.length c], .slice os s.length cs] W (MvsPost 81 W (movesR n es (forest es) s))) := fun W hW => dmoves_any n es oe c All W (HS.out.below edgR_ok hW) hc h40 (forest es) HU s os cs All (HSS.out.below intR_ok hW) hsc hsl
  have HM2 : Hid (∀ W, Below w.heap.size w W → Calls Tryz.prog 34 #[.agg #[.int .i64 n, .slice oe es.length c], .slice os s.length cs] W (MvsPost 112 W (movesR n es (forest es) s))) := fun W hW => rmoves43_any n es oe c All W (HS.out.below edgR_ok hW) hc h40 (forest es) HU s os cs All (HSS.out.below intR_ok hW) hsc hsl
  have HP1 : Hid (∀ W, Below w.heap.size w W → Calls Tryz.prog 35 #[.agg #[.int .i64 n, .slice oe es.length c], .slice od d.length cd, .slice ol l.length cl] W (DivPost W (playR n es (forest es) d l))) := fun W hW => dplay_any n es oe c All W (HS.out.below edgR_ok hW) hc h40 (forest es) HU d od cd All (HD.out.below intR_ok hW) hdc hdl l ol cl All (HL.out.below dmvR_ok hW) hlc (by omega)
  have HP2 : Hid (∀ W o2 c2, Below w.heap.size w W → SliceR dmvR 2 All W o2 l → l.length ≤ c2 → Calls Tryz.prog 36 #[.agg #[.int .i64 n, .slice oe es.length c], .slice od d.length cd, .slice o2 l.length c2] W (DivPost W (playR n es (forest es) d l))) := fun W o2 c2 hW h2 h3 => rplay43_any n es oe c All W (HS.out.below edgR_ok hW) hc h40 (forest es) HU d od cd All (HD.out.below intR_ok hW) hdc hdl l o2 c2 All h2 h3 (by omega)
  generalize movesR n es (forest es) s = rm at *
  generalize playR n es (forest es) d l = rp at *
  obtain ⟨m, em⟩ := rm
  obtain ⟨a, ea⟩ := rp
  simp only at hML hPL
  have HLM2 : Hid (∀ W o2 c2, SliceR dmvR 2 All W o2 m → Calls Tryz.prog 32 #[.slice o2 m.length c2] W fun e w' => ∃ o3 c3, e = .returned (.slice o3 m.length c3) ∧ m.length ≤ c3 ∧ SliceR dmvR 2 All w' o3 m ∧ Below W.heap.size W w') := fun W o2 c2 h2 => by
    refine (lmoves_any m o2 c2 All W h2 (by omega)).mono ?_
    rintro e w' ⟨v, rfl, ho, hb⟩
    obtain ⟨o3, c3, rfl, h3, h4⟩ := OwnS.intoM ho
    exact ⟨o3, c3, rfl, h3, h4, hb⟩
  have HSM : Hid (∀ W o2 o3 c2 c3, SliceR dmvR 2 All W o2 m → SliceR dmvR 2 All W o3 m → Calls Tryz.prog 37 #[.slice o2 m.length c2, .slice o3 m.length c3] W fun e w' => e = .returned (.bool true) ∧ Below W.heap.size W w') := fun W o2 o3 c2 c3 h2 h3 => by
    have h5 := sameM_any m m o2 o3 c2 c3 All W h2 h3 (by omega)
    rw [decide_eq_true (rfl : m = m)] at h5
    exact h5
  have HSA : Hid (∀ W o2 o3 c2 c3, SliceR intR 1 All W o2 a → SliceR intR 1 All W o3 a → a.length ≤ c2 → Calls Tryz.prog 38 #[.slice o2 a.length c2, .slice o3 a.length c3] W fun e w' => e = .returned (.bool true) ∧ Below W.heap.size W w') := fun W o2 o3 c2 c3 h2 h3 hcl => by
    have h5 := same_any a a o2 o3 c2 c3 All W h2 h3 hcl (by omega)
    rw [decide_eq_true (rfl : a = a)] at h5
    exact h5
  go_wp2_with fail
  refine (HM1.out w4 HB4.out).mono ?_
  rintro e w6 ⟨v6, rfl, ho6, hb6⟩
  obtain ⟨oA, cA, hv6, hcA, hsA⟩ := OwnS.intoM ho6
  simp only at hv6 hcA hsA
  subst hv6
  have HSA6 := hide hsA
  have HB6 := hide (below_then HB4.out hb6)
  have HX6 := hide (HX4.out.below hb6)
  have HT6 := hide (HT4.out.below hb6)
  clear ho6 hb6 hsA y0 y1 t0 t1 t2
  have y0 := HX6.out.cell 0
  have y1 := HX6.out.cell 1
  have t0 := HT6.out.cell 0
  have t1 := HT6.out.cell 1
  have t2 := HT6.out.cell 2
  simp only [List.getElem?_cons_zero, List.getElem?_cons_succ] at y0 y1 t0 t1 t2 ⊢
  go_wp2_with fail
  refine (HM2.out w6 HB6.out).mono ?_
  rintro e w7 ⟨v7, rfl, ho7, hb7⟩
  obtain ⟨oB, cB, hv7, hcB, hsB⟩ := OwnS.intoM ho7
  simp only at hv7 hcB hsB
  subst hv7
  have HSB7 := hide hsB
  have HSA7 := hide (HSA6.out.below dmvR_ok hb7)
  have HB7 := hide (below_then HB6.out hb7)
  have HX7 := hide (HX6.out.below hb7)
  have HT7 := hide (HT6.out.below hb7)
  clear ho7 hb7 hsB y0 y1 t0 t1 t2
  have y0 := HX7.out.cell 0
  have y1 := HX7.out.cell 1
  have t0 := HT7.out.cell 0
  have t1 := HT7.out.cell 1
  have t2 := HT7.out.cell 2
  simp only [List.getElem?_cons_zero, List.getElem?_cons_succ] at y0 y1 t0 t1 t2 ⊢
  go_wp2_with fail
  refine (HP1.out w7 HB7.out).mono ?_
  rintro e w8 ⟨oC, cC, rfl, hcC, hsC, hb8⟩
  simp only at hcC hsC
  have HSC8 := hide hsC
  have HSB8 := hide (HSB7.out.below dmvR_ok hb8)
  have HSA8 := hide (HSA7.out.below dmvR_ok hb8)
  have HB8 := hide (below_then HB7.out hb8)
  have HX8 := hide (HX7.out.below hb8)
  have HT8 := hide (HT7.out.below hb8)
  clear hb8 hsC y0 y1 t0 t1 t2
  have y0 := HX8.out.cell 0
  have y1 := HX8.out.cell 1
  have t0 := HT8.out.cell 0
  have t1 := HT8.out.cell 1
  have t2 := HT8.out.cell 2
  simp only [List.getElem?_cons_zero, List.getElem?_cons_succ] at y0 y1 t0 t1 t2 ⊢
  have HBZ := hide (Below.refl w8.heap.size w8)
  go_upto_region 6 with fail
  go_cut [11, 12] (fun s11 s12 wx => ∃ oE cE, s11 = .slice oE a.length cE ∧ s12 = .int .i64 ea ∧ a.length ≤ cE ∧ Hid (SliceR intR 1 All wx oE a) ∧ Hid (Below w8.heap.size w8 wx))
  case first =>
    go_region_held3 (fun w' => w'.cell? ⟨w.heap.size, 0, none⟩ = some (.int .i64 n) ∧ w'.cell? ⟨w.heap.size, 1, none⟩ = some (.slice oe es.length c) ∧ w'.cell? ⟨w.heap.size + 1, 0, none⟩ = some (.slice od d.length cd) ∧ w'.cell? ⟨w.heap.size + 1, 2, none⟩ = some (.slice ol l.length cl)) (first | with_reducible exact ⟨y0, y1, t0, t2⟩ | exact ⟨y0, y1, t0, t2⟩) (first
      | (go_at_call 32; refine (HLM.out _ (HB8.out.trans ((show Below w8.heap.size w8 _ from by first | with_reducible exact HBZ.out | with_reducible exact HBZ.out.drew).mono HB8.out.size))).mono ?_; rintro e w5 ⟨o5, c5, rfl, hc5, hs5, h5⟩; have HS5 := hide hs5; have y0 := (h5.cell (World.block_lt_of_cell? _ _ y0)).trans y0; have y1 := (h5.cell (World.block_lt_of_cell? _ _ y1)).trans y1; have t0 := (h5.cell (World.block_lt_of_cell? _ _ t0)).trans t0; have t2 := (h5.cell (World.block_lt_of_cell? _ _ t2)).trans t2; have HBZ := hide (show Below w8.heap.size w8 w5 from below_then (by first | with_reducible exact HBZ.out | with_reducible exact HBZ.out.drew) h5); clear h5 hs5)
      | (go_at_call 36; refine (HP2.out _ o5 c5 (HB8.out.trans ((show Below w8.heap.size w8 _ from by first | with_reducible exact HBZ.out | with_reducible exact HBZ.out.drew).mono HB8.out.size)) (by first | with_reducible exact HS5.out | exact HS5.out) hc5).mono ?_; rintro e w9 ⟨oE, cE, rfl, hcE, hsE, h9⟩; have HSE := hide hsE; have y0 := (h9.cell (World.block_lt_of_cell? _ _ y0)).trans y0; have y1 := (h9.cell (World.block_lt_of_cell? _ _ y1)).trans y1; have t0 := (h9.cell (World.block_lt_of_cell? _ _ t0)).trans t0; have t2 := (h9.cell (World.block_lt_of_cell? _ _ t2)).trans t2; have HBZ := hide (show Below w8.heap.size w8 w9 from below_then (by first | with_reducible exact HBZ.out | with_reducible exact HBZ.out.drew) h9); clear h9 hsE))
    all_goals
      go_wp2_with fail
      go_meet
      exact ⟨oE, cE, rfl, rfl, hcE, HSE, HBZ⟩
  case rest =>
    obtain ⟨oE, cE, rfl, rfl, hcE, HSE, HC⟩ := hcut
    have HB9 := hide (below_then HB8.out HC.out)
    have HSC9 := hide (HSC8.out.below intR_ok HC.out)
    have HSB9 := hide (HSB8.out.below dmvR_ok HC.out)
    have HSA9 := hide (HSA8.out.below dmvR_ok HC.out)
    clear y0 y1 t0 t1 t2 HBZ
    go_wp2_with fail
    refine (HLM2.out wc oA cA HSA9.out).mono ?_
    rintro e w10 ⟨o10, c10, rfl, hc10, hs10, hb10⟩
    have HS10 := hide hs10
    have HSE10 := hide (HSE.out.below intR_ok hb10)
    have HSC10 := hide (HSC9.out.below intR_ok hb10)
    have HSB10 := hide (HSB9.out.below dmvR_ok hb10)
    have HB10 := hide (below_then HB9.out hb10)
    clear hs10 hb10
    go_wp2_with fail
    refine (HSM.out w10 o10 oB c10 cB HS10.out HSB10.out).mono ?_
    rintro e w11 ⟨rfl, hb11⟩
    have HSE11 := hide (HSE10.out.below intR_ok hb11)
    have HSC11 := hide (HSC10.out.below intR_ok hb11)
    have HB11 := hide (below_then HB10.out hb11)
    clear hb11
    go_wp2_with fail
    refine (HSA.out w11 oC oE cC cE HSC11.out HSE11.out hcC).mono ?_
    rintro e w12 ⟨rfl, hb12⟩
    have HB12 := hide (below_then HB11.out hb12)
    clear hb12
    go_wp2_with fail
    refine (HAW.out _).mono ?_
    rintro e w13 ⟨rfl, hb13⟩
    have HB13 := hide (below_then HB12.out hb13)
    clear hb13
    go_wp2_with fail
    go_ret
    exact ⟨by first | rfl | trivial, HB13.out⟩
end Go.Proofs.YtpgopmmobbemcaaGreat

set_option linter.unusedVariables false
namespace Go.Proofs.YtpgopmmobbemcaaGreat
open Go.RowKit Go.ChangeShapes Go.WideShapes Go.ChangeAt Go.Deep

set_option maxRecDepth 100000 in
theorem dollarMoves_lifted (os : Os) (started : os.Started) (H : Type) (enc : TypeId × Value → H) :
    ReturnsInHanded {} Tryz.checked os 9 .any (Rows.dollarMovesSpec.pre6 enc Tryz.prog Tryz.f9 Rows.dollarMovesRow.domain false) (Rows.dollarMovesSpec.post enc Tryz.prog Tryz.f9 false true false false) := by
  refine returnsInHanded_of_change_sized (C := Tryz.checked) own_knob started (by kernel_rfl) Tryz.func9
    (ChangeSpec.witness6 (enc := enc) (C := Tryz.checked) false ⟨#[], #[.agg #[.int .i64 0, .slice none 0 0], .agg #[.slice none 0 0, .slice none 0 0, .slice none 0 0]], []⟩ 8 (by kernel_rfl) (by kernel_rfl) (by kernel_rfl) (by kernel_rfl)) ?_
  intro W base args ds gs before hval0 hW _ hsz _
  have hval : ∀ (j : Nat) t v, Tryz.f9.params[j]? = some t → args[j]? = some v → Value.okWide Tryz.prog W .any base t v := hval0
  have hW' := hW
  obtain ⟨p, q, hA0, hV, rfl, _, _⟩ := hW
  have hA : DataW.TrodAll enc Tryz.prog W 0 (fun _ => true) true Tryz.f9.params.toList args.toList ds p := hA0
  rw [Tryz.params9] at hA hval
  obtain ⟨v0, v1, d0, d1, p0, p1, rfl, rfl, rfl, h0, h1⟩ := trodAll_two hA
  obtain ⟨rfl, rfl⟩ := trodVars_none hV
  have h0k := h0
  have h1k := h1
  obtain ⟨n0, es0, oe0, c0, rfl, hc0, hl0, he0⟩ := open_graph (hval 0 24 v0 rfl rfl) h0
  obtain ⟨dd, od, cd, sc, os1, cs1, ml, ol, cl, e0, e1, e2, rfl, hdc, hdl, hd1, hsc, hsl, hs1, hlc, hll, hl1, rfl, hfew⟩ := open_tab43 (hval 1 63 v1 rfl rfl) h1
  have hz : (DataW.weightsEach Tryz.prog [24, 63] [d0, .agg [e0, e1, e2]]).all (· ≤ reachBytes) = true := by
    have h := hsz
    rw [Tryz.params9] at h
    exact h
  have hlim := tab_few rfl hfew hz
  clear hsz hz
  clear hA0 hval0
  simp only [List.append_nil] at hW'
  have hlt0 : ∀ y ∈ p0, y.block < W.heap.size := fun y hy => by simpa using hW'.lt y (by simp [hy])
  have hlt1 : ∀ y ∈ p1, y.block < W.heap.size := fun y hy => by simpa using hW'.lt y (by simp [hy])
  refine (moves_walk W n0 es0 oe0 c0 hc0 hl0 he0 dd od cd hdc hdl hd1 sc os1 cs1 hsc hsl hs1 ml ol cl hlc hlim hl1).mono fun e W' ⟨he, hn⟩ => ?_
  subst he
  exact ⟨_, rfl, _, _, _, [], _, [], hW', trodAll_mk1 (shut_bool Tryz.underlying4 true), trodAll_mk2 (Below.trod laid_out (by kernel_rfl) (of_decide_eq_true (by kernel_rfl)) h0k hn hlt0) (Below.trod laid_out (by kernel_rfl) (of_decide_eq_true (by kernel_rfl)) h1k hn hlt1), rfl, hn.frame _, fun h => by cases h⟩

theorem dollarMoves_holds : Rows.DollarMovesSaid :=
  OpenClaim.holds_of_wide 9 Tryz.f9 rfl rfl rfl rfl rfl rfl rfl ⟨rfl, rfl, rfl, rfl, rfl⟩ rfl rfl rfl rfl rfl (by kernel_rfl) Tryz.func9 (by kernel_rfl)
    (of_decide_eq_true (by kernel_rfl)) (by unfold Func.isWrapper; first | (rw [if_pos (by decide +kernel)]; kernel_rfl) | (rw [if_neg (by decide +kernel)]; exact ⟨rfl, rfl⟩))
    (fun os started H enc _ => dollarMoves_lifted os started H enc)

#print axioms dollarMoves_holds
end Go.Proofs.YtpgopmmobbemcaaGreat

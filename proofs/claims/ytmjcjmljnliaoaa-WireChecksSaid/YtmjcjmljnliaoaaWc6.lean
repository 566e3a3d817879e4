/-
  WireChecks returns true for every list of fates and every snapshot: Check and Quiet agree with the reference. No condition.
  The walk of WireChecks.
  The reference of the wire machine: the check of the fates, quiet snapshots, few fates; tables that are the same.
  Two lists of outputs, two lists of ints: SameOutputs, SameInts.
  awake: the examples of chapter 56 hold.
-/
import Derived.Test.YtmjcjmljnliaoaaWc5
import Derived.Deep.RegionWith
import Derived.Deep.LoopGhost
import Derived.Deep.DeepCutAuto
import Derived.Test.YtmjcjmljnliaoaaProg
import Derived.Deep.QuietTactic
import Derived.BigQuiet
import Derived.StillTailTactics
import Derived.Test.YtmjcjmljnliaoaaRows

set_option linter.unusedVariables false
set_option linter.unusedSimpArgs false
namespace Go.Proofs.Ytmjcjmljnliaoaa
open Go.RowKit

/-- A snapshot in a block of its own. -/
def SnapBox (w : World) (b : Nat) (s : Snp) : Prop := ∃ oq nq cq os ns cs ow nw cw oc nc cc,
  Box w b [.slice oq nq cq, .slice os ns cs, .slice ow nw cw, .slice oc nc cc, .int .i64 s.ticks, .int .i64 s.sent, .int .i64 s.flying, .int .i64 s.queued] 28 ∧
  SnapAt w (.agg #[.slice oq nq cq, .slice os ns cs, .slice ow nw cw, .slice oc nc cc, .int .i64 s.ticks, .int .i64 s.sent, .int .i64 s.flying, .int .i64 s.queued]) s
theorem alloc_size (w : World) (o : Obj) : (w.alloc o).heap.size = w.heap.size + 1 := by simp
theorem SnapF.keep {F : Foot} {w w' : World} {v : Value} {s : Snp} (h : SnapF F w v s) (hb : SameOn F w w') : SnapF F w' v s := by
  obtain ⟨oq, cq, os, cs, ow, cw, oc, cc, rfl, h1, h2, h3, h4, h5, h6, h7, h8⟩ := h
  exact ⟨oq, cq, os, cs, ow, cw, oc, cc, rfl, h1, h2, h3, h4, h5.keep prcR_ok hb, h6.keep intR_ok hb, h7.keep tabR_ok hb, h8.keep tabR_ok hb⟩
theorem SnapF.below {F : Foot} {w w' : World} {v : Value} {s : Snp} (h : SnapF F w v s) (hb : Below w.heap.size w w') : SnapF F w' v s := h.keep (SameOn.of_below hb)
theorem SnapF.all {F : Foot} {w : World} {v : Value} {s : Snp} (h : SnapF F w v s) : SnapAt w v s := by
  obtain ⟨oq, cq, os, cs, ow, cw, oc, cc, rfl, h1, h2, h3, h4, h5, h6, h7, h8⟩ := h
  exact ⟨oq, cq, os, cs, ow, cw, oc, cc, rfl, h1, h2, h3, h4, h5.all prcR_ok (by omega), h6.all intR_ok (by omega), h7.all tabR_ok (by omega), h8.all tabR_ok (by omega)⟩
theorem SnapBox.below {w w' : World} {b : Nat} {s : Snp} (h : SnapBox w b s) (hb : Below w.heap.size w w') : SnapBox w' b s := by
  obtain ⟨oq, nq, cq, os, ns, cs, ow, nw, cw, oc, nc, cc, h1, h2⟩ := h
  exact ⟨oq, nq, cq, os, ns, cs, ow, nw, cw, oc, nc, cc, h1.below hb, h2.below hb⟩
theorem SnapF.form {F : Foot} {w : World} {v : Value} {s : Snp} (h : SnapF F w v s) : ∃ oq nq cq os ns cs ow nw cw oc nc cc, v = .agg #[.slice oq nq cq, .slice os ns cs, .slice ow nw cw, .slice oc nc cc, .int .i64 s.ticks, .int .i64 s.sent, .int .i64 s.flying, .int .i64 s.queued] := by
  obtain ⟨oq, cq, os, cs, ow, cw, oc, cc, rfl, _⟩ := h
  exact ⟨_, _, _, _, _, _, _, _, _, _, _, _, rfl⟩
theorem SnapF.boxed {F : Foot} {w : World} {s : Snp} {oq os ow oc : Option Addr} {nq cq ns cs nw cw nc cc : Nat} (h : SnapF F w (.agg #[.slice oq nq cq, .slice os ns cs, .slice ow nw cw, .slice oc nc cc, .int .i64 s.ticks, .int .i64 s.sent, .int .i64 s.flying, .int .i64 s.queued]) s) :
    SnapBox (w.alloc (.cells #[.slice oq nq cq, .slice os ns cs, .slice ow nw cw, .slice oc nc cc, .int .i64 s.ticks, .int .i64 s.sent, .int .i64 s.flying, .int .i64 s.queued] 28)) w.heap.size s :=
  ⟨oq, nq, cq, os, ns, cs, ow, nw, cw, oc, nc, cc, Box.new w [.slice oq nq cq, .slice os ns cs, .slice ow nw cw, .slice oc nc cc, .int .i64 s.ticks, .int .i64 s.sent, .int .i64 s.flying, .int .i64 s.queued] _, h.all.below (bnew (Below.refl _ _) _)⟩
def snapZ : List Value := [.slice none 0 0, .slice none 0 0, .slice none 0 0, .slice none 0 0, .int .i64 0, .int .i64 0, .int .i64 0, .int .i64 0]
theorem SnapF.put8 {F : Foot} {w : World} {b : Nat} {s : Snp} {oq os ow oc : Option Addr} {nq cq ns cs nw cw nc cc : Nat} (hz : Box w b snapZ 28)
    (h : SnapF F w (.agg #[.slice oq nq cq, .slice os ns cs, .slice ow nw cw, .slice oc nc cc, .int .i64 s.ticks, .int .i64 s.sent, .int .i64 s.flying, .int .i64 s.queued]) s) (hF : ¬ F b) :
    SnapBox ((((((((w.setCell ⟨b, 0, none⟩ (.slice oq nq cq)).setCell ⟨b, 1, none⟩ (.slice os ns cs)).setCell ⟨b, 2, none⟩ (.slice ow nw cw)).setCell ⟨b, 3, none⟩ (.slice oc nc cc)).setCell ⟨b, 4, none⟩ (.int .i64 s.ticks)).setCell ⟨b, 5, none⟩ (.int .i64 s.sent)).setCell ⟨b, 6, none⟩ (.int .i64 s.flying)).setCell ⟨b, 7, none⟩ (.int .i64 s.queued)) b s := by
  have hfin := (((((((hz.put 0 (.slice oq nq cq)).put 1 (.slice os ns cs)).put 2 (.slice ow nw cw)).put 3 (.slice oc nc cc)).put 4 (.int .i64 s.ticks)).put 5 (.int .i64 s.sent)).put 6 (.int .i64 s.flying)).put 7 (.int .i64 s.queued)
  simp only [snapZ, List.set_cons_zero, List.set_cons_succ] at hfin
  refine ⟨oq, nq, cq, os, ns, cs, ow, nw, cw, oc, nc, cc, hfin, (h.keep fun k hk _ => ?_).all⟩
  have hne : k ≠ b := fun e => hF (e ▸ hk)
  rw [Below.heap_setCell _ _ _ k hne, Below.heap_setCell _ _ _ k hne, Below.heap_setCell _ _ _ k hne, Below.heap_setCell _ _ _ k hne, Below.heap_setCell _ _ _ k hne, Below.heap_setCell _ _ _ k hne, Below.heap_setCell _ _ _ k hne, Below.heap_setCell _ _ _ k hne]
theorem below_put8 {B : Nat} {w0 w : World} {b : Nat} {v0 v1 v2 v3 v4 v5 v6 v7 : Value} (h : Below B w0 w) (hb : B ≤ b) :
    Below B w0 ((((((((w.setCell ⟨b, 0, none⟩ v0).setCell ⟨b, 1, none⟩ v1).setCell ⟨b, 2, none⟩ v2).setCell ⟨b, 3, none⟩ v3).setCell ⟨b, 4, none⟩ v4).setCell ⟨b, 5, none⟩ v5).setCell ⟨b, 6, none⟩ v6).setCell ⟨b, 7, none⟩ v7) :=
  (((((((h.setCell hb _).setCell hb _).setCell hb _).setCell hb _).setCell hb _).setCell hb _).setCell hb _).setCell hb _
theorem SnapF.counts {F : Foot} {w : World} {s : Snp} {oq os ow oc : Option Addr} {nq cq ns cs nw cw nc cc : Nat} {a b c d : Value} (h : SnapF F w (.agg #[.slice oq nq cq, .slice os ns cs, .slice ow nw cw, .slice oc nc cc, a, b, c, d]) s) :
    nc = s.counts.length ∧ SliceR (slcR intR 1) 1 F w oc s.counts := by
  obtain ⟨oq', cq', os', cs', ow', cw', oc', cc', e, h1, h2, h3, h4, h5, h6, h7, h8⟩ := h
  injection e with e
  simp at e
  obtain ⟨_, _, _, ⟨rfl, rfl, rfl⟩, _⟩ := e
  exact ⟨rfl, h8⟩
theorem ones_tab (w : World) : SliceR (slcR intR 1) 1 All (((w.alloc (.cells #[.int .i64 1] 3)).alloc (.cells #[.int .i64 1] 3)).alloc (.cells #[.slice (some ⟨w.heap.size, 0, none⟩) 1 1, .slice (some ⟨w.heap.size + 1, 0, none⟩) 1 1] 22)) (some ⟨w.heap.size + 1 + 1, 0, none⟩) [[1], [1]] := by
  have s10 : SliceR intR 1 All ((w.alloc (.cells #[.int .i64 1] 3)).alloc (.cells #[.int .i64 1] 3)) (some ⟨w.heap.size, 0, none⟩) [1] := by simpa using up intR_ok (.cells #[.int .i64 1] 3) (ints_lit (F := All) (G := All) w 3 [1] (by intro x hx; simp at hx; subst hx; exact i64_1) trivial)
  have s11 : SliceR intR 1 All ((w.alloc (.cells #[.int .i64 1] 3)).alloc (.cells #[.int .i64 1] 3)) (some ⟨w.heap.size + 1, 0, none⟩) [1] := by simpa using ints_lit (F := All) (G := All) (w.alloc (.cells #[.int .i64 1] 3)) 3 [1] (by intro x hx; simp at hx; subst hx; exact i64_1) trivial
  simpa using lit2 (F := All) (G := All) tabR_ok ((w.alloc (.cells #[.int .i64 1] 3)).alloc (.cells #[.int .i64 1] 3)) 22 _ _ [1] [1] (ints_row (c := 1) (by decide) (by decide) s10) (ints_row (c := 1) (by decide) (by decide) s11) (fun _ h => h) trivial
theorem below_then' {B : Nat} {a w w1 : World} {o1 o2 o3 : Obj} (h : Below B a w) (hB : B ≤ w.heap.size) (h2 : Below (((w.alloc o1).alloc o2).alloc o3).heap.size (((w.alloc o1).alloc o2).alloc o3) w1) : Below B a w1 :=
  (((h.alloc hB o1).alloc (Nat.le_trans hB (by simp)) o2).alloc (Nat.le_trans hB (by simp; omega)) o3).trans (h2.mono (Nat.le_trans hB (by simp; omega)))
/-- The examples. -/
theorem ex_row (w : World) (b : Nat) (o1 o2 : Option Addr) (hB : Box w b [.slice none 0 0, .int .i64 3, .int .i64 2, .slice o1 1 1, .int .i64 7, .int .i64 3, .slice o2 1 1, .int .i64 4, .int .i64 3] 97)
    (h1 : SliceR intR 1 All w o1 [1]) (h2 : SliceR intR 1 All w o2 [2]) {k : Nat} (hk : k < 3) :
    ∃ (oF : Option Addr) (F : List Int) (n cF T S : Nat), n = F.length ∧ w.cell? ⟨b, k * 3, none⟩ = some (.slice oF n cF) ∧ w.cell? ⟨b, k * 3 + 1, none⟩ = some (.int .i64 T) ∧ w.cell? ⟨b, k * 3 + 2, none⟩ = some (.int .i64 S) ∧
      SliceR intR 1 All w oF F ∧ pairOkX F T S = true ∧ T ≤ 20 ∧ fateErr F = 0 := by
  match k, hk with
  | 0, _ => exact ⟨none, [], 0, 0, 3, 2, rfl, hB.cell 0, hB.cell 1, hB.cell 2, SliceR.nil _ _ _ _ _, pairX_none, by omega, by decide⟩
  | 1, _ => exact ⟨o1, [1], 1, 1, 7, 3, rfl, hB.cell 3, hB.cell 4, hB.cell 5, h1, pairX_lost, by omega, by decide⟩
  | 2, _ => exact ⟨o2, [2], 1, 1, 4, 3, rfl, hB.cell 6, hB.cell 7, hB.cell 8, h2, pairX_twice, by omega, by decide⟩

set_option maxRecDepth 100000 in
set_option maxHeartbeats 2000000 in
theorem awake56_any (w : World) : Calls Try.prog 17 #[] w fun e w' => e = .returned (.bool true) ∧ Below w.heap.size w w' := by
  go_enter Try.func17, Try.ntmps17
  go_wp2_with fail
  have hB := Box.new ((w.alloc (.cells #[.int .i64 1] 3)).alloc (.cells #[.int .i64 2] 3)) [.slice none 0 0, .int .i64 3, .int .i64 2, .slice (some ⟨w.heap.size, 0, none⟩) 1 1, .int .i64 7, .int .i64 3, .slice (some ⟨w.heap.size + 1, 0, none⟩) 1 1, .int .i64 4, .int .i64 3] 97
  have hB0 : Below w.heap.size w (((w.alloc (.cells #[.int .i64 1] 3)).alloc (.cells #[.int .i64 2] 3)).alloc (.cells #[.slice none 0 0, .int .i64 3, .int .i64 2, .slice (some ⟨w.heap.size, 0, none⟩) 1 1, .int .i64 7, .int .i64 3, .slice (some ⟨w.heap.size + 1, 0, none⟩) 1 1, .int .i64 4, .int .i64 3] 97)) := bnew (bnew (bnew (Below.refl _ _) _) _) _
  have hi1 := up intR_ok (.cells #[.slice none 0 0, .int .i64 3, .int .i64 2, .slice (some ⟨w.heap.size, 0, none⟩) 1 1, .int .i64 7, .int .i64 3, .slice (some ⟨w.heap.size + 1, 0, none⟩) 1 1, .int .i64 4, .int .i64 3] 97) (up intR_ok (.cells #[.int .i64 2] 3) (ints_lit (F := All) (G := All) w 3 [1] (by intro x hx; simp at hx; subst hx; exact i64_1) trivial))
  have hi2 := up intR_ok (.cells #[.slice none 0 0, .int .i64 3, .int .i64 2, .slice (some ⟨w.heap.size, 0, none⟩) 1 1, .int .i64 7, .int .i64 3, .slice (some ⟨w.heap.size + 1, 0, none⟩) 1 1, .int .i64 4, .int .i64 3] 97) (ints_lit (F := All) (G := All) (w.alloc (.cells #[.int .i64 1] 3)) 3 [2] (by intro x hx; simp at hx; subst hx; exact i64_2) trivial)
  simp only [List.map_cons, List.map_nil] at hi1 hi2
  have hszA : ∀ (W : World) (o : Obj), (W.alloc o).heap.size = W.heap.size + 1 := fun W o => by simp
  simp only [hszA] at hB hi2
  generalize e3 : ((w.alloc (.cells #[.int .i64 1] 3)).alloc (.cells #[.int .i64 2] 3)).alloc (.cells #[.slice none 0 0, .int .i64 3, .int .i64 2, .slice (some ⟨w.heap.size, 0, none⟩) 1 1, .int .i64 7, .int .i64 3, .slice (some ⟨w.heap.size + 1, 0, none⟩) 1 1, .int .i64 4, .int .i64 3] 97) = W3 at *
  have HB0 := hide hB0
  have HBX : Hid (Box W3 (w.heap.size + 1 + 1) [.slice none 0 0, .int .i64 3, .int .i64 2, .slice (some ⟨w.heap.size, 0, none⟩) 1 1, .int .i64 7, .int .i64 3, .slice (some ⟨w.heap.size + 1, 0, none⟩) 1 1, .int .i64 4, .int .i64 3] 97) := by
    exact hB
  have HI1 := hide hi1
  have HI2 := hide hi2
  clear e3 hB0 hB hi1 hi2 hszA
  go_loopg [14] 3 (fun g i wr => ∃ k : Nat, k ≤ 3 ∧ g = 3 - k ∧ i = .int .i64 k ∧ Hid (Below W3.heap.size W3 wr))
  case atStart => exact ⟨0, by omega, by omega, rfl, Below.refl _ _⟩
  case round =>
    obtain ⟨k, hk, hg, rfl, HB⟩ := hrel
    have HG := hide hg
    clear hg
    by_cases hlt : k < 3
    · obtain ⟨oF, F, nF, cF, T, S, hnF, x0, x1, x2, hF, hok, hT, hfe⟩ := ex_row wr _ _ _ (HBX.out.below HB.out) (HI1.out.below intR_ok HB.out) (HI2.out.below intR_ok HB.out) hlt
      have HNF := hide hnF
      have HOK := hide hok
      have HFE := hide hfe
      obtain ⟨wy, ey⟩ : ∃ wy, wr.alloc (.cells #[.slice oF nF cF, .int .i64 T, .int .i64 S] 97) = wy := ⟨_, rfl⟩
      have bxy : Box wy wr.heap.size [.slice oF nF cF, .int .i64 T, .int .i64 S] 97 := by rw [← ey]; exact Box.new wr [.slice oF nF cF, .int .i64 T, .int .i64 S] 97
      have bby := bnew (Below.refl wr.heap.size wr) (.cells #[.slice oF nF cF, .int .i64 T, .int .i64 S] 97)
      rw [ey] at bby
      have HF := hide (hF.below intR_ok bby)
      have HBY : Hid (Below W3.heap.size W3 wy) := HB.out.trans (bby.mono HB.out.size)
      clear hnF hok hfe hF bby
      go_upto_region 4 with fail
      clear ey x0 x1 x2
      have d0 := bxy.cell 0
      simp only [List.getElem?_cons_zero] at d0
      have lx := bxy.lt
      have HXY := hide bxy
      clear bxy
      go_cut [2, 3, 4, 14] (fun s2 s3 s4 s14 wx => s2 = .pointer (some ⟨wr.heap.size, 0, none⟩) ∧ s14 = .int .i64 (k : Nat) ∧ s4 = .int .i64 0 ∧ ∃ b s, s3 = .pointer (some ⟨b, 0, none⟩) ∧ Hid (SnapBox wx b s) ∧ Hid (s.ticks = T ∧ s.sent = S ∧ s.net.waiting.length ≤ 9223372036854775807 ∧ s.counts.length ≤ 9223372036854775807 ∧ quietS s = true ∧ s.counts = [[1], [1]]) ∧ Hid (Below wy.heap.size wy wx))
      case first =>
        go_wp2_with fail
        go_region_with (first
          | (go_at_call 61; refine (pair_any _).mono ?_; rintro e w4 ⟨op, os, ow, rfl, hp, hs, ht, hb4⟩
             have hv4 : Below wy.heap.size wy w4 := (by first | exact (Below.refl _ _).drew.trans hb4 | exact (bnew (Below.refl _ _) _).drew.trans (hb4.mono (by simp [World.drew])))
             have d0 := (HXY.out.below hv4).cell 0
             simp only [List.getElem?_cons_zero] at d0
             have lx4 := (HXY.out.below hv4).lt
             have HF4 := hide (HF.out.below intR_ok hv4)
             first
               | (have hz : Box w4 wy.heap.size snapZ 28 := (Box.new wy snapZ 28).keep (hb4.block wy.heap.size (by simp [World.drew])); have lz := hz.lt; have r0 := hz.cell 0; have r1 := hz.cell 1; have r2 := hz.cell 2; have r3 := hz.cell 3; have r4 := hz.cell 4; have r5 := hz.cell 5; have r6 := hz.cell 6; have r7 := hz.cell 7; have rf := hz.free; simp only [snapZ, List.getElem?_cons_zero, List.getElem?_cons_succ] at r0 r1 r2 r3 r4 r5 r6 r7; have hp4 := hide (hp.wide prcR_ok (by decide) (F' := fun k => k < w4.heap.size ∧ k ≠ wy.heap.size) (fun k h hl => ⟨hl, by have h' : (wy.alloc _).heap.size ≤ k := h; rw [alloc_size] at h'; omega⟩)); have hs4 := hide (hs.wide intR_ok (by decide) (F' := fun k => k < w4.heap.size ∧ k ≠ wy.heap.size) (fun k h hl => ⟨hl, by have h' : (wy.alloc _).heap.size ≤ k := h; rw [alloc_size] at h'; omega⟩)); have ht4 := hide (ht.wide tabR_ok (by decide) (F' := fun k => k < w4.heap.size ∧ k ≠ wy.heap.size) (fun k h hl => ⟨hl, by have h' : (wy.alloc _).heap.size ≤ k := h; rw [alloc_size] at h'; omega⟩)))
               | (have hp4 := hide (hp.wide prcR_ok (by decide) (F' := fun k => k < w4.heap.size ∧ True) (fun k h hl => ⟨hl, trivial⟩)); have hs4 := hide (hs.wide intR_ok (by decide) (F' := fun k => k < w4.heap.size ∧ True) (fun k h hl => ⟨hl, trivial⟩)); have ht4 := hide (ht.wide tabR_ok (by decide) (F' := fun k => k < w4.heap.size ∧ True) (fun k h hl => ⟨hl, trivial⟩)))
             have HV4 := hide hv4
             clear hv4 hp hs ht hb4)
          | (go_at_call 23; refine (pair_run_n op os ow oF F cF nF T S _ HNF.out HOK.out hT HFE.out (by first | exact HF4.out | exact up intR_ok _ HF4.out) (by first | exact hp4.out | exact up prcR_ok _ hp4.out) (by first | exact hs4.out | exact up intR_ok _ hs4.out) (by first | exact ht4.out | exact up tabR_ok _ ht4.out)).mono ?_
             rintro e w5 ⟨v, s, rfl, ⟨hs5, t5, u5, l5, m5⟩, hq5, hc5, hb5⟩
             obtain ⟨oq, nq, cq, os5, ns, cs, ow5, nw, cw, oc, nc, cc, rfl⟩ := hs5.form
             have hv5 : Below w4.heap.size w4 w5 := (by first | exact hb5 | exact (bnew (Below.refl _ _) _).trans (hb5.mono (by simp)))
             first | (have hz := hz.below hb5; have r0 := hz.cell 0; have r1 := hz.cell 1; have r2 := hz.cell 2; have r3 := hz.cell 3; have r4 := hz.cell 4; have r5 := hz.cell 5; have r6 := hz.cell 6; have r7 := hz.cell 7; have rf := hz.free; simp only [snapZ, List.getElem?_cons_zero, List.getElem?_cons_succ] at r0 r1 r2 r3 r4 r5 r6 r7) | (have hz : Box w5 w4.heap.size snapZ 28 := (Box.new w4 snapZ 28).keep (hb5.block w4.heap.size (by simp)); have r0 := hz.cell 0; have r1 := hz.cell 1; have r2 := hz.cell 2; have r3 := hz.cell 3; have r4 := hz.cell 4; have r5 := hz.cell 5; have r6 := hz.cell 6; have r7 := hz.cell 7; have rf := hz.free; simp only [snapZ, List.getElem?_cons_zero, List.getElem?_cons_succ] at r0 r1 r2 r3 r4 r5 r6 r7) | skip
             have H5 := hide (And.intro t5 (And.intro u5 (And.intro l5 (And.intro m5 (And.intro hq5 hc5)))))
             have HS5 := hide hs5
             have HV5 := hide hv5
             clear hs5 t5 u5 l5 m5 hq5 hc5 hv5 hb5))
        all_goals
          go_wp2_with fail
          go_meet
          have hwz := HV4.out.size
          have hwz5 := HV5.out.size
          refine ⟨rfl, rfl, rfl, _, s, rfl, ?_, H5.out, ?_⟩
          · first
              | (have hzl := hz.lt; exact SnapF.put8 hz HS5.out (fun h => by rcases h with ⟨h1, h2⟩ | h2 <;> first | omega | exact h2 rfl | (rw [alloc_size] at h2; omega)))
              | exact HS5.out.boxed
          · first
              | (have hzl := hz.lt; exact below_put8 (HV4.out.trans (HV5.out.mono hwz)) (by omega))
              | exact (HV4.out.trans (HV5.out.mono hwz)).alloc (by omega) _
      case rest =>
        obtain ⟨rfl, rfl, rfl, b, s, rfl, HSB, HSF, HBC⟩ := hcut
        obtain ⟨oq, nq, cq, os, ns, cs, ow, nw, cw, oc, nc, cc, bxs, hsa⟩ := HSB.out
        obtain ⟨f1, f2, f3, f4, f5, f6⟩ := HSF.out
        have HQ := hide (quiet_any _ s wc hsa f3)
        rw [f5] at HQ
        obtain ⟨hnc, hsc⟩ := hsa.counts
        rw [f6] at hsc hnc
        have hnc2 : nc = 2 := hnc
        subst hnc2
        rw [f1, f2] at HQ bxs
        have r0 := bxs.cell 0
        have r1 := bxs.cell 1
        have r2 := bxs.cell 2
        have r3 := bxs.cell 3
        have r4 := bxs.cell 4
        have r5 := bxs.cell 5
        have r6 := bxs.cell 6
        have r7 := bxs.cell 7
        simp only [List.getElem?_cons_zero, List.getElem?_cons_succ] at r0 r1 r2 r3 r4 r5 r6 r7
        have bxy := HXY.out.below (w' := wc) HBC.out
        have x1 := bxy.cell 1
        have x2 := bxy.cell 2
        simp only [List.getElem?_cons_zero, List.getElem?_cons_succ] at x1 x2
        have HXS := hide bxs
        have HSC := hide hsc
        have q1 : ((T : Int) != T) = false := by simp
        have q2 : ((S : Int) != S) = false := by simp
        have hsz := HBC.out.size
        have HBW : Hid (Below W3.heap.size W3 wc) := HBY.out.trans (HBC.out.mono HBY.out.size)
        clear bxs hsa f1 f2 f3 f4 f5 f6 hnc hsc bxy lx
        go_wp2_with (first
          | (go_at_call 20; refine HQ.out.mono ?_; rintro e w6 ⟨rfl, h6⟩; have r3 := (HXS.out.below h6).cell 3; simp only [List.getElem?_cons_zero, List.getElem?_cons_succ] at r3; have l6 := (HXS.out.below h6).lt; have HSC6 := hide (HSC.out.below tabR_ok h6); have H6 := hide h6; clear h6)
          | (go_at_call 26; refine (sameTables_any [[1], [1]] [[1], [1]] oc _ cc 2 All All _ (up tabR_ok _ (up tabR_ok _ (up tabR_ok _ HSC6.out))) (ones_tab w6) (by decide)).mono ?_; rintro e w7 h7; obtain ⟨rfl, h7b⟩ := h7.below; clear h7))
        go_roundg (3 - (k + 1))
        case measure => have := HG.out; omega
        case rel => exact ⟨k + 1, by omega, rfl, by go_num, below_then' (HBW.out.trans (H6.out.mono HBW.out.size)) (Nat.le_trans HBW.out.size H6.out.size) h7b⟩
    · go_upto_region 8 with fail
      go_cut [5, 6] (fun s5 s6 wx => ∃ b s, s5 = .pointer (some ⟨b, 0, none⟩) ∧ s6 = .int .i64 0 ∧ Hid (SnapBox wx b s) ∧ Hid (s.flying = 1 ∧ s.queued = 1 ∧ s.net.waiting.length ≤ 9223372036854775807 ∧ quietS s = false) ∧ Hid (Below wr.heap.size wr wx))
      case first =>
        go_wp2_with (first
          | (go_at_call 61; refine (pair_any _).mono ?_; rintro e w4 ⟨op, os, ow, rfl, hp, hs, ht, hb4⟩)
          | (go_at_call 24; refine (pair_after op os ow _ hp hs ht).mono ?_; rintro e w5 ⟨v, s, rfl, hs5, t5, u5, l5, q5, hb5⟩; obtain ⟨oq, nq, cq, os5, ns, cs, ow5, nw, cw, oc, nc, cc, rfl⟩ := hs5.form; have H5 := hide (And.intro t5 (And.intro u5 (And.intro l5 q5))); clear t5 u5 l5 q5))
        go_meet
        exact ⟨_, s, rfl, rfl, hs5.boxed, H5.out, bnew (below_then hb4 hb5) _⟩
      case rest =>
        obtain ⟨b, s, rfl, rfl, HSB, HSF, HBC⟩ := hcut
        obtain ⟨oq, nq, cq, os, ns, cs, ow, nw, cw, oc, nc, cc, bxs, hsa⟩ := HSB.out
        obtain ⟨f1, f2, f3, f5⟩ := HSF.out
        have HQ := hide (quiet_any _ s wc hsa f3)
        rw [f5] at HQ
        rw [f1, f2] at HQ bxs
        have r0 := bxs.cell 0
        have r1 := bxs.cell 1
        have r2 := bxs.cell 2
        have r3 := bxs.cell 3
        have r4 := bxs.cell 4
        have r5 := bxs.cell 5
        have r6 := bxs.cell 6
        have r7 := bxs.cell 7
        simp only [List.getElem?_cons_zero, List.getElem?_cons_succ] at r0 r1 r2 r3 r4 r5 r6 r7
        have HBW : Hid (Below w.heap.size w wc) := HB0.out.trans ((HB.out.trans (HBC.out.mono HB.out.size)).mono HB0.out.size)
        clear bxs hsa f1 f2 f3 f5
        go_wp2_with (go_at_call 20; refine HQ.out.mono ?_; rintro e w6 ⟨rfl, h6⟩)
        go_ret
        exact ⟨rfl, HBW.out.trans (h6.mono HBW.out.size)⟩

end Go.Proofs.Ytmjcjmljnliaoaa

set_option linter.unusedVariables false
namespace Go.Proofs.Ytmjcjmljnliaoaa
open Go.RowKit

theorem neqGuard_out (op : BinOp) (a b : Operand) (x y : Array Value) (w : World) : (eqGuard op 80 a b (.agg x) (.agg y)).run Try.prog w = .ok () w :=
  run_eqGuard_agg w op 80 a b x y (by kernel_rfl)
theorem neq_out (a b c d : Int) (w : World) : (binOp .neq 80 (.agg #[.int .i64 a, .int .i64 b]) (.agg #[.int .i64 c, .int .i64 d])).run Try.prog w = .ok (.bool (!(a == c && b == d))) w := by
  have u3 := Try.underlying3
  have a3 := Try.isAgg3
  have z3 := Try.sizeOf3
  have hS : Try.prog.underlying 80 = some (.struct (Try.prog.fieldsOf 80)) := by kernel_rfl
  have hp : Try.prog.stoodInHeld 80 = false := by kernel_rfl
  rw [run_neq_struct, show (10000 : Nat) = 9999 + 1 from rfl, run_equalIn_agg w 9999 80 _ _ hS hp]
  simp only [Program.fieldsOf, Try.underlying80]
  go_simp
  by_cases h1 : a = c <;> by_cases h2 : b = d <;> simp [h1, h2]

set_option maxHeartbeats 400000 in
theorem sameOutputs_any (l m : List Out) (oa ob : Option Addr) (c d : Nat) (F : Foot) (w : World) (hs : SliceR outR 2 F w oa l) (ht : SliceR outR 2 F w ob m) (hc : l.length ≤ c) (hc2 : l.length ≤ 9223372036854775807) :
    Calls Try.prog 35 #[.slice oa l.length c, .slice ob m.length d] w fun e w' => e = .returned (.bool (decide (l = m))) ∧ Below w.heap.size w w' := by
  by_cases hlen : l.length = m.length
  case neg =>
    have hl' : ((l.length : Int) != m.length) = true := by simp; omega
    have HL : Hid (decide (l = m) = false) := decide_eq_false fun h => hlen (by rw [h])
    clear hlen
    go_enter Try.func35, Try.ntmps35
    go_wp2_with fail
    go_ret; exact ⟨ret_bool HL.out.symm, Below.refl _ _⟩
  have hl' : ((l.length : Int) != m.length) = false := by simp [hlen]
  have HL := hide hlen
  clear hlen
  go_enter Try.func35, Try.ntmps35
  go_wp2_with fail
  go_loopw [5] (fun i wr => ∃ k : Nat, k ≤ l.length ∧ i = .int .i64 k ∧ Hid (l = m ↔ l.drop k = m.drop k) ∧ Below w.heap.size w wr) (fun i _ => l.length - (intOf i).toNat)
  case atStart => exact ⟨0, by omega, rfl, Iff.rfl, Below.refl _ _⟩
  case round =>
    obtain ⟨k, hk, rfl, HE, hb⟩ := hrel
    by_cases hlt : k < l.length
    · obtain ⟨x, y, hd, _, _, _, b, off, rfl, _, c0, c1⟩ := (hs.below outR_ok hb).out_at hlt
      have hlt2 : k < m.length := by rw [← HL.out]; exact hlt
      obtain ⟨x', y', hd', _, _, _, b', off', rfl, _, c0', c1'⟩ := (ht.below outR_ok hb).out_at hlt2
      have HD := hide hd
      have HD' := hide hd'
      clear hd hd' hs ht
      have q1 := neqGuard_out
      have q2 := neq_out
      by_cases hx : x = x' ∧ y = y'
      · obtain ⟨rfl, rfl⟩ := hx
        go_wp2_with fail
        go_quiet (fail)
        go_wp2_with fail
        go_roundw
        case rel =>
          refine ⟨k + 1, by omega, by go_num, ?_, below_drewN hb _⟩
          show _ ↔ _
          rw [HE.out, HD.out, HD'.out]; simp
        case measure => simp [intOf]; omega
      · have hne : (!x == x' || !y == y') = true := by
          by_cases h1 : x = x' <;> by_cases h2 : y = y' <;> simp_all
        have HX := hide hx
        clear hx
        go_wp2_with fail
        go_quiet (fail)
        go_wp2_with fail
        go_ret
        refine ⟨ret_bool ?_, below_drewN hb _⟩
        symm
        refine decide_eq_false fun h => HX.out ?_
        have h2 := HE.out.1 h
        rw [HD.out, HD'.out] at h2
        simp at h2
        exact h2.1
    · go_wp2_with fail
      go_ret
      refine ⟨ret_bool ?_, hb⟩
      symm
      refine decide_eq_true (HE.out.2 ?_)
      rw [List.drop_eq_nil_of_le (by omega), List.drop_eq_nil_of_le (by have := HL.out; omega)]

set_option maxHeartbeats 400000 in
theorem sameInts_any (l m : List Int) (oa ob : Option Addr) (c d : Nat) (F : Foot) (w : World) (hs : SliceR intR 1 F w oa l) (ht : SliceR intR 1 F w ob m) (hc : l.length ≤ c) (hc2 : l.length ≤ 9223372036854775807) :
    Calls Try.prog 40 #[.slice oa l.length c, .slice ob m.length d] w fun e w' => e = .returned (.bool (decide (l = m))) ∧ Below w.heap.size w w' := by
  by_cases hlen : l.length = m.length
  case neg =>
    have hl' : ((l.length : Int) != m.length) = true := by simp; omega
    have HL : Hid (decide (l = m) = false) := decide_eq_false fun h => hlen (by rw [h])
    clear hlen
    go_enter Try.func40, Try.ntmps40
    go_wp2_with fail
    go_ret; exact ⟨ret_bool HL.out.symm, Below.refl _ _⟩
  have hl' : ((l.length : Int) != m.length) = false := by simp [hlen]
  have HL := hide hlen
  clear hlen
  go_enter Try.func40, Try.ntmps40
  go_wp2_with fail
  go_loopw [5] (fun i wr => ∃ k : Nat, k ≤ l.length ∧ i = .int .i64 k ∧ Hid (l = m ↔ l.drop k = m.drop k) ∧ Below w.heap.size w wr) (fun i _ => l.length - (intOf i).toNat)
  case atStart => exact ⟨0, by omega, rfl, Iff.rfl, Below.refl _ _⟩
  case round =>
    obtain ⟨k, hk, rfl, HE, hb⟩ := hrel
    by_cases hlt : k < l.length
    · obtain ⟨x, hd, _, _, b, off, rfl, _, c0⟩ := (hs.below intR_ok hb).int_at hlt
      have hlt2 : k < m.length := by rw [← HL.out]; exact hlt
      obtain ⟨x', hd', _, _, b', off', rfl, _, c0'⟩ := (ht.below intR_ok hb).int_at hlt2
      have HD := hide hd
      have HD' := hide hd'
      clear hd hd' hs ht
      by_cases hx : x = x'
      · obtain rfl := hx
        go_wp2_with fail
        go_quiet (fail)
        go_wp2_with fail
        go_roundw
        case rel =>
          refine ⟨k + 1, by omega, by go_num, ?_, below_drewN hb _⟩
          show _ ↔ _
          rw [HE.out, HD.out, HD'.out]; simp
        case measure => simp [intOf]; omega
      · have hne : (x != x') = true := by simp [hx]
        have HX := hide hx
        clear hx
        go_wp2_with fail
        go_quiet (fail)
        go_wp2_with fail
        go_ret
        refine ⟨ret_bool ?_, below_drewN hb _⟩
        symm
        refine decide_eq_false fun h => HX.out ?_
        have h2 := HE.out.1 h
        rw [HD.out, HD'.out] at h2
        simp at h2
        exact h2.1
    · go_wp2_with fail
      go_ret
      refine ⟨ret_bool ?_, hb⟩
      symm
      refine decide_eq_true (HE.out.2 ?_)
      rw [List.drop_eq_nil_of_le (by omega), List.drop_eq_nil_of_le (by have := HL.out; omega)]

end Go.Proofs.Ytmjcjmljnliaoaa

set_option linter.unusedVariables false
set_option linter.unusedSimpArgs false
set_option linter.unnecessarySimpa false
namespace Go.Proofs.Ytmjcjmljnliaoaa
open Go.RowKit

def FewB (n m : Nat) (w : World) (e : Ending) (w' : World) : Prop := ∃ b, e = .returned (.bool b) ∧ (b = true → n ≤ m) ∧ w = w'
theorem few56_any (l : List Int) (oa : Option Addr) (c : Nat) (w : World) (hc2 : l.length ≤ 9223372036854775807) :
    Calls Try.prog 15 #[.slice oa l.length c] w (FewB l.length 8192 w) := by
  obtain ⟨n, hn⟩ : ∃ n, n = l.length := ⟨_, rfl⟩
  rw [← hn] at hc2 ⊢
  clear hn
  by_cases h1 : n ≤ 80
  · have k1 : (n : Int) ≤ 80 := by omega
    go_enter Try.func15, Try.ntmps15
    go_wp2_with fail
    go_ret
    exact ⟨_, rfl, (fun _ => by omega), rfl⟩
  · have k1 : ¬ (n : Int) ≤ 80 := by omega
    by_cases h2 : 4096 < n
    · have k2 : (4096 : Int) < n := by omega
      by_cases h3 : n ≤ 8192
      · go_enter Try.func15, Try.ntmps15
        go_wp2_with fail
        go_ret
        exact ⟨_, rfl, (fun _ => by omega), rfl⟩
      · have k3 : ¬ (n : Int) ≤ 8192 := by omega
        go_enter Try.func15, Try.ntmps15
        go_wp2_with fail
        go_ret
        exact ⟨_, rfl, (fun h => by first | omega | cases h), rfl⟩
    · have k2 : ¬ (4096 : Int) < n := by omega
      go_enter Try.func15, Try.ntmps15
      go_wp2_with fail
      go_ret
      exact ⟨_, rfl, (fun h => by first | omega | cases h), rfl⟩

theorem any_more {l : List Int} {k : Nat} {x : Int} {q : Int → Bool} (h : l.any q = (l.drop k).any q) (hd : l.drop k = x :: l.drop (k + 1)) (hx : q x = false) : l.any q = (l.drop (k + 1)).any q := by
  rw [h, hd, List.any_cons, hx, Bool.false_or]
theorem rcheck56_any (l : List Int) (oa : Option Addr) (c : Nat) (F : Foot) (w : World) (hs : SliceR intR 1 F w oa l) (hc2 : l.length ≤ 9223372036854775807) :
    Calls Try.prog 19 #[.slice oa l.length c] w fun e w' => e = .returned (.int .i64 (fateErr l)) ∧ w = w' := by
  by_cases hl : 4096 < l.length
  · have HR : Hid (fateErr l = 5) := if_pos hl
    clear hs
    go_enter Try.func19, Try.ntmps19
    go_wp2_with fail
    go_ret
    exact ⟨ret_int (by rw [HR.out]), rfl⟩
  · have HR : Hid (fateErr l = if l.any badFate then 1 else 0) := if_neg hl
    have HS := hide hs
    clear hs
    go_enter Try.func19, Try.ntmps19
    go_wp2_with fail
    go_loop [3] (fun i => ∃ k : Nat, k ≤ l.length ∧ i = .int .i64 k ∧ Hid (l.any badFate = (l.drop k).any badFate)) (fun i => l.length - (intOf i).toNat)
    case atStart => exact ⟨0, by omega, rfl, rfl⟩
    case round =>
      obtain ⟨k, hk, rfl, HE⟩ := hrel
      by_cases hlt : k < l.length
      · obtain ⟨x, hd, hxx, _, b, off, rfl, _, c0⟩ := HS.out.int_at hlt
        by_cases h0 : x < 0
        · have HB : Hid (fateErr l = 1) := by
            show _ = _
            have hb : badFate x = true := by unfold badFate; simp [h0]
            rw [HR.out, HE.out, hd, List.any_cons, hb]
            rfl
          clear hd hxx
          go_wp2_with fail
          go_ret
          exact ⟨ret_int (by rw [HB.out]), rfl⟩
        · by_cases h3 : 3 < x
          · have HB : Hid (fateErr l = 1) := by
              show _ = _
              have hb : badFate x = true := by unfold badFate; simp [h3]
              rw [HR.out, HE.out, hd, List.any_cons, hb]
              rfl
            clear hd hxx
            go_wp2_with fail
            go_ret
            exact ⟨ret_int (by rw [HB.out]), rfl⟩
          · have HD := hide (any_more HE.out hd (by unfold badFate; simp; omega))
            clear hd hxx
            go_wp2_with fail
            go_round
            case rel => exact ⟨k + 1, by omega, by go_num, HD.out⟩
            case measure => simp [intOf]; omega
      · go_wp2_with fail
        go_ret
        exact ⟨ret_int (by rw [HR.out, HE.out, List.drop_eq_nil_of_le (by omega)]; rfl), rfl⟩

theorem fewCounts_any (l : List (List Int)) (oa : Option Addr) (c : Nat) (w : World) (hs : RowsAt w oa l) (hc2 : l.length ≤ 9223372036854775807) :
    Calls Try.prog 16 #[.slice oa l.length c] w (FewB l.length 30 w) := by
  by_cases h30 : 30 < l.length
  · go_enter Try.func16, Try.ntmps16
    go_wp2_with fail
    go_ret
    exact ⟨_, rfl, (fun h => by first | omega | cases h), rfl⟩
  · go_enter Try.func16, Try.ntmps16
    go_wp2_with fail
    go_loop [3] (fun i => ∃ k : Nat, k ≤ l.length ∧ i = .int .i64 k) (fun i => l.length - (intOf i).toNat)
    case atStart => exact ⟨0, by omega, rfl⟩
    case round =>
      obtain ⟨k, hk, rfl⟩ := hrel
      by_cases hlt : k < l.length
      · obtain ⟨row, b, off, oa', c', hxx, rfl, c0, hrl, hrs⟩ := hs.at hlt
        clear hxx hrs
        by_cases hr : 30 < row.length
        · go_wp2_with fail
          go_ret
          exact ⟨_, rfl, (fun h => by first | omega | cases h), rfl⟩
        · go_wp2_with fail
          go_round
          case rel => exact ⟨k + 1, by omega, by go_num⟩
          case measure => simp [intOf]; omega
      · go_wp2_with fail
        go_ret
        exact ⟨_, rfl, (fun h => by first | omega | cases h), rfl⟩

end Go.Proofs.Ytmjcjmljnliaoaa

set_option linter.unusedVariables false
set_option linter.unusedSimpArgs false
namespace Go.Proofs.Ytmjcjmljnliaoaa
open Go.RowKit

theorem snap_rows {w : World} {v : Value} {s : Snp} (h : SnapAt w v s) : ∃ oq cq os cs ow cw oc cc, v = .agg #[.slice oq s.net.procs.length cq, .slice os s.net.state.length cs, .slice ow s.net.waiting.length cw, .slice oc s.counts.length cc, .int .i64 s.ticks, .int .i64 s.sent, .int .i64 s.flying, .int .i64 s.queued] ∧ RowsAt w ow s.net.waiting := by
  obtain ⟨oq, cq, os, cs, ow, cw, oc, cc, rfl, _, _, _, _, _, _, hw, _⟩ := h
  exact ⟨_, _, _, _, _, _, _, _, rfl, hw.rowsAt⟩

set_option maxRecDepth 100000 in
set_option maxHeartbeats 4000000 in
theorem wchecks_walk (w : World) (fs : List Int) (oF : Option Addr) (cF : Nat) (hcF : fs.length ≤ cF) (hF2 : fs.length ≤ 9223372036854775807) (hF : SliceR intR 1 All w oF fs) (v : Value) (s : Snp) (hv : SnapAt w v s ∧ s.net.waiting.length ≤ 9223372036854775807 ∧ s.counts.length ≤ 9223372036854775807) :
    Calls Try.prog 3 #[.slice oF fs.length cF, v] w fun e w' => e = .returned (.bool true) ∧ Below w.heap.size w w' := by
  obtain ⟨hsa, hwl, hcl⟩ := hv
  obtain ⟨oq, cq, os, cs, ow, cw, oc, cc, hve, hrows⟩ := snap_rows hsa
  obtain ⟨nq, hnq⟩ : ∃ n, n = s.net.procs.length := ⟨_, rfl⟩
  obtain ⟨ns, hns⟩ : ∃ n, n = s.net.state.length := ⟨_, rfl⟩
  obtain ⟨nw, hnw⟩ : ∃ n, n = s.net.waiting.length := ⟨_, rfl⟩
  obtain ⟨nc, hnc⟩ : ∃ n, n = s.counts.length := ⟨_, rfl⟩
  obtain ⟨t4, ht4⟩ : ∃ n, n = s.ticks := ⟨_, rfl⟩
  obtain ⟨t5, ht5⟩ : ∃ n, n = s.sent := ⟨_, rfl⟩
  obtain ⟨t6, ht6⟩ : ∃ n, n = s.flying := ⟨_, rfl⟩
  obtain ⟨t7, ht7⟩ : ∃ n, n = s.queued := ⟨_, rfl⟩
  rw [← hnq, ← hns, ← hnw, ← hnc, ← ht4, ← ht5, ← ht6, ← ht7] at hve
  subst hve
  have HNW := hide hnw
  have HRW : Hid (∀ o, RowsAt (w.alloc o) ow s.net.waiting) := fun o i row hi => by
    obtain ⟨b, off, oa', c, rfl, h1, h2, h3⟩ := hrows i row hi
    exact ⟨b, off, oa', c, rfl, cell_next h1 o, h2, up intR_ok o h3⟩
  have hbx := Box.new w [.slice oq nq cq, .slice os ns cs, .slice ow nw cw, .slice oc nc cc, .int .i64 t4, .int .i64 t5, .int .i64 t6, .int .i64 t7] 28
  have hsn := hsa.below (bnew (Below.refl _ _) (.cells #[.slice oq nq cq, .slice os ns cs, .slice ow nw cw, .slice oc nc cc, .int .i64 t4, .int .i64 t5, .int .i64 t6, .int .i64 t7] 28))
  have hFn := up intR_ok (.cells #[.slice oq nq cq, .slice os ns cs, .slice ow nw cw, .slice oc nc cc, .int .i64 t4, .int .i64 t5, .int .i64 t6, .int .i64 t7] 28) hF
  have hb := bnew (Below.refl w.heap.size w) (.cells #[.slice oq nq cq, .slice os ns cs, .slice ow nw cw, .slice oc nc cc, .int .i64 t4, .int .i64 t5, .int .i64 t6, .int .i64 t7] 28)
  clear hnq hns hnw hnc ht4 ht5 ht6 ht7 hrows hsa hF hcF
  have HFC : Hid (∀ o, Calls Try.prog 16 #[.slice ow nw cw] (w.alloc o) fun e w' => ∃ b, e = .returned (.bool b) ∧ w.alloc o = w') := fun o => by
    rw [HNW.out]
    exact (fewCounts_any s.net.waiting ow cw _ (HRW.out o) hwl).mono fun e w' ⟨b, h1, _, h2⟩ => ⟨b, h1, h2⟩
  obtain ⟨nf, hnf⟩ : ∃ n, n = fs.length := ⟨_, rfl⟩
  have HNF := hide hnf
  have HFEW : Hid (∀ w, Calls Try.prog 15 #[.slice oF nf cF] w fun e w' => ∃ b, e = .returned (.bool b) ∧ w = w') := fun w => by
    rw [HNF.out]
    exact (few56_any fs oF cF w hF2).mono fun e w' ⟨b, h1, _, h2⟩ => ⟨b, h1, h2⟩
  have HC1 : Hid (∀ w, SliceR intR 1 All w oF fs → Calls Try.prog 18 #[.slice oF nf cF] w fun e w' => e = .returned (.int .i64 (fateErr fs)) ∧ w = w') := fun w h => by rw [HNF.out]; exact wcheck_any fs oF cF All w h hF2
  have HC2 : Hid (∀ w, SliceR intR 1 All w oF fs → Calls Try.prog 19 #[.slice oF nf cF] w fun e w' => e = .returned (.int .i64 (fateErr fs)) ∧ w = w') := fun w h => by rw [HNF.out]; exact rcheck56_any fs oF cF All w h hF2
  have HQ1 : Hid (∀ w v, SnapAt w v s → Calls Try.prog 20 #[v] w fun e w' => e = .returned (.bool (quietS s)) ∧ Below w.heap.size w w') := fun w v h => quiet_any v s w h hwl
  have HQ2 : Hid (∀ w v, SnapAt w v s → Calls Try.prog 21 #[v] w fun e w' => e = .returned (.bool (quietS s)) ∧ Below w.heap.size w w') := fun w v h => rquiet_any v s w h hwl
  rw [← hnf]
  clear hnf hF2
  go_enter Try.func3, Try.ntmps3
  go_wp2_with fail
  refine (HFEW.out _).mono ?_
  rintro e w1 ⟨b1, rfl, rfl⟩
  cases b1
  · go_wp2_with fail
    refine (awake56_any _).mono ?_
    rintro e w2 ⟨rfl, h2⟩
    go_wp2_with fail
    go_ret
    exact ⟨rfl, below_then hb h2⟩
  go_wp2_with fail
  refine (HFC.out _).mono ?_
  rintro e w1 ⟨b1, rfl, rfl⟩
  cases b1
  · go_wp2_with fail
    refine (awake56_any _).mono ?_
    rintro e w2 ⟨rfl, h2⟩
    go_wp2_with fail
    go_ret
    exact ⟨rfl, below_then hb h2⟩
  generalize w.alloc (.cells #[.slice oq nq cq, .slice os ns cs, .slice ow nw cw, .slice oc nc cc, .int .i64 t4, .int .i64 t5, .int .i64 t6, .int .i64 t7] 28) = wz at *
  have hbx : Box wz w.heap.size [.slice oq nq cq, .slice os ns cs, .slice ow nw cw, .slice oc nc cc, .int .i64 t4, .int .i64 t5, .int .i64 t6, .int .i64 t7] 28 := hbx
  have d0 := hbx.cell 0
  have d1 := hbx.cell 1
  have d2 := hbx.cell 2
  have d3 := hbx.cell 3
  have d4 := hbx.cell 4
  have d5 := hbx.cell 5
  have d6 := hbx.cell 6
  have d7 := hbx.cell 7
  simp only [List.getElem?_cons_zero, List.getElem?_cons_succ] at d0 d1 d2 d3 d4 d5 d6 d7
  have q0 : (fateErr fs == fateErr fs) = true := by simp
  have q1 : (quietS s == quietS s) = true := by simp
  generalize fateErr fs = fe at *
  generalize hqs : quietS s = qb at *
  clear hqs
  go_wp2_with fail
  have hbx := hbx.draw
  have hF : SliceR intR 1 All wz.drew oF fs := hFn.keep intR_ok (fun _ _ _ => rfl)
  have hsn : SnapAt wz.drew _ s := hsn.keep (fun _ _ _ => rfl)
  have hb := hb.drew
  clear hFn
  go_region_held3 (fun w' => w'.cell? ⟨w.heap.size, 0, none⟩ = some (.slice oq nq cq) ∧ w'.cell? ⟨w.heap.size, 1, none⟩ = some (.slice os ns cs) ∧ w'.cell? ⟨w.heap.size, 2, none⟩ = some (.slice ow nw cw) ∧ w'.cell? ⟨w.heap.size, 3, none⟩ = some (.slice oc nc cc) ∧ w'.cell? ⟨w.heap.size, 4, none⟩ = some (.int .i64 t4) ∧ w'.cell? ⟨w.heap.size, 5, none⟩ = some (.int .i64 t5) ∧ w'.cell? ⟨w.heap.size, 6, none⟩ = some (.int .i64 t6) ∧ w'.cell? ⟨w.heap.size, 7, none⟩ = some (.int .i64 t7)) (first | exact ⟨d0, d1, d2, d3, d4, d5, d6, d7⟩) (first
    | (go_at_call 17; refine (awake56_any _).mono ?_; rintro e w5 ⟨rfl, h5⟩; have hbx := hbx.below h5; have d0 := hbx.cell 0; have d1 := hbx.cell 1; have d2 := hbx.cell 2; have d3 := hbx.cell 3; have d4 := hbx.cell 4; have d5 := hbx.cell 5; have d6 := hbx.cell 6; have d7 := hbx.cell 7; simp only [List.getElem?_cons_zero, List.getElem?_cons_succ] at d0 d1 d2 d3 d4 d5 d6 d7; have hsn := hsn.below h5; have hF := hF.below intR_ok h5; have hb := below_then hb h5; clear h5)
    | (go_at_call 20; refine (HQ1.out _ _ hsn).mono ?_; rintro e w5 ⟨rfl, h5⟩; have hbx := hbx.below h5; have d0 := hbx.cell 0; have d1 := hbx.cell 1; have d2 := hbx.cell 2; have d3 := hbx.cell 3; have d4 := hbx.cell 4; have d5 := hbx.cell 5; have d6 := hbx.cell 6; have d7 := hbx.cell 7; simp only [List.getElem?_cons_zero, List.getElem?_cons_succ] at d0 d1 d2 d3 d4 d5 d6 d7; have hsn := hsn.below h5; have hF := hF.below intR_ok h5; have hb := below_then hb h5; clear h5)
    | (go_at_call 21; refine (HQ2.out _ _ hsn).mono ?_; rintro e w5 ⟨rfl, h5⟩; have hbx := hbx.below h5; have d0 := hbx.cell 0; have d1 := hbx.cell 1; have d2 := hbx.cell 2; have d3 := hbx.cell 3; have d4 := hbx.cell 4; have d5 := hbx.cell 5; have d6 := hbx.cell 6; have d7 := hbx.cell 7; simp only [List.getElem?_cons_zero, List.getElem?_cons_succ] at d0 d1 d2 d3 d4 d5 d6 d7; have hsn := hsn.below h5; have hF := hF.below intR_ok h5; have hb := below_then hb h5; clear h5)
    | (go_at_call 18; refine (HC1.out _ hF).mono ?_; rintro e w5 ⟨rfl, rfl⟩)
    | (go_at_call 19; refine (HC2.out _ hF).mono ?_; rintro e w5 ⟨rfl, rfl⟩))
  all_goals
    go_wp2_with fail
    go_ret
    exact ⟨rfl, hb⟩

end Go.Proofs.Ytmjcjmljnliaoaa

set_option linter.unusedVariables false
namespace Go.Proofs.Ytmjcjmljnliaoaa
open Go.RowKit Go.ChangeShapes Go.WideShapes Go.ChangeAt Go.Deep

set_option maxRecDepth 100000 in
theorem wireChecks_lifted (os : Os) (started : os.Started) (H : Type) (enc : TypeId × Value → H) :
    ReturnsInHanded {} Try.checked os 3 .any (Rows.wireChecksSpec.pre6 enc Try.prog Try.f3 Rows.wireChecksRow.domain false) (Rows.wireChecksSpec.post enc Try.prog Try.f3 false true false false) := by
  refine returnsInHanded_of_change (C := Try.checked) own_knob started (by kernel_rfl) Try.func3
    (ChangeSpec.witness6 (enc := enc) (C := Try.checked) false ⟨#[], #[.slice none 0 0, .agg #[.slice none 0 0, .slice none 0 0, .slice none 0 0, .slice none 0 0, .int .i64 0, .int .i64 0, .int .i64 0, .int .i64 0]], []⟩ 8 (by kernel_rfl) (by kernel_rfl) (by kernel_rfl) (by kernel_rfl)) ?_
  intro W base args ds gs before hval0 hW _ _
  have hval : ∀ (j : Nat) t v, Try.f3.params[j]? = some t → args[j]? = some v → Value.okWide Try.prog W .any base t v := hval0
  have hW' := hW
  obtain ⟨p, q, hA0, hV, rfl, _, _⟩ := hW
  have hA : DataW.TrodAll enc Try.prog W 0 (fun _ => true) true Try.f3.params.toList args.toList ds p := hA0
  rw [Try.params3] at hA hval
  obtain ⟨v0, v1, d0, d1, p0, p1, rfl, rfl, rfl, h0, h1⟩ := trodAll_two hA
  obtain ⟨rfl, rfl⟩ := trodVars_none hV
  have h0k := h0
  have h1k := h1
  obtain ⟨xs0, oa0, c0, rfl, hc0, hd0, hs0⟩ := open_is (hval 0 22 v0 rfl rfl) h0
  obtain ⟨sn1, hn1⟩ := open_snap (hval 1 28 v1 rfl rfl) h1
  clear hA0 hval0
  simp only [List.append_nil] at hW'
  have hlt0 : ∀ y ∈ p0, y.block < W.heap.size := fun y hy => by simpa using hW'.lt y (by simp [hy])
  have hlt1 : ∀ y ∈ p1, y.block < W.heap.size := fun y hy => by simpa using hW'.lt y (by simp [hy])
  refine (wchecks_walk W xs0 oa0 c0 hc0 hd0 hs0 v1 sn1 hn1).mono fun e W' ⟨he, hn⟩ => ?_
  subst he
  exact ⟨_, rfl, _, _, _, [], _, [], hW', trodAll_mk1 (shut_bool Try.underlying4 true), trodAll_mk2 (Below.trod laid_out (by kernel_rfl) (of_decide_eq_true (by kernel_rfl)) h0k hn hlt0) (Below.trod laid_out (by kernel_rfl) (of_decide_eq_true (by kernel_rfl)) h1k hn hlt1), rfl, hn.frame _, fun h => by cases h⟩

theorem wireChecks_holds : Rows.WireChecksSaid :=
  OpenClaim.holds_of_wide 3 Try.f3 rfl rfl rfl rfl rfl rfl rfl ⟨rfl, rfl, rfl, rfl, rfl⟩ rfl rfl rfl rfl rfl (by kernel_rfl) Try.func3 (by kernel_rfl)
    (of_decide_eq_true (by kernel_rfl)) (by unfold Func.isWrapper; first | (rw [if_pos (by decide +kernel)]; kernel_rfl) | (rw [if_neg (by decide +kernel)]; exact ⟨rfl, rfl⟩))
    (fun os started H enc _ => wireChecks_lifted os started H enc)

#print axioms wireChecks_holds
end Go.Proofs.Ytmjcjmljnliaoaa

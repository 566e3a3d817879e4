/-
  Two processors: sameProcessors of chapter 55.
  Two networks: Same of chapter 55.
  The wire machine in plain Lean: what is quiet remains so, and not earlier; the law of WireRests.
  Snapshots: wire.Quiet and Quiet of the reference.
  The examples of chapter 54: Vertex, Rotor, Setter.
  The network of the chapter's examples: Pair; awake.
  awake: the examples of chapter 56 hold.
  make([]T, n) and copy(d, s) at elements of several cells: the copy is the call's own.
  append of one element to a list of the call's own whose elements hold data in other rows: these lie in P, and not in the list's own row.
  A table of rows of ints that the code makes row by row, and whose numbers it changes.
  network.copied: a network that shares no memory with the given one.
  A network that runs, in memory: start, network, moves.
-/
import Derived.Test.YtnigfddanoaonaaWa4
import Derived.Deep.LoopGhost
import Derived.Deep.DeepCutAuto
import Derived.StillTailTactics
import Derived.Test.YtnigfddanoaonaaProg
import Derived.Deep.RegionWith
import Derived.Laws.CopyOwn
import Derived.Deep.AppendLies
import Derived.Laws.ResultCell

set_option linter.unusedVariables false
namespace Go.Proofs.Ytnigfddanoaonaa
open Go.RowKit

def SameB (b : Bool) (w : World) (e : Ending) (w' : World) : Prop := e = .returned (.bool b) ∧ Below w.heap.size w w'

set_option maxRecDepth 100000 in
set_option maxHeartbeats 2000000 in
theorem sameProcs_any (S L S' L' : Int) (rs rs' : List (List Rul)) (oa ob : Option Addr) (c d : Nat) (F G : Foot) (w : World) (hs : SliceR (slcR ruleR 2) 1 F w oa rs) (ht : SliceR (slcR ruleR 2) 1 G w ob rs') (hc2 : rs.length ≤ 9223372036854775807) :
    Calls Try.prog 29 #[.agg #[.int .i64 S, .int .i64 L, .slice oa rs.length c], .agg #[.int .i64 S', .int .i64 L', .slice ob rs'.length d]] w (SameB (decide ((⟨S, L, rs⟩ : Prc) = ⟨S', L', rs'⟩)) w) := by
  obtain ⟨W1, e1⟩ : ∃ W1, w.alloc (.cells #[.int .i64 S, .int .i64 L, .slice oa rs.length c] 53) = W1 := ⟨_, rfl⟩
  have bx1 : Box W1 w.heap.size [.int .i64 S, .int .i64 L, .slice oa rs.length c] 53 := by rw [← e1]; exact Box.new w [.int .i64 S, .int .i64 L, .slice oa rs.length c] 53
  have bb1 := bnew (Below.refl w.heap.size w) (.cells #[.int .i64 S, .int .i64 L, .slice oa rs.length c] 53)
  rw [e1] at bb1
  obtain ⟨W2, e2⟩ : ∃ W2, W1.alloc (.cells #[.int .i64 S', .int .i64 L', .slice ob rs'.length d] 53) = W2 := ⟨_, rfl⟩
  have bx2 : Box W2 W1.heap.size [.int .i64 S', .int .i64 L', .slice ob rs'.length d] 53 := by rw [← e2]; exact Box.new W1 [.int .i64 S', .int .i64 L', .slice ob rs'.length d] 53
  have bb2 := bnew (Below.refl W1.heap.size W1) (.cells #[.int .i64 S', .int .i64 L', .slice ob rs'.length d] 53)
  rw [e2] at bb2
  have bx1' := bx1.below bb2
  have hb0 := bb1.trans (bb2.mono bb1.size)
  have d0 := bx1'.cell 0
  have d1 := bx1'.cell 1
  have d2 := bx1'.cell 2
  have f0 := bx2.cell 0
  have f1 := bx2.cell 1
  have f2 := bx2.cell 2
  simp only [List.getElem?_cons_zero, List.getElem?_cons_succ] at d0 d1 d2 f0 f1 f2
  have HX1 := hide bx1'
  have HX2 := hide bx2
  have HB := hide hb0
  have HS := hide (hs.below rowR_ok hb0)
  have HT := hide (ht.below rowR_ok hb0)
  clear bx1 bx1' bx2 bb1 bb2 hb0 hs ht
  by_cases hS : S = S'
  case neg =>
    have q1 : (S != S') = true := by simp [hS]
    have HR : Hid (decide ((⟨S, L, rs⟩ : Prc) = ⟨S', L', rs'⟩) = false) := decide_eq_false fun h => hS (by injection h)
    clear hS
    go_enter Try.func29, Try.ntmps29
    go_wp2_with fail
    go_ret
    exact ⟨ret_bool HR.out.symm, HB.out⟩
  have q1 : (S != S') = false := by simp [hS]
  have HSS := hide hS
  clear hS
  by_cases hL : L = L'
  case neg =>
    have q2 : (L != L') = true := by simp [hL]
    have HR : Hid (decide ((⟨S, L, rs⟩ : Prc) = ⟨S', L', rs'⟩) = false) := decide_eq_false fun h => hL (by injection h)
    clear hL
    go_enter Try.func29, Try.ntmps29
    go_wp2_with fail
    go_ret
    exact ⟨ret_bool HR.out.symm, HB.out⟩
  have q2 : (L != L') = false := by simp [hL]
  have HLL := hide hL
  clear hL
  by_cases hlen : rs.length = rs'.length
  case neg =>
    have q3 : ((rs.length : Int) != rs'.length) = true := by simp; omega
    have HR : Hid (decide ((⟨S, L, rs⟩ : Prc) = ⟨S', L', rs'⟩) = false) := decide_eq_false fun h => hlen (by injection h with _ _ h; rw [h])
    clear hlen
    go_enter Try.func29, Try.ntmps29
    go_wp2_with fail
    go_ret
    exact ⟨ret_bool HR.out.symm, HB.out⟩
  have q3 : ((rs.length : Int) != rs'.length) = false := by simp [hlen]
  have HL := hide hlen
  have HR : Hid (decide ((⟨S, L, rs⟩ : Prc) = ⟨S', L', rs'⟩) = decide (rs = rs')) := by
    show _ = _
    rw [HSS.out, HLL.out]
    by_cases h : rs = rs'
    · simp [h]
    · rw [decide_eq_false h]; exact decide_eq_false fun g => h (by injection g)
  clear hlen
  go_enter Try.func29, Try.ntmps29
  go_wp2_with fail
  go_loopw [5] (fun i wr => ∃ k : Nat, k ≤ rs.length ∧ i = .int .i64 k ∧ Hid (rs = rs' ↔ rs.drop k = rs'.drop k) ∧ Hid (Below W2.heap.size W2 wr)) (fun i _ => rs.length - (intOf i).toNat)
  case atStart => exact ⟨0, by omega, rfl, Iff.rfl, Below.refl _ _⟩
  case round =>
    obtain ⟨k, hk, rfl, HE, HBk⟩ := hrel
    have d2 := (HX1.out.below HBk.out).cell 2
    have f2 := (HX2.out.below HBk.out).cell 2
    simp only [List.getElem?_cons_zero, List.getElem?_cons_succ] at d2 f2
    by_cases hlt : k < rs.length
    · obtain ⟨row, hd, _, b, off, oa', c', rfl, _, c0, _, hl2, hsx⟩ := (HS.out.below rowR_ok HBk.out).slc_at hlt
      have hlt2 : k < rs'.length := by rw [← HL.out]; exact hlt
      obtain ⟨row', hd', _, b', off', ob', d', rfl, _, c0', _, _, hsx'⟩ := (HT.out.below rowR_ok HBk.out).slc_at hlt2
      have HD := hide hd
      have HD' := hide hd'
      have HSX := hide hsx
      have HSX' := hide hsx'
      obtain ⟨n, hn⟩ : ∃ n, n = row.length := ⟨_, rfl⟩
      obtain ⟨n', hn'⟩ : ∃ n, n = row'.length := ⟨_, rfl⟩
      rw [← hn] at c0 hl2
      rw [← hn'] at c0'
      have HN := hide hn
      have HN' := hide hn'
      clear hd hd' hsx hsx' hn hn'
      by_cases hnn : n = n'
      · have q4 : ((n : Int) != n') = false := by simp [hnn]
        have HNN := hide hnn
        clear hnn
        go_wp2_with fail
        go_quiet (fail)
        have HBq := hide (below_drewN HBk.out nq)
        have HSq := hide (HSX.out.drewN ruleR_ok nq)
        have HSq' := hide (HSX'.out.drewN ruleR_ok nq)
        have c0 : (wr.drewN nq).cell? ⟨b, off + k, none⟩ = some (.slice oa' n c') := c0
        have c0' : (wr.drewN nq).cell? ⟨b', off' + k, none⟩ = some (.slice ob' n' d') := c0'
        generalize wr.drewN nq = wo at *
        go_wp2_with fail
        go_loopg [6] n (fun g i wr => ∃ j : Nat, j ≤ n ∧ g = n - j ∧ i = .int .i64 j ∧ Hid (row = row' ↔ row.drop j = row'.drop j) ∧ Hid (Below wo.heap.size wo wr))
        case atStart => exact ⟨0, by omega, by omega, rfl, Iff.rfl, Below.refl _ _⟩
        case round =>
          obtain ⟨j, hj, hg, rfl, HF, HBj⟩ := hrel
          have HG := hide hg
          clear hg
          have HB2 : Hid (Below W2.heap.size W2 wr) := HBq.out.trans (HBj.out.mono HBq.out.size)
          have d2 := (HX1.out.below HB2.out).cell 2
          have f2 := (HX2.out.below HB2.out).cell 2
          simp only [List.getElem?_cons_zero, List.getElem?_cons_succ] at d2 f2
          have c0 := (HBj.out.cell (World.block_lt_of_cell? _ _ c0)).trans c0
          have c0' := (HBj.out.cell (World.block_lt_of_cell? _ _ c0')).trans c0'
          by_cases hlj : j < n
          · obtain ⟨nx, st, hd, _, _, b2, off2, oa2, c2, rfl, _, c20, c21, hcl, hl22, hss⟩ := (HSq.out.below ruleR_ok HBj.out).rule_at (i := j) (by rw [← HN.out]; exact hlj)
            obtain ⟨nx', st', hd', _, _, b3, off3, ob2, d2', rfl, _, c30, c31, _, _, hss'⟩ := (HSq'.out.below ruleR_ok HBj.out).rule_at (i := j) (by rw [← HN'.out, ← HNN.out]; exact hlj)
            have hlj' : j < n' := by rw [← HNN.out]; exact hlj
            have l0 := World.block_lt_of_cell? _ _ c0
            have l0' := World.block_lt_of_cell? _ _ c0'
            have l2 := World.block_lt_of_cell? _ _ c20
            have l3 := World.block_lt_of_cell? _ _ c30
            simp only at l0 l0' l2 l3
            have HD2 := hide hd
            have HD2' := hide hd'
            have HST := hide hss
            have HST' := hide hss'
            clear hd hd' hss hss'
            go_wp2_with fail
            have l4 : w.heap.size < wr.heap.size := (HX1.out.below HB2.out).lt
            have l5 : W1.heap.size < wr.heap.size := (HX2.out.below HB2.out).lt
            have HBN : Hid (∀ A B, Below wr.heap.size wr ((wr.alloc A).alloc B).drew) := fun A B => below_drewN (bnew (bnew (Below.refl _ _) A) B) 1
            have HCL := hide hcl
            clear hcl
            go_upto_region 11 with fail
            go_cut [6, 7, 8] (fun s6 s7 s8 wx => s6 = .int .i64 (j : Nat) ∧ ∃ b7 b8, s7 = .pointer (some ⟨b7, 0, none⟩) ∧ s8 = .pointer (some ⟨b8, 0, none⟩) ∧ wx.cell? ⟨b7, 0, none⟩ = some (.int .i64 nx) ∧ wx.cell? ⟨b7, 1, none⟩ = some (.slice oa2 st.length c2) ∧ wx.cell? ⟨b8, 0, none⟩ = some (.int .i64 nx') ∧ wx.cell? ⟨b8, 1, none⟩ = some (.slice ob2 st'.length d2') ∧ Hid (Below wr.heap.size wr wx))
            case first =>
              go_wp2_with fail
              go_region
              all_goals (go_wp2_with fail; go_meet; exact ⟨rfl, _, _, rfl, rfl, by simp [go_sem], by simp [go_sem], by simp [go_sem], by simp [go_sem], HBN.out _ _⟩)
            case rest =>
              obtain ⟨rfl, b7, b8, rfl, rfl, x0, x1, y0, y1, HBX⟩ := hcut
              have HC := hide (sameOutputs_any st st' oa2 ob2 c2 d2' All wc ((HST.out.all outR_ok (by omega)).below outR_ok HBX.out) ((HST'.out.all outR_ok (by omega)).below outR_ok HBX.out) HCL.out hl22)
              have HB6 : Hid (Below wo.heap.size wo wc) := HBj.out.trans (HBX.out.mono HBj.out.size)
              by_cases hx : nx = nx'
              · have q5 : (nx != nx') = false := by simp [hx]
                have HXX := hide hx
                clear hx
                by_cases hst : st = st'
                · rw [decide_eq_true hst] at HC
                  have HYY := hide hst
                  clear hst
                  go_wp2_with (go_at_call 53; refine HC.out.mono ?_; rintro e w5 ⟨rfl, h5⟩; have H6 : Hid (Below wo.heap.size wo w5) := HB6.out.trans (h5.mono HB6.out.size); clear h5)
                  go_roundg (n - (j + 1))
                  case measure => have := HG.out; omega
                  case rel =>
                    refine ⟨j + 1, by omega, rfl, by go_num, ?_, H6⟩
                    show _ ↔ _
                    rw [HF.out, HD2.out, HD2'.out, HXX.out, HYY.out]; simp
                · rw [decide_eq_false hst] at HC
                  have HYY := hide hst
                  clear hst
                  go_wp2_with (go_at_call 53; refine HC.out.mono ?_; rintro e w5 ⟨rfl, h5⟩; have H6 : Hid (Below wo.heap.size wo w5) := HB6.out.trans (h5.mono HB6.out.size); clear h5)
                  go_ret
                  refine ⟨ret_bool ?_, HB.out.trans ((HBq.out.trans (H6.out.mono HBq.out.size)).mono HB.out.size)⟩
                  rw [HR.out]
                  symm
                  refine decide_eq_false fun h => HYY.out ?_
                  have h2 := HE.out.1 h
                  rw [HD.out, HD'.out] at h2
                  injection h2 with h2
                  have h3 := HF.out.1 h2
                  rw [HD2.out, HD2'.out] at h3
                  injection h3 with h3
                  injection h3
              · have q5 : (nx != nx') = true := by simp [hx]
                have HXX := hide hx
                clear hx
                go_wp2_with fail
                go_ret
                refine ⟨ret_bool ?_, HB.out.trans ((HBq.out.trans (HB6.out.mono HBq.out.size)).mono HB.out.size)⟩
                rw [HR.out]
                symm
                refine decide_eq_false fun h => HXX.out ?_
                have h2 := HE.out.1 h
                rw [HD.out, HD'.out] at h2
                injection h2 with h2
                have h3 := HF.out.1 h2
                rw [HD2.out, HD2'.out] at h3
                injection h3 with h3
                injection h3
          · go_wp2_with fail
            go_roundw
            case rel =>
              refine ⟨k + 1, by omega, by go_num, ?_, HB2⟩
              show _ ↔ _
              have hr : row = row' := HF.out.2 (by rw [List.drop_eq_nil_of_le (by have := HN.out; omega), List.drop_eq_nil_of_le (by have := HN'.out; have := HNN.out; omega)])
              rw [HE.out, HD.out, HD'.out, hr]; simp
            case measure => simp [intOf]; omega
      · have q4 : ((n : Int) != n') = true := by simp; omega
        have HNN := hide hnn
        clear hnn
        go_wp2_with fail
        go_quiet (fail)
        go_wp2_with fail
        go_ret
        refine ⟨ret_bool ?_, HB.out.trans ((below_drewN HBk.out _).mono HB.out.size)⟩
        rw [HR.out]
        symm
        refine decide_eq_false fun h => HNN.out ?_
        have h2 := HE.out.1 h
        rw [HD.out, HD'.out] at h2
        injection h2 with h2
        rw [HN.out, HN'.out, h2]
    · go_wp2_with fail
      go_ret
      refine ⟨ret_bool ?_, HB.out.trans (HBk.out.mono HB.out.size)⟩
      rw [HR.out]
      symm
      refine decide_eq_true (HE.out.2 ?_)
      rw [List.drop_eq_nil_of_le (by omega), List.drop_eq_nil_of_le (by have := HL.out; omega)]

end Go.Proofs.Ytnigfddanoaonaa

set_option linter.unusedVariables false
set_option linter.unusedSimpArgs false
namespace Go.Proofs.Ytnigfddanoaonaa
open Go.RowKit

set_option maxRecDepth 100000 in
set_option maxHeartbeats 2000000 in
theorem rsame55_any (x y : Nwk) (op os ow oq ot ov : Option Addr) (cp cs cw cq ct cv : Nat) (F G : Foot) (w : World)
    (hp : SliceR prcR 3 F w op x.procs) (hs : SliceR intR 1 F w os x.state) (ht : SliceR (slcR intR 1) 1 F w ow x.waiting) (hq : SliceR prcR 3 G w oq y.procs) (hu : SliceR intR 1 G w ot y.state) (hv : SliceR (slcR intR 1) 1 G w ov y.waiting)
    (hp2 : x.procs.length ≤ 9223372036854775807) (hs2 : x.state.length ≤ 9223372036854775807) (ht2 : x.waiting.length ≤ 9223372036854775807) :
    Calls Try.prog 9 #[.agg #[.slice op x.procs.length cp, .slice os x.state.length cs, .slice ow x.waiting.length cw], .agg #[.slice oq y.procs.length cq, .slice ot y.state.length ct, .slice ov y.waiting.length cv]] w (SameB (decide (x = y)) w) := by
  obtain ⟨ps, st, wt⟩ := x
  obtain ⟨ps', st', wt'⟩ := y
  simp only at hp hs ht hq hu hv hp2 hs2 ht2 ⊢
  obtain ⟨n, hn⟩ : ∃ n, n = ps.length := ⟨_, rfl⟩
  obtain ⟨m, hm⟩ : ∃ n, n = ps'.length := ⟨_, rfl⟩
  have HN := hide hn
  have HM := hide hm
  have HC1 : Hid (∀ W, Below w.heap.size w W → Calls Try.prog 28 #[.slice os st.length cs, .slice ot st'.length ct] W (SameB (decide (st = st')) W)) := fun W h => (sameInts08_any st st' os ot cs ct F G W (hs.below intR_ok h) (hu.below intR_ok h) hs2).mono fun e w' h => h.below
  have HC2 : Hid (∀ W, Below w.heap.size w W → Calls Try.prog 10 #[.slice ow wt.length cw, .slice ov wt'.length cv] W (SameB (decide (wt = wt')) W)) := fun W h => (sameTables_any wt wt' ow ov cw cv F G W (ht.below tabR_ok h) (hv.below tabR_ok h) ht2).mono fun e w' h => h.below
  obtain ⟨ns, hns⟩ : ∃ n, n = st.length := ⟨_, rfl⟩
  obtain ⟨ns', hns'⟩ : ∃ n, n = st'.length := ⟨_, rfl⟩
  obtain ⟨nw, hnw⟩ : ∃ n, n = wt.length := ⟨_, rfl⟩
  obtain ⟨nw', hnw'⟩ : ∃ n, n = wt'.length := ⟨_, rfl⟩
  rw [← hns, ← hns'] at HC1
  rw [← hnw, ← hnw'] at HC2
  rw [← hn] at hp2 ⊢
  rw [← hm, ← hns, ← hns', ← hnw, ← hnw']
  clear hn hm hns hns' hnw hnw'
  obtain ⟨W1, e1⟩ : ∃ W1, w.alloc (.cells #[.slice op n cp, .slice os ns cs, .slice ow nw cw] 26) = W1 := ⟨_, rfl⟩
  have bx1 : Box W1 w.heap.size [.slice op n cp, .slice os ns cs, .slice ow nw cw] 26 := by rw [← e1]; exact Box.new w [.slice op n cp, .slice os ns cs, .slice ow nw cw] 26
  have bb1 := bnew (Below.refl w.heap.size w) (.cells #[.slice op n cp, .slice os ns cs, .slice ow nw cw] 26)
  rw [e1] at bb1
  obtain ⟨W2, e2⟩ : ∃ W2, W1.alloc (.cells #[.slice oq m cq, .slice ot ns' ct, .slice ov nw' cv] 26) = W2 := ⟨_, rfl⟩
  have bx2 : Box W2 W1.heap.size [.slice oq m cq, .slice ot ns' ct, .slice ov nw' cv] 26 := by rw [← e2]; exact Box.new W1 [.slice oq m cq, .slice ot ns' ct, .slice ov nw' cv] 26
  have bb2 := bnew (Below.refl W1.heap.size W1) (.cells #[.slice oq m cq, .slice ot ns' ct, .slice ov nw' cv] 26)
  rw [e2] at bb2
  have hb0 := bb1.trans (bb2.mono bb1.size)
  have HB := hide hb0
  have HX1 := hide (bx1.below bb2)
  have HX2 := hide bx2
  have HP := hide (hp.below prcR_ok hb0)
  have HQ := hide (hq.below prcR_ok hb0)
  have d0 := HX1.out.cell 0
  have d1 := HX1.out.cell 1
  have d2 := HX1.out.cell 2
  have f0 := HX2.out.cell 0
  have f1 := HX2.out.cell 1
  have f2 := HX2.out.cell 2
  simp only [List.getElem?_cons_zero, List.getElem?_cons_succ] at d0 d1 d2 f0 f1 f2
  clear bx1 bx2 bb1 bb2 hb0 hp hq hs hu ht hv hs2 ht2
  by_cases hl : n = m
  case neg =>
    have q1 : ((n : Int) != m) = true := by simp; omega
    have HR : Hid (decide ((⟨ps, st, wt⟩ : Nwk) = ⟨ps', st', wt'⟩) = false) := decide_eq_false fun h => hl (by injection h with h1; rw [HN.out, HM.out, h1])
    clear hl
    go_enter Try.func9, Try.ntmps9
    go_wp2_with fail
    go_ret
    exact ⟨ret_bool HR.out.symm, HB.out⟩
  have q1 : ((n : Int) != m) = false := by simp; omega
  have HL := hide hl
  clear hl
  by_cases hst : st = st'
  case neg =>
    rw [decide_eq_false hst] at HC1
    have HR : Hid (decide ((⟨ps, st, wt⟩ : Nwk) = ⟨ps', st', wt'⟩) = false) := decide_eq_false fun h => hst (by injection h)
    clear hst
    go_enter Try.func9, Try.ntmps9
    go_wp2_with (go_at_call 28; refine (HC1.out _ HB.out).mono ?_; rintro e w5 ⟨rfl, h5⟩)
    go_ret
    exact ⟨ret_bool HR.out.symm, HB.out.trans (h5.mono HB.out.size)⟩
  rw [decide_eq_true hst] at HC1
  have HST := hide hst
  clear hst
  by_cases hwt : wt = wt'
  case neg =>
    rw [decide_eq_false hwt] at HC2
    have HR : Hid (decide ((⟨ps, st, wt⟩ : Nwk) = ⟨ps', st', wt'⟩) = false) := decide_eq_false fun h => hwt (by injection h)
    clear hwt
    go_enter Try.func9, Try.ntmps9
    go_wp2_with (first
      | (go_at_call 28; refine (HC1.out _ HB.out).mono ?_; rintro e w5 ⟨rfl, h5⟩; have d2 := (HX1.out.below h5).cell 2; have f2 := (HX2.out.below h5).cell 2; simp only [List.getElem?_cons_zero, List.getElem?_cons_succ] at d2 f2; have HB5 := hide (HB.out.trans (h5.mono HB.out.size)); clear h5)
      | (go_at_call 10; refine (HC2.out _ HB5.out).mono ?_; rintro e w6 ⟨rfl, h6⟩))
    go_ret
    exact ⟨ret_bool HR.out.symm, HB5.out.trans (h6.mono HB5.out.size)⟩
  rw [decide_eq_true hwt] at HC2
  have HWT := hide hwt
  clear hwt
  have HR : Hid (decide ((⟨ps, st, wt⟩ : Nwk) = ⟨ps', st', wt'⟩) = decide (ps = ps')) := by
    show _ = _
    rw [HST.out, HWT.out]
    by_cases h : ps = ps'
    · simp [h]
    · rw [decide_eq_false h]; exact decide_eq_false fun g => h (by injection g)
  go_enter Try.func9, Try.ntmps9
  go_wp2_with (first
    | (go_at_call 28; refine (HC1.out _ HB.out).mono ?_; rintro e w5 ⟨rfl, h5⟩; have d2 := (HX1.out.below h5).cell 2; have f2 := (HX2.out.below h5).cell 2; simp only [List.getElem?_cons_zero, List.getElem?_cons_succ] at d2 f2; have HB5 := hide (HB.out.trans (h5.mono HB.out.size)); have HB25 := hide h5; clear h5)
    | (go_at_call 10; refine (HC2.out _ HB5.out).mono ?_; rintro e w6 ⟨rfl, h6⟩; have HB6 : Hid (Below W2.heap.size W2 w6) := HB25.out.trans (h6.mono HB25.out.size); clear h6))
  clear d0 d1 d2 f0 f1 f2
  go_loopw [5] (fun i wr => ∃ k : Nat, k ≤ n ∧ i = .int .i64 k ∧ Hid (ps = ps' ↔ ps.drop k = ps'.drop k) ∧ Hid (Below W2.heap.size W2 wr)) (fun i _ => n - (intOf i).toNat)
  case atStart => exact ⟨0, by omega, rfl, Iff.rfl, HB6⟩
  case round =>
    obtain ⟨k, hk, rfl, HE, HBk⟩ := hrel
    have d0 := (HX1.out.below HBk.out).cell 0
    have f0 := (HX2.out.below HBk.out).cell 0
    simp only [List.getElem?_cons_zero, List.getElem?_cons_succ] at d0 f0
    by_cases hlt : k < n
    · obtain ⟨S5, Le5, rs5, b7, off7, oa7, c7, hd7, _, rfl, _, y0, y1, y2, _, _, hrc, hrc2, hrs⟩ := (HP.out.below prcR_ok HBk.out).prc_at (i := k) (by have := HN.out; omega)
      have hlt2 : k < m := by have := HL.out; omega
      obtain ⟨S6, Le6, rs6, b8, off8, oa8, c8, hd8, _, rfl, _, z0, z1, z2, _, _, _, _, hrs8⟩ := (HQ.out.below prcR_ok HBk.out).prc_at (i := k) (by have := HM.out; omega)
      have HC := hide (sameProcs_any S5 Le5 S6 Le6 rs5 rs6 oa7 oa8 c7 c8 F G wr.drew (hrs.keep (w' := wr.drew) rowR_ok (fun _ _ _ => rfl)) (hrs8.keep (w' := wr.drew) rowR_ok (fun _ _ _ => rfl)) hrc2)
      have HD := hide hd7
      have HD' := hide hd8
      clear hd7 hd8 hrs hrs8 hrc hrc2
      by_cases hx : (⟨S5, Le5, rs5⟩ : Prc) = ⟨S6, Le6, rs6⟩
      · rw [decide_eq_true hx] at HC
        have HXX := hide hx
        clear hx
        go_wp2_with fail
        go_still_tail 10, (by kernel_rfl)
        change wpList _ _ _ _ _ wr.drew
        go_wp2_with (go_at_call 29; refine HC.out.mono ?_; rintro e w5 ⟨rfl, h5⟩; have HB7 := hide (HBk.out.trans ((Below.refl _ _).drew.trans h5 |>.mono HBk.out.size)); clear h5)
        go_roundw
        case rel =>
          refine ⟨k + 1, by omega, by go_num, ?_, HB7⟩
          show _ ↔ _
          rw [HE.out, HD.out, HD'.out, HXX.out]; simp
        case measure => simp [intOf]; omega
      · rw [decide_eq_false hx] at HC
        have HXX := hide hx
        clear hx
        go_wp2_with fail
        go_still_tail 10, (by kernel_rfl)
        change wpList _ _ _ _ _ wr.drew
        go_wp2_with (go_at_call 29; refine HC.out.mono ?_; rintro e w5 ⟨rfl, h5⟩; have HB7 := hide (HBk.out.trans ((Below.refl _ _).drew.trans h5 |>.mono HBk.out.size)); clear h5)
        go_ret
        refine ⟨ret_bool ?_, HB.out.trans (HB7.out.mono HB.out.size)⟩
        rw [HR.out]
        symm
        refine decide_eq_false fun h => HXX.out ?_
        have h2 := HE.out.1 h
        rw [HD.out, HD'.out] at h2
        injection h2
    · go_wp2_with fail
      go_ret
      refine ⟨ret_bool ?_, HB.out.trans (HBk.out.mono HB.out.size)⟩
      rw [HR.out]
      symm
      refine decide_eq_true (HE.out.2 ?_)
      rw [List.drop_eq_nil_of_le (by have := HN.out; omega), List.drop_eq_nil_of_le (by have := HM.out; have := HL.out; omega)]

end Go.Proofs.Ytnigfddanoaonaa

set_option linter.unusedVariables false
set_option linter.unusedSimpArgs false
namespace Go.Proofs.Ytnigfddanoaonaa
open Go.RowKit

/-- Few letters: it does not become large within 2000 ticks. -/
theorem wireAt_never {x : Nwk} (h : Right x) (fates : List Int) (hs : ∀ t ∈ x.waiting, ∀ k ∈ t, k ≤ 40) {t : Nat} (ht : t ≤ 2000) : (wireAt x fates t).lg = false := by
  obtain ⟨n, hn⟩ : ∃ n, n = x.procs.length := ⟨_, rfl⟩
  have h1 := h.n.1
  have h12 := h.n.2
  have hb := h.begin_ (M := 40) (X := 1048576) hs (by omega)
  have hok := h.ok
  unfold wireAt
  rw [← hn] at h1 h12 hb hok ⊢
  have hnn : n * n ≤ 144 := Nat.le_trans (Nat.mul_le_mul h12 h12) (by omega)
  exact WInv.never hok fates (by omega) hb (n := 2000) (by omega) ht
end Go.Proofs.Ytnigfddanoaonaa

set_option linter.unusedVariables false
set_option linter.unusedSimpArgs false
namespace Go.Proofs.Ytnigfddanoaonaa
open Go.RowKit

theorem quiet_eq (ps : List Prc) (st : List Int) (wt ct : List (List Int)) (n2 n3 n4 n5 : Int) : quietS ⟨⟨ps, st, wt⟩, ct, n2, n3, n4, n5⟩ = ((!wt.any nzRow) && (n4 == 0) && (n5 == 0)) := rfl

set_option maxHeartbeats 1000000 in
theorem quiet_any (v : Value) (s : Snp) (w : World) (h : SnapAt w v s) (hl : s.net.waiting.length ≤ 9223372036854775807) :
    Calls Try.prog 8 #[v] w fun e w' => e = .returned (.bool (quietS s)) ∧ Below w.heap.size w w' := by
  obtain ⟨⟨ps, st, wt⟩, ct, n2, n3, n4, n5⟩ := s
  obtain ⟨oq, cq, os, cs, ow, cw, oc, cc, rfl, -, -, -, -, -, -, hw, -⟩ := h
  simp only at hl hw ⊢
  have HC : Hid (∀ o, Calls Try.prog 27 #[.slice ow wt.length cw] (w.alloc o) fun e w' => e = .returned (.bool (wt.any nzRow)) ∧ w.alloc o = w') := fun o =>
    waiting_any wt ow cw _ (SliceR.rowsAt (hw.below tabR_ok (bnew (Below.refl _ _) _))) hl
  have HQ := hide (quiet_eq ps st wt ct n2 n3 n4 n5)
  obtain ⟨nw, hnw⟩ : ∃ n, n = wt.length := ⟨_, rfl⟩
  rw [← hnw] at HC ⊢
  generalize wt.any nzRow = b at HC HQ
  generalize ps.length = np at *
  generalize st.length = ns at *
  generalize ct.length = nc at *
  clear hnw hw hl
  rcases hb4 : (n4 == 0) with _ | _ <;> rcases hb5 : (n5 == 0) with _ | _ <;> rw [hb4, hb5] at HQ <;> cases b <;>
    (go_enter Try.func8, Try.ntmps8
     go_wp2_with (go_at_call 27; refine (HC.out _).mono ?_; rintro e w' ⟨rfl, rfl⟩)
     go_ret
     exact ⟨ret_bool (by rw [HQ.out]; rfl), bnew (Below.refl _ _) _⟩)

end Go.Proofs.Ytnigfddanoaonaa

set_option linter.unusedVariables false
namespace Go.Proofs.Ytnigfddanoaonaa
open Go.RowKit

def vertexRs : List (List Rul) := [[⟨1, []⟩], [⟨0, [⟨1, 0⟩, ⟨2, 0⟩]⟩]]
def rotorRs : List (List Rul) := [[⟨1, [⟨1, 0⟩]⟩], [⟨0, [⟨2, 0⟩]⟩]]
def setterRs : List (List Rul) := [[⟨0, []⟩, ⟨1, []⟩], [⟨0, []⟩, ⟨1, []⟩]]
def PrcPost (w : World) (S L : Int) (rs : List (List Rul)) (e : Ending) (w' : World) : Prop :=
  ∃ oa c, e = .returned (.agg #[.int .i64 S, .int .i64 L, .slice oa rs.length c]) ∧ rs.length ≤ c ∧ SliceR (slcR ruleR 2) 1 All w' oa rs ∧ Below w.heap.size w w'

theorem i64_0 : I64 0 := by unfold I64; omega
theorem i64_1 : I64 1 := by unfold I64; omega
theorem i64_2 : I64 2 := by unfold I64; omega
theorem rule_lit {F : Foot} {w : World} {nx : Int} {oa : Option Addr} {c : Nat} {st : List Out} (h : I64 nx) (hc : st.length ≤ c) (hl : st.length ≤ 1000) (hs : SliceR outR 2 F w oa st) : ruleR F w [.int .i64 nx, .slice oa st.length c] ⟨nx, st⟩ :=
  ⟨oa, c, rfl, h, hc, by show st.length ≤ _; omega, hs⟩
theorem row_lit {F : Foot} {w : World} {oa : Option Addr} {c : Nat} {row : List Rul} (hc : row.length ≤ c) (hl : row.length ≤ 1000) (hs : SliceR ruleR 2 F w oa row) : slcR ruleR 2 F w [.slice oa row.length c] row :=
  ⟨oa, c, rfl, hc, by omega, hs⟩
theorem lit1 {α : Type} {R : Rep α} {sz : Nat} {F G : Foot} (ok : RepOk R sz) (w : World) (e : TypeId) (cs : List Value) (x : α) (h : R F w cs x) (hFG : ∀ k, F k → G k) (hG : G w.heap.size) :
    SliceR R sz G (w.alloc (.cells [cs].flatten.toArray e)) (some ⟨w.heap.size, 0, none⟩) [x] :=
  SliceR.lit ok w e [cs] [x] (fun i y hy => by match i, hy with | 0, hy => simp at hy; subst hy; exact ⟨cs, rfl, h⟩) rfl hFG hG
theorem lit2 {α : Type} {R : Rep α} {sz : Nat} {F G : Foot} (ok : RepOk R sz) (w : World) (e : TypeId) (cs cs' : List Value) (x x' : α) (h : R F w cs x) (h' : R F w cs' x') (hFG : ∀ k, F k → G k) (hG : G w.heap.size) :
    SliceR R sz G (w.alloc (.cells [cs, cs'].flatten.toArray e)) (some ⟨w.heap.size, 0, none⟩) [x, x'] :=
  SliceR.lit ok w e [cs, cs'] [x, x'] (fun i y hy => by match i, hy with | 0, hy => simp at hy; subst hy; exact ⟨cs, rfl, h⟩ | 1, hy => simp at hy; subst hy; exact ⟨cs', rfl, h'⟩) rfl hFG hG

end Go.Proofs.Ytnigfddanoaonaa

set_option linter.unusedVariables false
set_option linter.unusedSimpArgs false
namespace Go.Proofs.Ytnigfddanoaonaa
open Go.RowKit

theorem up {α : Type} {R : Rep α} {sz : Nat} {F : Foot} {w : World} {oa : Option Addr} {xs : List α} (ok : RepOk R sz) (o : Obj) (h : SliceR R sz F w oa xs) : SliceR R sz F (w.alloc o) oa xs := h.below ok (bnew (Below.refl _ _) o)
theorem prc_lit {F : Foot} {w : World} {S L : Int} {oa : Option Addr} {c : Nat} {rs : List (List Rul)} (h : I64 S) (h' : I64 L) (hc : rs.length ≤ c) (hl : rs.length ≤ 1000) (hs : SliceR (slcR ruleR 2) 1 F w oa rs) : prcR F w [.int .i64 S, .int .i64 L, .slice oa rs.length c] ⟨S, L, rs⟩ :=
  ⟨oa, c, rfl, h, h', hc, by show rs.length ≤ _; omega, hs⟩
theorem ints_row {F : Foot} {w : World} {oa : Option Addr} {c : Nat} {row : List Int} (hc : row.length ≤ c) (hl : row.length ≤ 1000) (hs : SliceR intR 1 F w oa row) : slcR intR 1 F w [.slice oa row.length c] row :=
  ⟨oa, c, rfl, hc, by omega, hs⟩
def pairPs : List Prc := [⟨1, 1, [[⟨0, [⟨1, 0⟩]⟩]]⟩, ⟨1, 1, [[⟨0, []⟩]]⟩]
def pairX : Nwk := ⟨pairPs, [0, 0], [[1], [0]]⟩
set_option maxHeartbeats 1000000 in
theorem pair_any (w : World) : Calls Try.prog 17 #[] w fun e w' => ∃ op os ow, e = .returned (.agg #[.slice op 2 2, .slice os 2 2, .slice ow 2 2]) ∧
    SliceR prcR 3 (Ge w.heap.size) w' op pairPs ∧ SliceR intR 1 (Ge w.heap.size) w' os [0, 0] ∧ SliceR (slcR intR 1) 1 (Ge w.heap.size) w' ow [[1], [0]] ∧ Below w.heap.size w w' := by
  go_enter Try.func17, Try.ntmps17
  go_wp2_with fail
  let o0 : Obj := .cells #[.slice (some ⟨w.heap.size + 1 + 1 + 1 + 1 + 1 + 1 + 1 + 1, 0, none⟩) 2 2, .slice (some ⟨w.heap.size + 1 + 1 + 1 + 1 + 1 + 1 + 1 + 1 + 1, 0, none⟩) 2 2, .slice (some ⟨w.heap.size + 1 + 1 + 1 + 1 + 1 + 1 + 1 + 1 + 1 + 1 + 1 + 1, 0, none⟩) 2 2] 26
  let o1 : Obj := .cells #[.int .i64 1, .int .i64 0] 75
  let o2 : Obj := .cells #[.int .i64 0, .slice (some ⟨w.heap.size + 1, 0, none⟩) 1 1] 78
  let o3 : Obj := .cells #[.slice (some ⟨w.heap.size + 1 + 1, 0, none⟩) 1 1] 79
  let o4 : Obj := .cells #[.int .i64 1, .int .i64 1, .slice (some ⟨w.heap.size + 1 + 1 + 1, 0, none⟩) 1 1] 53
  let o5 : Obj := .cells #[.int .i64 0, .slice none 0 0] 78
  let o6 : Obj := .cells #[.slice (some ⟨w.heap.size + 1 + 1 + 1 + 1 + 1, 0, none⟩) 1 1] 79
  let o7 : Obj := .cells #[.int .i64 1, .int .i64 1, .slice (some ⟨w.heap.size + 1 + 1 + 1 + 1 + 1 + 1, 0, none⟩) 1 1] 53
  let o8 : Obj := .cells #[.int .i64 1, .int .i64 1, .slice (some ⟨w.heap.size + 1 + 1 + 1, 0, none⟩) 1 1, .int .i64 1, .int .i64 1, .slice (some ⟨w.heap.size + 1 + 1 + 1 + 1 + 1 + 1, 0, none⟩) 1 1] 53
  let o9 : Obj := .cells #[.int .i64 0, .int .i64 0] 3
  let o10 : Obj := .cells #[.int .i64 1] 3
  let o11 : Obj := .cells #[.int .i64 0] 3
  let o12 : Obj := .cells #[.slice (some ⟨w.heap.size + 1 + 1 + 1 + 1 + 1 + 1 + 1 + 1 + 1 + 1, 0, none⟩) 1 1, .slice (some ⟨w.heap.size + 1 + 1 + 1 + 1 + 1 + 1 + 1 + 1 + 1 + 1 + 1, 0, none⟩) 1 1] 23
  have s1 : SliceR (outR) 2 (Ge w.heap.size) ((w.alloc o0).alloc o1) (some ⟨w.heap.size + 1, 0, none⟩) [⟨1, 0⟩] := by simpa [o0, o1] using lit1 (F := Ge w.heap.size) (G := Ge w.heap.size) outR_ok (w.alloc o0) 75 _ ⟨1, 0⟩ ⟨rfl, i64_1, i64_0⟩ (fun _ h => h) (by unfold Ge; simp; try omega)
  have s2 : SliceR (ruleR) 2 (Ge w.heap.size) (((w.alloc o0).alloc o1).alloc o2) (some ⟨w.heap.size + 1 + 1, 0, none⟩) [⟨0, [⟨1, 0⟩]⟩] := by simpa [o0, o1, o2] using lit1 (F := Ge w.heap.size) (G := Ge w.heap.size) ruleR_ok ((w.alloc o0).alloc o1) 78 _ _ (rule_lit (nx := 0) (c := 1) i64_0 (by decide) (by decide) s1) (fun _ h => h) (by unfold Ge; simp; try omega)
  have s3 : SliceR (slcR ruleR 2) 1 (Ge w.heap.size) ((((w.alloc o0).alloc o1).alloc o2).alloc o3) (some ⟨w.heap.size + 1 + 1 + 1, 0, none⟩) [[⟨0, [⟨1, 0⟩]⟩]] := by simpa [o0, o1, o2, o3] using lit1 (F := Ge w.heap.size) (G := Ge w.heap.size) rowR_ok (((w.alloc o0).alloc o1).alloc o2) 79 _ _ (row_lit (c := 1) (by decide) (by decide) s2) (fun _ h => h) (by unfold Ge; simp; try omega)
  have s5 : SliceR (ruleR) 2 (Ge w.heap.size) ((((((w.alloc o0).alloc o1).alloc o2).alloc o3).alloc o4).alloc o5) (some ⟨w.heap.size + 1 + 1 + 1 + 1 + 1, 0, none⟩) [⟨0, []⟩] := by simpa [o0, o1, o2, o3, o4, o5] using lit1 (F := Ge w.heap.size) (G := Ge w.heap.size) ruleR_ok (((((w.alloc o0).alloc o1).alloc o2).alloc o3).alloc o4) 78 _ _ (rule_lit (nx := 0) (c := 0) (oa := none) (st := []) i64_0 (by simp) (by simp) (SliceR.nil _ _ _ _ _)) (fun _ h => h) (by unfold Ge; simp; try omega)
  have s6 : SliceR (slcR ruleR 2) 1 (Ge w.heap.size) (((((((w.alloc o0).alloc o1).alloc o2).alloc o3).alloc o4).alloc o5).alloc o6) (some ⟨w.heap.size + 1 + 1 + 1 + 1 + 1 + 1, 0, none⟩) [[⟨0, []⟩]] := by simpa [o0, o1, o2, o3, o4, o5, o6] using lit1 (F := Ge w.heap.size) (G := Ge w.heap.size) rowR_ok ((((((w.alloc o0).alloc o1).alloc o2).alloc o3).alloc o4).alloc o5) 79 _ _ (row_lit (c := 1) (by decide) (by decide) s5) (fun _ h => h) (by unfold Ge; simp; try omega)
  have s8 : SliceR (prcR) 3 (Ge w.heap.size) (((((((((w.alloc o0).alloc o1).alloc o2).alloc o3).alloc o4).alloc o5).alloc o6).alloc o7).alloc o8) (some ⟨w.heap.size + 1 + 1 + 1 + 1 + 1 + 1 + 1 + 1, 0, none⟩) pairPs := by unfold pairPs; simpa [o0, o1, o2, o3, o4, o5, o6, o7, o8] using lit2 (F := Ge w.heap.size) (G := Ge w.heap.size) prcR_ok ((((((((w.alloc o0).alloc o1).alloc o2).alloc o3).alloc o4).alloc o5).alloc o6).alloc o7) 53 _ _ ⟨1, 1, [[⟨0, [⟨1, 0⟩]⟩]]⟩ ⟨1, 1, [[⟨0, []⟩]]⟩ (prc_lit (c := 1) i64_1 i64_1 (by decide) (by decide) (up rowR_ok o7 (up rowR_ok o6 (up rowR_ok o5 (up rowR_ok o4 s3))))) (prc_lit (c := 1) i64_1 i64_1 (by decide) (by decide) (up rowR_ok o7 s6)) (fun _ h => h) (by unfold Ge; simp; try omega)
  have s9 : SliceR (intR) 1 (Ge w.heap.size) ((((((((((w.alloc o0).alloc o1).alloc o2).alloc o3).alloc o4).alloc o5).alloc o6).alloc o7).alloc o8).alloc o9) (some ⟨w.heap.size + 1 + 1 + 1 + 1 + 1 + 1 + 1 + 1 + 1, 0, none⟩) [0, 0] := by simpa [o0, o1, o2, o3, o4, o5, o6, o7, o8, o9] using ints_lit (F := Ge w.heap.size) (G := Ge w.heap.size) (((((((((w.alloc o0).alloc o1).alloc o2).alloc o3).alloc o4).alloc o5).alloc o6).alloc o7).alloc o8) 3 [0, 0] (by intro x hx; simp at hx; subst hx; exact i64_0) (by unfold Ge; simp; try omega)
  have s10 : SliceR (intR) 1 (Ge w.heap.size) (((((((((((w.alloc o0).alloc o1).alloc o2).alloc o3).alloc o4).alloc o5).alloc o6).alloc o7).alloc o8).alloc o9).alloc o10) (some ⟨w.heap.size + 1 + 1 + 1 + 1 + 1 + 1 + 1 + 1 + 1 + 1, 0, none⟩) [1] := by simpa [o0, o1, o2, o3, o4, o5, o6, o7, o8, o9, o10] using ints_lit (F := Ge w.heap.size) (G := Ge w.heap.size) ((((((((((w.alloc o0).alloc o1).alloc o2).alloc o3).alloc o4).alloc o5).alloc o6).alloc o7).alloc o8).alloc o9) 3 [1] (by intro x hx; simp at hx; subst hx; exact i64_1) (by unfold Ge; simp; try omega)
  have s11 : SliceR (intR) 1 (Ge w.heap.size) ((((((((((((w.alloc o0).alloc o1).alloc o2).alloc o3).alloc o4).alloc o5).alloc o6).alloc o7).alloc o8).alloc o9).alloc o10).alloc o11) (some ⟨w.heap.size + 1 + 1 + 1 + 1 + 1 + 1 + 1 + 1 + 1 + 1 + 1, 0, none⟩) [0] := by simpa [o0, o1, o2, o3, o4, o5, o6, o7, o8, o9, o10, o11] using ints_lit (F := Ge w.heap.size) (G := Ge w.heap.size) (((((((((((w.alloc o0).alloc o1).alloc o2).alloc o3).alloc o4).alloc o5).alloc o6).alloc o7).alloc o8).alloc o9).alloc o10) 3 [0] (by intro x hx; simp at hx; subst hx; exact i64_0) (by unfold Ge; simp; try omega)
  have s12 : SliceR (slcR intR 1) 1 (Ge w.heap.size) (((((((((((((w.alloc o0).alloc o1).alloc o2).alloc o3).alloc o4).alloc o5).alloc o6).alloc o7).alloc o8).alloc o9).alloc o10).alloc o11).alloc o12) (some ⟨w.heap.size + 1 + 1 + 1 + 1 + 1 + 1 + 1 + 1 + 1 + 1 + 1 + 1, 0, none⟩) [[1], [0]] := by simpa [o0, o1, o2, o3, o4, o5, o6, o7, o8, o9, o10, o11, o12] using lit2 (F := Ge w.heap.size) (G := Ge w.heap.size) tabR_ok ((((((((((((w.alloc o0).alloc o1).alloc o2).alloc o3).alloc o4).alloc o5).alloc o6).alloc o7).alloc o8).alloc o9).alloc o10).alloc o11) 23 _ _ [1] [0] (ints_row (c := 1) (by decide) (by decide) (up intR_ok o11 s10)) (ints_row (c := 1) (by decide) (by decide) s11) (fun _ h => h) (by unfold Ge; simp; try omega)
  refine bodyPost_ret (v := .agg #[.slice (some ⟨w.heap.size + 1 + 1 + 1 + 1 + 1 + 1 + 1 + 1, 0, none⟩) 2 2, .slice (some ⟨w.heap.size + 1 + 1 + 1 + 1 + 1 + 1 + 1 + 1 + 1, 0, none⟩) 2 2, .slice (some ⟨w.heap.size + 1 + 1 + 1 + 1 + 1 + 1 + 1 + 1 + 1 + 1 + 1 + 1, 0, none⟩) 2 2]) (by simp [results, Try.results17, go_sem]) rfl ⟨_, _, _, rfl, ?_, ?_, ?_, ?_⟩
  · exact (up prcR_ok o12 (up prcR_ok o11 (up prcR_ok o10 (up prcR_ok o9 s8))))
  · exact (up intR_ok o12 (up intR_ok o11 (up intR_ok o10 s9)))
  · exact s12
  · exact (bnew (bnew (bnew (bnew (bnew (bnew (bnew (bnew (bnew (bnew (bnew (bnew (bnew (Below.refl _ _) _) _) _) _) _) _) _) _) _) _) _) _) _)

def pairOkX (fates : List Int) (t s : Nat) : Bool :=
  (List.range t).all (fun i => busyS (wireAt pairX fates i)) && !busyS (wireAt pairX fates t) && (wireAt pairX fates t).se == s && (wireAt pairX fates t).ct == [[1], [1]]
theorem pairX_none : pairOkX [] 3 2 = true := by decide +kernel
theorem pairX_lost : pairOkX [1] 7 3 = true := by decide +kernel
theorem pairX_twice : pairOkX [2] 4 3 = true := by decide +kernel
theorem pairX_one : (wireAt pairX [] 1).fl.length = 1 ∧ queuedS (wireAt pairX [] 1).ls = 1 ∧ busyS (wireAt pairX [] 1) = true := by decide +kernel
theorem pairX_right : netErr pairX = 0 := by decide +kernel
theorem pairX_few : ∀ t ∈ pairX.waiting, ∀ k ∈ t, k ≤ 40 := by decide
def SnapIs (F : Foot) (w : World) (T S : Int) (v : Value) (s : Snp) : Prop := SnapF F w v s ∧ s.ticks = T ∧ s.sent = S ∧ s.net.waiting.length ≤ 9223372036854775807 ∧ s.counts.length ≤ 9223372036854775807
theorem seen_len {x : Nwk} (h : Right x) (fates : List Int) {t : Nat} (ht : t ≤ 4096) : (seenS x.procs (wireAt x fates t)).net.waiting.length = x.procs.length ∧ (seenS x.procs (wireAt x fates t)).counts.length = x.procs.length ∧ (seenS x.procs (wireAt x fates t)).net.state.length = x.procs.length :=
  have hi := wireAt_inv h fates ht
  ⟨hi.nwt, hi.nct, hi.nst⟩
theorem pair_run (op os ow oF : Option Addr) (fates : List Int) (cF : Nat) (T S : Nat) (w : World) (hk : pairOkX fates T S = true) (hT : T ≤ 20) (hf : fateErr fates = 0) (hF : SliceR intR 1 All w oF fates) {F : Foot}
    (hp : SliceR prcR 3 F w op pairPs) (hs : SliceR intR 1 F w os [0, 0]) (ht : SliceR (slcR intR 1) 1 F w ow [[1], [0]]) :
    Calls Try.prog 7 #[.agg #[.slice op 2 2, .slice os 2 2, .slice ow 2 2], .slice oF fates.length cF, .int .i64 20] w fun e w' => ∃ v s, e = .returned (.tuple #[v, .int .i64 0]) ∧ SnapIs (fun k => F k ∨ w.heap.size ≤ k) w' T S v s ∧ quietS s = true ∧ s.counts = [[1], [1]] ∧ Below w.heap.size w w' := by
  have hr := netErr_zero pairX_right
  simp only [pairOkX, Bool.and_eq_true, List.all_eq_true, List.mem_range, Bool.not_eq_true', beq_iff_eq] at hk
  obtain ⟨⟨⟨k1, k2⟩, k3⟩, k4⟩ := hk
  have hq : quietAt pairX.procs.length (nextP pairX.procs) (sentP pairX.procs) fates (beginS pairX.state pairX.waiting pairX.procs.length) 20 = some T := quietAt_some hT k2 k1
  refine (wrun_any pairX op 2 os 2 ow 2 fates oF cF 20 F All w hp hs ht pairX_right hF hf (by decide) (by decide) (by omega) (fun t ht => wireAt_never hr fates pairX_few (by omega))).mono ?_
  rintro e w' ⟨v, c, rfl, hv, hb⟩
  rw [hq] at hv
  obtain ⟨rfl, hv⟩ := hv
  have hl := seen_len hr fates (t := T) (by omega)
  refine ⟨v, _, rfl, ⟨hv, ?_, ?_, ?_, ?_⟩, ?_, k4, hb⟩
  · show ((wireAt pairX fates T).tk : Int) = T
    rw [wireAt_tk]
  · show ((wireAt pairX fates T).se : Int) = S
    rw [k3]
  · rw [hl.1]; decide
  · rw [hl.2.1]; decide
  · rw [quietS_seen, k2]; rfl
theorem pair_run_n (op os ow oF : Option Addr) (fates : List Int) (cF n : Nat) (T S : Nat) (w : World) (hn : n = fates.length) (hk : pairOkX fates T S = true) (hT : T ≤ 20) (hf : fateErr fates = 0) (hF : SliceR intR 1 All w oF fates) {F : Foot}
    (hp : SliceR prcR 3 F w op pairPs) (hs : SliceR intR 1 F w os [0, 0]) (ht : SliceR (slcR intR 1) 1 F w ow [[1], [0]]) :
    Calls Try.prog 7 #[.agg #[.slice op 2 2, .slice os 2 2, .slice ow 2 2], .slice oF n cF, .int .i64 20] w fun e w' => ∃ v s, e = .returned (.tuple #[v, .int .i64 0]) ∧ SnapIs (fun k => F k ∨ w.heap.size ≤ k) w' T S v s ∧ quietS s = true ∧ s.counts = [[1], [1]] ∧ Below w.heap.size w w' := by
  subst hn
  exact pair_run op os ow oF fates cF T S w hk hT hf hF hp hs ht
theorem pair_after (op os ow : Option Addr) (w : World) {F : Foot} (hp : SliceR prcR 3 F w op pairPs) (hs : SliceR intR 1 F w os [0, 0]) (ht : SliceR (slcR intR 1) 1 F w ow [[1], [0]]) :
    Calls Try.prog 18 #[.agg #[.slice op 2 2, .slice os 2 2, .slice ow 2 2], .slice none 0 0, .int .i64 1] w fun e w' => ∃ v s, e = .returned (.tuple #[v, .int .i64 0]) ∧ SnapF (fun k => F k ∨ w.heap.size ≤ k) w' v s ∧ s.flying = 1 ∧ s.queued = 1 ∧ s.net.waiting.length ≤ 9223372036854775807 ∧ quietS s = false ∧ Below w.heap.size w w' := by
  have hr := netErr_zero pairX_right
  refine (after_any pairX op 2 os 2 ow 2 [] none 0 1 F All w hp hs ht pairX_right (SliceR.nil _ _ _ _ _) (by decide) (by decide) (by decide) (by omega) (fun t ht => wireAt_never hr [] pairX_few (by omega))).mono ?_
  rintro e w' ⟨v, rfl, hv, hb⟩
  obtain ⟨f1, f2, f3⟩ := pairX_one
  refine ⟨v, _, rfl, hv, ?_, ?_, ?_, ?_, hb⟩
  · show (((wireAt pairX [] 1).fl.length : Nat) : Int) = 1
    rw [f1]; rfl
  · show ((queuedS (wireAt pairX [] 1).ls : Nat) : Int) = 1
    rw [f2]; rfl
  · rw [(seen_len hr [] (t := 1) (by omega)).1]; decide
  · rw [quietS_seen, f3]; rfl

end Go.Proofs.Ytnigfddanoaonaa

set_option linter.unusedVariables false
set_option linter.unusedSimpArgs false
namespace Go.Proofs.Ytnigfddanoaonaa
open Go.RowKit

/-- A snapshot in a block of its own. -/
def SnapBox (w : World) (b : Nat) (s : Snp) : Prop := ∃ oq nq cq os ns cs ow nw cw oc nc cc,
  Box w b [.slice oq nq cq, .slice os ns cs, .slice ow nw cw, .slice oc nc cc, .int .i64 s.ticks, .int .i64 s.sent, .int .i64 s.flying, .int .i64 s.queued] 33 ∧
  SnapAt w (.agg #[.slice oq nq cq, .slice os ns cs, .slice ow nw cw, .slice oc nc cc, .int .i64 s.ticks, .int .i64 s.sent, .int .i64 s.flying, .int .i64 s.queued]) s
theorem alloc_size (w : World) (o : Obj) : (w.alloc o).heap.size = w.heap.size + 1 := by simp
theorem SnapF.keep {F : Foot} {w w' : World} {v : Value} {s : Snp} (h : SnapF F w v s) (hb : SameOn F w w') : SnapF F w' v s := by
  obtain ⟨oq, cq, os, cs, ow, cw, oc, cc, rfl, h1, h2, h3, h4, h5, h6, h7, h8⟩ := h
  exact ⟨oq, cq, os, cs, ow, cw, oc, cc, rfl, h1, h2, h3, h4, h5.keep prcR_ok hb, h6.keep intR_ok hb, h7.keep tabR_ok hb, h8.keep tabR_ok hb⟩
theorem SnapF.below {F : Foot} {w w' : World} {v : Value} {s : Snp} (h : SnapF F w v s) (hb : Below w.heap.size w w') : SnapF F w' v s := h.keep (SameOn.of_below hb)
theorem SnapF.all {F : Foot} {w : World} {v : Value} {s : Snp} (h : SnapF F w v s) : SnapAt w v s := by
  obtain ⟨oq, cq, os, cs, ow, cw, oc, cc, rfl, h1, h2, h3, h4, h5, h6, h7, h8⟩ := h
  exact ⟨oq, cq, os, cs, ow, cw, oc, cc, rfl, h1, h2, h3, h4, h5.all prcR_ok (by omega), h6.all intR_ok (by omega), h7.all tabR_ok (by omega), h8.all tabR_ok (by omega)⟩
theorem SnapBox.below {w w' : World} {b : Nat} {s : Snp} (h : SnapBox w b s) (hb : Below w.heap.size w w') : SnapBox w' b s := by
  obtain ⟨oq, nq, cq, os, ns, cs, ow, nw, cw, oc, nc, cc, h1, h2⟩ := h
  exact ⟨oq, nq, cq, os, ns, cs, ow, nw, cw, oc, nc, cc, h1.below hb, h2.below hb⟩
theorem SnapF.form {F : Foot} {w : World} {v : Value} {s : Snp} (h : SnapF F w v s) : ∃ oq nq cq os ns cs ow nw cw oc nc cc, v = .agg #[.slice oq nq cq, .slice os ns cs, .slice ow nw cw, .slice oc nc cc, .int .i64 s.ticks, .int .i64 s.sent, .int .i64 s.flying, .int .i64 s.queued] := by
  obtain ⟨oq, cq, os, cs, ow, cw, oc, cc, rfl, _⟩ := h
  exact ⟨_, _, _, _, _, _, _, _, _, _, _, _, rfl⟩
theorem SnapF.boxed {F : Foot} {w : World} {s : Snp} {oq os ow oc : Option Addr} {nq cq ns cs nw cw nc cc : Nat} (h : SnapF F w (.agg #[.slice oq nq cq, .slice os ns cs, .slice ow nw cw, .slice oc nc cc, .int .i64 s.ticks, .int .i64 s.sent, .int .i64 s.flying, .int .i64 s.queued]) s) :
    SnapBox (w.alloc (.cells #[.slice oq nq cq, .slice os ns cs, .slice ow nw cw, .slice oc nc cc, .int .i64 s.ticks, .int .i64 s.sent, .int .i64 s.flying, .int .i64 s.queued] 33)) w.heap.size s :=
  ⟨oq, nq, cq, os, ns, cs, ow, nw, cw, oc, nc, cc, Box.new w [.slice oq nq cq, .slice os ns cs, .slice ow nw cw, .slice oc nc cc, .int .i64 s.ticks, .int .i64 s.sent, .int .i64 s.flying, .int .i64 s.queued] _, h.all.below (bnew (Below.refl _ _) _)⟩
def snapZ : List Value := [.slice none 0 0, .slice none 0 0, .slice none 0 0, .slice none 0 0, .int .i64 0, .int .i64 0, .int .i64 0, .int .i64 0]
theorem SnapF.put8 {F : Foot} {w : World} {b : Nat} {s : Snp} {oq os ow oc : Option Addr} {nq cq ns cs nw cw nc cc : Nat} (hz : Box w b snapZ 33)
    (h : SnapF F w (.agg #[.slice oq nq cq, .slice os ns cs, .slice ow nw cw, .slice oc nc cc, .int .i64 s.ticks, .int .i64 s.sent, .int .i64 s.flying, .int .i64 s.queued]) s) (hF : ¬ F b) :
    SnapBox ((((((((w.setCell ⟨b, 0, none⟩ (.slice oq nq cq)).setCell ⟨b, 1, none⟩ (.slice os ns cs)).setCell ⟨b, 2, none⟩ (.slice ow nw cw)).setCell ⟨b, 3, none⟩ (.slice oc nc cc)).setCell ⟨b, 4, none⟩ (.int .i64 s.ticks)).setCell ⟨b, 5, none⟩ (.int .i64 s.sent)).setCell ⟨b, 6, none⟩ (.int .i64 s.flying)).setCell ⟨b, 7, none⟩ (.int .i64 s.queued)) b s := by
  have hfin := (((((((hz.put 0 (.slice oq nq cq)).put 1 (.slice os ns cs)).put 2 (.slice ow nw cw)).put 3 (.slice oc nc cc)).put 4 (.int .i64 s.ticks)).put 5 (.int .i64 s.sent)).put 6 (.int .i64 s.flying)).put 7 (.int .i64 s.queued)
  simp only [snapZ, List.set_cons_zero, List.set_cons_succ] at hfin
  refine ⟨oq, nq, cq, os, ns, cs, ow, nw, cw, oc, nc, cc, hfin, (h.keep fun k hk _ => ?_).all⟩
  have hne : k ≠ b := fun e => hF (e ▸ hk)
  rw [Below.heap_setCell _ _ _ k hne, Below.heap_setCell _ _ _ k hne, Below.heap_setCell _ _ _ k hne, Below.heap_setCell _ _ _ k hne, Below.heap_setCell _ _ _ k hne, Below.heap_setCell _ _ _ k hne, Below.heap_setCell _ _ _ k hne, Below.heap_setCell _ _ _ k hne]
theorem below_put8 {B : Nat} {w0 w : World} {b : Nat} {v0 v1 v2 v3 v4 v5 v6 v7 : Value} (h : Below B w0 w) (hb : B ≤ b) :
    Below B w0 ((((((((w.setCell ⟨b, 0, none⟩ v0).setCell ⟨b, 1, none⟩ v1).setCell ⟨b, 2, none⟩ v2).setCell ⟨b, 3, none⟩ v3).setCell ⟨b, 4, none⟩ v4).setCell ⟨b, 5, none⟩ v5).setCell ⟨b, 6, none⟩ v6).setCell ⟨b, 7, none⟩ v7) :=
  (((((((h.setCell hb _).setCell hb _).setCell hb _).setCell hb _).setCell hb _).setCell hb _).setCell hb _).setCell hb _
theorem SnapF.counts {F : Foot} {w : World} {s : Snp} {oq os ow oc : Option Addr} {nq cq ns cs nw cw nc cc : Nat} {a b c d : Value} (h : SnapF F w (.agg #[.slice oq nq cq, .slice os ns cs, .slice ow nw cw, .slice oc nc cc, a, b, c, d]) s) :
    nc = s.counts.length ∧ SliceR (slcR intR 1) 1 F w oc s.counts := by
  obtain ⟨oq', cq', os', cs', ow', cw', oc', cc', e, h1, h2, h3, h4, h5, h6, h7, h8⟩ := h
  injection e with e
  simp at e
  obtain ⟨_, _, _, ⟨rfl, rfl, rfl⟩, _⟩ := e
  exact ⟨rfl, h8⟩
theorem ones_tab (w : World) : SliceR (slcR intR 1) 1 All (((w.alloc (.cells #[.int .i64 1] 3)).alloc (.cells #[.int .i64 1] 3)).alloc (.cells #[.slice (some ⟨w.heap.size, 0, none⟩) 1 1, .slice (some ⟨w.heap.size + 1, 0, none⟩) 1 1] 23)) (some ⟨w.heap.size + 1 + 1, 0, none⟩) [[1], [1]] := by
  have s10 : SliceR intR 1 All ((w.alloc (.cells #[.int .i64 1] 3)).alloc (.cells #[.int .i64 1] 3)) (some ⟨w.heap.size, 0, none⟩) [1] := by simpa using up intR_ok (.cells #[.int .i64 1] 3) (ints_lit (F := All) (G := All) w 3 [1] (by intro x hx; simp at hx; subst hx; exact i64_1) trivial)
  have s11 : SliceR intR 1 All ((w.alloc (.cells #[.int .i64 1] 3)).alloc (.cells #[.int .i64 1] 3)) (some ⟨w.heap.size + 1, 0, none⟩) [1] := by simpa using ints_lit (F := All) (G := All) (w.alloc (.cells #[.int .i64 1] 3)) 3 [1] (by intro x hx; simp at hx; subst hx; exact i64_1) trivial
  simpa using lit2 (F := All) (G := All) tabR_ok ((w.alloc (.cells #[.int .i64 1] 3)).alloc (.cells #[.int .i64 1] 3)) 23 _ _ [1] [1] (ints_row (c := 1) (by decide) (by decide) s10) (ints_row (c := 1) (by decide) (by decide) s11) (fun _ h => h) trivial
theorem below_then' {B : Nat} {a w w1 : World} {o1 o2 o3 : Obj} (h : Below B a w) (hB : B ≤ w.heap.size) (h2 : Below (((w.alloc o1).alloc o2).alloc o3).heap.size (((w.alloc o1).alloc o2).alloc o3) w1) : Below B a w1 :=
  (((h.alloc hB o1).alloc (Nat.le_trans hB (by simp)) o2).alloc (Nat.le_trans hB (by simp; omega)) o3).trans (h2.mono (Nat.le_trans hB (by simp; omega)))
/-- The examples. -/
theorem ex_row (w : World) (b : Nat) (o1 o2 : Option Addr) (hB : Box w b [.slice none 0 0, .int .i64 3, .int .i64 2, .slice o1 1 1, .int .i64 7, .int .i64 3, .slice o2 1 1, .int .i64 4, .int .i64 3] 43)
    (h1 : SliceR intR 1 All w o1 [1]) (h2 : SliceR intR 1 All w o2 [2]) {k : Nat} (hk : k < 3) :
    ∃ (oF : Option Addr) (F : List Int) (n cF T S : Nat), n = F.length ∧ w.cell? ⟨b, k * 3, none⟩ = some (.slice oF n cF) ∧ w.cell? ⟨b, k * 3 + 1, none⟩ = some (.int .i64 T) ∧ w.cell? ⟨b, k * 3 + 2, none⟩ = some (.int .i64 S) ∧
      SliceR intR 1 All w oF F ∧ pairOkX F T S = true ∧ T ≤ 20 ∧ fateErr F = 0 := by
  match k, hk with
  | 0, _ => exact ⟨none, [], 0, 0, 3, 2, rfl, hB.cell 0, hB.cell 1, hB.cell 2, SliceR.nil _ _ _ _ _, pairX_none, by omega, by decide⟩
  | 1, _ => exact ⟨o1, [1], 1, 1, 7, 3, rfl, hB.cell 3, hB.cell 4, hB.cell 5, h1, pairX_lost, by omega, by decide⟩
  | 2, _ => exact ⟨o2, [2], 1, 1, 4, 3, rfl, hB.cell 6, hB.cell 7, hB.cell 8, h2, pairX_twice, by omega, by decide⟩

set_option maxRecDepth 100000 in
set_option maxHeartbeats 2000000 in
theorem awake56_any (w : World) : Calls Try.prog 5 #[] w fun e w' => e = .returned (.bool true) ∧ Below w.heap.size w w' := by
  go_enter Try.func5, Try.ntmps5
  go_wp2_with fail
  have hB := Box.new ((w.alloc (.cells #[.int .i64 1] 3)).alloc (.cells #[.int .i64 2] 3)) [.slice none 0 0, .int .i64 3, .int .i64 2, .slice (some ⟨w.heap.size, 0, none⟩) 1 1, .int .i64 7, .int .i64 3, .slice (some ⟨w.heap.size + 1, 0, none⟩) 1 1, .int .i64 4, .int .i64 3] 43
  have hB0 : Below w.heap.size w (((w.alloc (.cells #[.int .i64 1] 3)).alloc (.cells #[.int .i64 2] 3)).alloc (.cells #[.slice none 0 0, .int .i64 3, .int .i64 2, .slice (some ⟨w.heap.size, 0, none⟩) 1 1, .int .i64 7, .int .i64 3, .slice (some ⟨w.heap.size + 1, 0, none⟩) 1 1, .int .i64 4, .int .i64 3] 43)) := bnew (bnew (bnew (Below.refl _ _) _) _) _
  have hi1 := up intR_ok (.cells #[.slice none 0 0, .int .i64 3, .int .i64 2, .slice (some ⟨w.heap.size, 0, none⟩) 1 1, .int .i64 7, .int .i64 3, .slice (some ⟨w.heap.size + 1, 0, none⟩) 1 1, .int .i64 4, .int .i64 3] 43) (up intR_ok (.cells #[.int .i64 2] 3) (ints_lit (F := All) (G := All) w 3 [1] (by intro x hx; simp at hx; subst hx; exact i64_1) trivial))
  have hi2 := up intR_ok (.cells #[.slice none 0 0, .int .i64 3, .int .i64 2, .slice (some ⟨w.heap.size, 0, none⟩) 1 1, .int .i64 7, .int .i64 3, .slice (some ⟨w.heap.size + 1, 0, none⟩) 1 1, .int .i64 4, .int .i64 3] 43) (ints_lit (F := All) (G := All) (w.alloc (.cells #[.int .i64 1] 3)) 3 [2] (by intro x hx; simp at hx; subst hx; exact i64_2) trivial)
  simp only [List.map_cons, List.map_nil] at hi1 hi2
  have hszA : ∀ (W : World) (o : Obj), (W.alloc o).heap.size = W.heap.size + 1 := fun W o => by simp
  simp only [hszA] at hB hi2
  generalize e3 : ((w.alloc (.cells #[.int .i64 1] 3)).alloc (.cells #[.int .i64 2] 3)).alloc (.cells #[.slice none 0 0, .int .i64 3, .int .i64 2, .slice (some ⟨w.heap.size, 0, none⟩) 1 1, .int .i64 7, .int .i64 3, .slice (some ⟨w.heap.size + 1, 0, none⟩) 1 1, .int .i64 4, .int .i64 3] 43) = W3 at *
  have HB0 := hide hB0
  have HBX : Hid (Box W3 (w.heap.size + 1 + 1) [.slice none 0 0, .int .i64 3, .int .i64 2, .slice (some ⟨w.heap.size, 0, none⟩) 1 1, .int .i64 7, .int .i64 3, .slice (some ⟨w.heap.size + 1, 0, none⟩) 1 1, .int .i64 4, .int .i64 3] 43) := by
    exact hB
  have HI1 := hide hi1
  have HI2 := hide hi2
  clear e3 hB0 hB hi1 hi2 hszA
  go_loopg [14] 3 (fun g i wr => ∃ k : Nat, k ≤ 3 ∧ g = 3 - k ∧ i = .int .i64 k ∧ Hid (Below W3.heap.size W3 wr))
  case atStart => exact ⟨0, by omega, by omega, rfl, Below.refl _ _⟩
  case round =>
    obtain ⟨k, hk, hg, rfl, HB⟩ := hrel
    have HG := hide hg
    clear hg
    by_cases hlt : k < 3
    · obtain ⟨oF, F, nF, cF, T, S, hnF, x0, x1, x2, hF, hok, hT, hfe⟩ := ex_row wr _ _ _ (HBX.out.below HB.out) (HI1.out.below intR_ok HB.out) (HI2.out.below intR_ok HB.out) hlt
      have HNF := hide hnF
      have HOK := hide hok
      have HFE := hide hfe
      obtain ⟨wy, ey⟩ : ∃ wy, wr.alloc (.cells #[.slice oF nF cF, .int .i64 T, .int .i64 S] 43) = wy := ⟨_, rfl⟩
      have bxy : Box wy wr.heap.size [.slice oF nF cF, .int .i64 T, .int .i64 S] 43 := by rw [← ey]; exact Box.new wr [.slice oF nF cF, .int .i64 T, .int .i64 S] 43
      have bby := bnew (Below.refl wr.heap.size wr) (.cells #[.slice oF nF cF, .int .i64 T, .int .i64 S] 43)
      rw [ey] at bby
      have HF := hide (hF.below intR_ok bby)
      have HBY : Hid (Below W3.heap.size W3 wy) := HB.out.trans (bby.mono HB.out.size)
      clear hnF hok hfe hF bby
      go_upto_region 4 with fail
      clear ey x0 x1 x2
      have d0 := bxy.cell 0
      simp only [List.getElem?_cons_zero] at d0
      have lx := bxy.lt
      have HXY := hide bxy
      clear bxy
      go_cut [2, 3, 4, 14] (fun s2 s3 s4 s14 wx => s2 = .pointer (some ⟨wr.heap.size, 0, none⟩) ∧ s14 = .int .i64 (k : Nat) ∧ s4 = .int .i64 0 ∧ ∃ b s, s3 = .pointer (some ⟨b, 0, none⟩) ∧ Hid (SnapBox wx b s) ∧ Hid (s.ticks = T ∧ s.sent = S ∧ s.net.waiting.length ≤ 9223372036854775807 ∧ s.counts.length ≤ 9223372036854775807 ∧ quietS s = true ∧ s.counts = [[1], [1]]) ∧ Hid (Below wy.heap.size wy wx))
      case first =>
        go_wp2_with fail
        go_region_with (first
          | (go_at_call 17; refine (pair_any _).mono ?_; rintro e w4 ⟨op, os, ow, rfl, hp, hs, ht, hb4⟩
             have hv4 : Below wy.heap.size wy w4 := (by first | exact (Below.refl _ _).drew.trans hb4 | exact (bnew (Below.refl _ _) _).drew.trans (hb4.mono (by simp [World.drew])))
             have d0 := (HXY.out.below hv4).cell 0
             simp only [List.getElem?_cons_zero] at d0
             have lx4 := (HXY.out.below hv4).lt
             have HF4 := hide (HF.out.below intR_ok hv4)
             first
               | (have hz : Box w4 wy.heap.size snapZ 33 := (Box.new wy snapZ 33).keep (hb4.block wy.heap.size (by simp [World.drew])); have lz := hz.lt; have r0 := hz.cell 0; have r1 := hz.cell 1; have r2 := hz.cell 2; have r3 := hz.cell 3; have r4 := hz.cell 4; have r5 := hz.cell 5; have r6 := hz.cell 6; have r7 := hz.cell 7; have rf := hz.free; simp only [snapZ, List.getElem?_cons_zero, List.getElem?_cons_succ] at r0 r1 r2 r3 r4 r5 r6 r7; have hp4 := hide (hp.wide prcR_ok (by decide) (F' := fun k => k < w4.heap.size ∧ k ≠ wy.heap.size) (fun k h hl => ⟨hl, by have h' : (wy.alloc _).heap.size ≤ k := h; rw [alloc_size] at h'; omega⟩)); have hs4 := hide (hs.wide intR_ok (by decide) (F' := fun k => k < w4.heap.size ∧ k ≠ wy.heap.size) (fun k h hl => ⟨hl, by have h' : (wy.alloc _).heap.size ≤ k := h; rw [alloc_size] at h'; omega⟩)); have ht4 := hide (ht.wide tabR_ok (by decide) (F' := fun k => k < w4.heap.size ∧ k ≠ wy.heap.size) (fun k h hl => ⟨hl, by have h' : (wy.alloc _).heap.size ≤ k := h; rw [alloc_size] at h'; omega⟩)))
               | (have hp4 := hide (hp.wide prcR_ok (by decide) (F' := fun k => k < w4.heap.size ∧ True) (fun k h hl => ⟨hl, trivial⟩)); have hs4 := hide (hs.wide intR_ok (by decide) (F' := fun k => k < w4.heap.size ∧ True) (fun k h hl => ⟨hl, trivial⟩)); have ht4 := hide (ht.wide tabR_ok (by decide) (F' := fun k => k < w4.heap.size ∧ True) (fun k h hl => ⟨hl, trivial⟩)))
             have HV4 := hide hv4
             clear hv4 hp hs ht hb4)
          | (go_at_call 7; refine (pair_run_n op os ow oF F cF nF T S _ HNF.out HOK.out hT HFE.out (by first | exact HF4.out | exact up intR_ok _ HF4.out) (by first | exact hp4.out | exact up prcR_ok _ hp4.out) (by first | exact hs4.out | exact up intR_ok _ hs4.out) (by first | exact ht4.out | exact up tabR_ok _ ht4.out)).mono ?_
             rintro e w5 ⟨v, s, rfl, ⟨hs5, t5, u5, l5, m5⟩, hq5, hc5, hb5⟩
             obtain ⟨oq, nq, cq, os5, ns, cs, ow5, nw, cw, oc, nc, cc, rfl⟩ := hs5.form
             have hv5 : Below w4.heap.size w4 w5 := (by first | exact hb5 | exact (bnew (Below.refl _ _) _).trans (hb5.mono (by simp)))
             first | (have hz := hz.below hb5; have r0 := hz.cell 0; have r1 := hz.cell 1; have r2 := hz.cell 2; have r3 := hz.cell 3; have r4 := hz.cell 4; have r5 := hz.cell 5; have r6 := hz.cell 6; have r7 := hz.cell 7; have rf := hz.free; simp only [snapZ, List.getElem?_cons_zero, List.getElem?_cons_succ] at r0 r1 r2 r3 r4 r5 r6 r7) | (have hz : Box w5 w4.heap.size snapZ 33 := (Box.new w4 snapZ 33).keep (hb5.block w4.heap.size (by simp)); have r0 := hz.cell 0; have r1 := hz.cell 1; have r2 := hz.cell 2; have r3 := hz.cell 3; have r4 := hz.cell 4; have r5 := hz.cell 5; have r6 := hz.cell 6; have r7 := hz.cell 7; have rf := hz.free; simp only [snapZ, List.getElem?_cons_zero, List.getElem?_cons_succ] at r0 r1 r2 r3 r4 r5 r6 r7) | skip
             have H5 := hide (And.intro t5 (And.intro u5 (And.intro l5 (And.intro m5 (And.intro hq5 hc5)))))
             have HS5 := hide hs5
             have HV5 := hide hv5
             clear hs5 t5 u5 l5 m5 hq5 hc5 hv5 hb5))
        all_goals
          go_wp2_with fail
          go_meet
          have hwz := HV4.out.size
          have hwz5 := HV5.out.size
          refine ⟨rfl, rfl, rfl, _, s, rfl, ?_, H5.out, ?_⟩
          · first
              | (have hzl := hz.lt; exact SnapF.put8 hz HS5.out (fun h => by rcases h with ⟨h1, h2⟩ | h2 <;> first | omega | exact h2 rfl | (rw [alloc_size] at h2; omega)))
              | exact HS5.out.boxed
          · first
              | (have hzl := hz.lt; exact below_put8 (HV4.out.trans (HV5.out.mono hwz)) (by omega))
              | exact (HV4.out.trans (HV5.out.mono hwz)).alloc (by omega) _
      case rest =>
        obtain ⟨rfl, rfl, rfl, b, s, rfl, HSB, HSF, HBC⟩ := hcut
        obtain ⟨oq, nq, cq, os, ns, cs, ow, nw, cw, oc, nc, cc, bxs, hsa⟩ := HSB.out
        obtain ⟨f1, f2, f3, f4, f5, f6⟩ := HSF.out
        have HQ := hide (quiet_any _ s wc hsa f3)
        rw [f5] at HQ
        obtain ⟨hnc, hsc⟩ := hsa.counts
        rw [f6] at hsc hnc
        have hnc2 : nc = 2 := hnc
        subst hnc2
        rw [f1, f2] at HQ bxs
        have r0 := bxs.cell 0
        have r1 := bxs.cell 1
        have r2 := bxs.cell 2
        have r3 := bxs.cell 3
        have r4 := bxs.cell 4
        have r5 := bxs.cell 5
        have r6 := bxs.cell 6
        have r7 := bxs.cell 7
        simp only [List.getElem?_cons_zero, List.getElem?_cons_succ] at r0 r1 r2 r3 r4 r5 r6 r7
        have bxy := HXY.out.below (w' := wc) HBC.out
        have x1 := bxy.cell 1
        have x2 := bxy.cell 2
        simp only [List.getElem?_cons_zero, List.getElem?_cons_succ] at x1 x2
        have HXS := hide bxs
        have HSC := hide hsc
        have q1 : ((T : Int) != T) = false := by simp
        have q2 : ((S : Int) != S) = false := by simp
        have hsz := HBC.out.size
        have HBW : Hid (Below W3.heap.size W3 wc) := HBY.out.trans (HBC.out.mono HBY.out.size)
        clear bxs hsa f1 f2 f3 f4 f5 f6 hnc hsc bxy lx
        go_wp2_with (first
          | (go_at_call 8; refine HQ.out.mono ?_; rintro e w6 ⟨rfl, h6⟩; have r3 := (HXS.out.below h6).cell 3; simp only [List.getElem?_cons_zero, List.getElem?_cons_succ] at r3; have l6 := (HXS.out.below h6).lt; have HSC6 := hide (HSC.out.below tabR_ok h6); have H6 := hide h6; clear h6)
          | (go_at_call 10; refine (sameTables_any [[1], [1]] [[1], [1]] oc _ cc 2 All All _ (up tabR_ok _ (up tabR_ok _ (up tabR_ok _ HSC6.out))) (ones_tab w6) (by decide)).mono ?_; rintro e w7 h7; obtain ⟨rfl, h7b⟩ := h7.below; clear h7))
        go_roundg (3 - (k + 1))
        case measure => have := HG.out; omega
        case rel => exact ⟨k + 1, by omega, rfl, by go_num, below_then' (HBW.out.trans (H6.out.mono HBW.out.size)) (Nat.le_trans HBW.out.size H6.out.size) h7b⟩
    · go_upto_region 8 with fail
      go_cut [5, 6] (fun s5 s6 wx => ∃ b s, s5 = .pointer (some ⟨b, 0, none⟩) ∧ s6 = .int .i64 0 ∧ Hid (SnapBox wx b s) ∧ Hid (s.flying = 1 ∧ s.queued = 1 ∧ s.net.waiting.length ≤ 9223372036854775807 ∧ quietS s = false) ∧ Hid (Below wr.heap.size wr wx))
      case first =>
        go_wp2_with (first
          | (go_at_call 17; refine (pair_any _).mono ?_; rintro e w4 ⟨op, os, ow, rfl, hp, hs, ht, hb4⟩)
          | (go_at_call 18; refine (pair_after op os ow _ hp hs ht).mono ?_; rintro e w5 ⟨v, s, rfl, hs5, t5, u5, l5, q5, hb5⟩; obtain ⟨oq, nq, cq, os5, ns, cs, ow5, nw, cw, oc, nc, cc, rfl⟩ := hs5.form; have H5 := hide (And.intro t5 (And.intro u5 (And.intro l5 q5))); clear t5 u5 l5 q5))
        go_meet
        exact ⟨_, s, rfl, rfl, hs5.boxed, H5.out, bnew (below_then hb4 hb5) _⟩
      case rest =>
        obtain ⟨b, s, rfl, rfl, HSB, HSF, HBC⟩ := hcut
        obtain ⟨oq, nq, cq, os, ns, cs, ow, nw, cw, oc, nc, cc, bxs, hsa⟩ := HSB.out
        obtain ⟨f1, f2, f3, f5⟩ := HSF.out
        have HQ := hide (quiet_any _ s wc hsa f3)
        rw [f5] at HQ
        rw [f1, f2] at HQ bxs
        have r0 := bxs.cell 0
        have r1 := bxs.cell 1
        have r2 := bxs.cell 2
        have r3 := bxs.cell 3
        have r4 := bxs.cell 4
        have r5 := bxs.cell 5
        have r6 := bxs.cell 6
        have r7 := bxs.cell 7
        simp only [List.getElem?_cons_zero, List.getElem?_cons_succ] at r0 r1 r2 r3 r4 r5 r6 r7
        have HBW : Hid (Below w.heap.size w wc) := HB0.out.trans ((HB.out.trans (HBC.out.mono HB.out.size)).mono HB0.out.size)
        clear bxs hsa f1 f2 f3 f5
        go_wp2_with (go_at_call 8; refine HQ.out.mono ?_; rintro e w6 ⟨rfl, h6⟩)
        go_ret
        exact ⟨rfl, HBW.out.trans (h6.mono HBW.out.size)⟩

end Go.Proofs.Ytnigfddanoaonaa

set_option linter.unusedVariables false
namespace Go.Proofs.Ytnigfddanoaonaa
open Go.RowKit

theorem run_copy_cells {P : Program} (w : World) (dT sT ty elem : TypeId) (g dLen dCap sz n : Nat) (ad : Addr) (sLen sCap : Nat) (cur : Array Value) (t : TypeId) (cs : List Value)
    (hu : P.underlying dT = some (.slice elem)) (hs : (P.info? elem).map (·.size) = some sz) (hg : w.heap[g]? = some (.cells cur t (0, 0))) (hn : n = Nat.min sLen dLen) (hc : cs.length = n * sz)
    (hsrc : ∀ j v, cs[j]? = some v → w.cell? (ad.add j) = some v) (hfit : cs.length = cur.size) (h1 : ∀ v ∈ cs, v.oneCell' = true) :
    (Builtin.copy_ #[dT, sT] ty #[.slice (some ⟨g, 0, none⟩) dLen dCap, .slice (some ad) sLen sCap]).run P w = .ok (goInt n) (w.setRow g cs.toArray) := by
  have hl := run_loadCells_list (P := P) w ad cs hsrc
  have hst := run_storeCells_at P g 0 t cs 0 cur w hg (by simp; omega) h1
  have hd : cur.toList.drop cs.length = [] := List.drop_eq_nil_of_le (by simp; omega)
  cases hq : P.info? elem with
  | none => simp [hq] at hs
  | some i =>
    have hi : i.size = sz := by simpa [hq] using hs
    rw [hc] at hl
    simp [hd] at hst
    simp [Builtin.copy_, run_underlying hu, Builtin.lenOf, Builtin.firstCells, sizeOf, typeInfo, hq, hi, ← hn, hl, hst]

section
variable {α : Type} {R : Rep α} {sz base : Nat} {e : TypeId} {F : Foot}
theorem wpList_copy_fresh (ok : RepOk R sz) {P : Program} {w : World} {ops : Array Oper} {rest : List Oper} {o : Oper} {a : Act} {Q : Exit → Act → World → Prop} (hgd : o.guard = none) (d s : Operand) (dT sT : TypeId)
    (ho : o.op = .call { callee := .builtin .copy, args := #[d, s], argTypes := #[dT, sT] }) (elem : TypeId) (hu : P.underlying dT = some (.slice elem)) (hsz : (P.info? elem).map (·.size) = some sz)
    (g n : Nat) (ad : Option Addr) (sCap : Nat) (hd : a.eval d = .slice (some ⟨g, 0, none⟩) n n) (hs : a.eval s = .slice ad n sCap)
    (xs : List α) (zs : List Value) (hown : w.ownsRow base e sz (.slice (some ⟨g, 0, none⟩) n n) n zs) (hx : xs.length = n) (hn : 0 < n) (hz : 0 < sz) (hsr : SliceR R sz F w ad xs) (hF : ¬ F g)
    (hK : ∀ w', OwnS R sz base e F w' (.slice (some ⟨g, 0, none⟩) n n) xs → w.grownBy w' (some g) → wpList P ops Q rest (a.put o.dst (goInt n)) w') : wpList P ops Q (o :: rest) a w := by
  obtain ⟨news, hl, hsrc, h1, hR⟩ := hsr.cells ok
  rw [hx] at hl
  have hpos : 0 < news.length := by rw [hl]; exact Nat.mul_pos hn hz
  obtain ⟨b, off, had, _⟩ := hsrc 0 _ (List.getElem?_eq_getElem hpos)
  subst had
  rcases hown.2 with ⟨he, _⟩ | ⟨g', cap, cur, he, hbg, hh, _, hcap, hcs, _⟩
  · cases he
  injection he with e1 e2 e3
  injection e1 with e1
  injection e1 with e1
  subst e1 e3
  have hrun := run_copy_cells (P := P) w dT sT o.type elem g n n sz n ⟨b, off, none⟩ n sCap cur e news hu hsz hh (by simp) hl (fun j v hj => by
    obtain ⟨b', off', h2, h3⟩ := hsrc j v hj
    injection h2 with h2
    injection h2 with h4 h5
    subst h4 h5
    rw [Addr.add_lit]
    exact h3) (by rw [hl, hcs]) h1
  refine wpList_plain hgd fun K hK' => ?_
  have hfin := hK (w.setRow g news.toArray) ?_ ⟨rfl, rfl, rfl, by simp [World.setRow], fun k _ hne => setRow_other w g k _ fun he => hne (by rw [he])⟩
  · unfold Oper.wp
    simp [execOp, ho, resolve, invoke, builtin, hd, hs, hrun, Result.andThen]
    exact hK' _ _ hfin
  refine ⟨news, ⟨by rw [hl, hx], .inr ⟨g, n, news.toArray, by rw [hx], hbg, setRow_heap w g cur _ e (0, 0) hh, by omega, hcap, by simp [hl], by rw [hx]; exact List.take_of_length_le (Nat.le_of_eq hl)⟩⟩, h1, fun i x hi => ?_⟩
  refine ok.keep (hR i x hi) fun k hk _ => setRow_other w g k _ fun he => hF (he ▸ hk)
end

/-- make([]T, n): a row of the call's own. -/
theorem wpList_make_cells {P : Program} (w : World) {ops : Array Oper} {rest : List Oper} {o : Oper} {a : Act} {Q : Exit → Act → World → Prop}
    (hg : o.guard = none) (l c : Operand) (t : TypeId) (hop : o.op = Op.makeSlice t l c) (e : TypeId) (z : Value) (size bytes : Nat) (h1 : P.underlying t = some (.slice e)) (hinfo : (P.info? e).map (fun i => (i.zero, i.size, i.bytes)) = some (some z, size, bytes))
    (kl kc : IntKind) (L C : Int) (n : Nat) (hl : a.eval l = .int kl L) (hc : a.eval c = .int kc C) (hL : L = (n : Int)) (hC : C = (n : Int)) (b2 : bytes * n ≤ 281474976710656) (b3 : n ≤ maxLen)
    (hK : ∀ w' zs, w'.ownsRow w.heap.size e size (.slice (some ⟨w.heap.size, 0, none⟩) n n) n zs → w.grownBy w' none → wpList P ops Q rest (a.put o.dst (.slice (some ⟨w.heap.size, 0, none⟩) n n)) w') :
    wpList P ops Q (o :: rest) a w := by
  obtain ⟨i0, hi, hz0, hz1, hz2⟩ := info_parts hinfo
  exact wpList_make_full w hg l c t hop w.heap.size e i0 z size h1 hi hz0 hz1 kl kc L C n hl hc hL hC (by rw [hz2]; exact b2) b3 (Nat.le_refl _) fun w' hown hgr => hK w' _ hown hgr

end Go.Proofs.Ytnigfddanoaonaa

set_option linter.unusedVariables false
namespace Go.Proofs.Ytnigfddanoaonaa
open Go.RowKit

def InF (P : Foot) (v : Value) : Foot := fun k => P k ∧ some k ≠ v.ownBlock
theorem ownsRow_keep {w w' : World} {base : Nat} {e : TypeId} {sz : Nat} {v : Value} {n : Nat} {zs : List Value} (h : w.ownsRow base e sz v n zs) (hk : ∀ g, v.ownBlock = some g → w'.heap[g]? = w.heap[g]?) : w'.ownsRow base e sz v n zs :=
  ⟨h.1, h.2.imp id fun ⟨g, cap, cur, hv, hb, hh, r⟩ => ⟨g, cap, cur, hv, hb, (hk g (by rw [hv]; rfl)).trans hh, r⟩⟩
section
variable {α : Type} {R : Rep α} {sz base : Nat} {e : TypeId} {P : Foot} {w w' : World} {v v' : Value} {xs : List α}
theorem own_snoc (ok : RepOk R sz) {y : α} {cells news : List Value} (hown0 : w.ownsRow base e sz v xs.length cells) (h1 : ∀ u ∈ cells, u.oneCell' = true) (hc : ∀ i x, xs[i]? = some x → R (InF P v) w (chunk sz i cells) x) (hR : R (InF P v) w news y)
    (h2 : w'.ownsRow base e sz v' (xs.length + 1) (cells ++ news)) (h3 : w.grownBy w' v.ownBlock) (h4 : ∀ k, v'.ownBlock = some k → v.ownBlock = some k ∨ k = w.heap.size) : OwnS R sz base e (InF P v') w' v' (xs ++ [y]) := by
  have key : ∀ {cs : List Value} {x : α}, R (InF P v) w cs x → R (InF P v') w' cs x := fun {cs x} hx => by
    have a1 : R (fun k => InF P v k ∧ k < w.heap.size) w cs x := ok.wide hx fun k hk hl => ⟨hk, hl⟩
    have a2 : R (fun k => InF P v k ∧ k < w.heap.size) w' cs x := ok.keep a1 fun k hk hl => h3.block k hl hk.1.2
    refine ok.wide a2 fun k hk _ => ⟨hk.1.1, fun he => ?_⟩
    rcases h4 k he.symm with h | h
    · exact hk.1.2 h.symm
    · have := hk.2; omega
  have hnl := ok.len hR
  have hl : (xs ++ [y]).length = xs.length + 1 := by simp
  refine ⟨cells ++ news, by rw [hl]; exact h2, fun u hu => ?_, fun i q hq => ?_⟩
  · rcases List.mem_append.1 hu with hu | hu
    · exact h1 u hu
    · exact ok.one hR u hu
  · have hcl : cells.length = xs.length * sz := hown0.1
    by_cases hlt : i < xs.length
    · rw [chunk_app_left hcl hlt]
      rw [List.getElem?_append_left hlt] at hq
      exact key (hc i q hq)
    · have hie : i = xs.length := by
        have := (List.getElem?_eq_some_iff.1 hq).1
        simp at this
        omega
      subst hie
      have hqy : q = y := by simpa using hq.symm
      subst hqy
      have : chunk sz xs.length (cells ++ news) = news := by
        unfold chunk
        rw [← hcl, List.drop_left, List.take_of_length_le (by omega)]
      rw [this]
      exact key hR
end

theorem wpList_append_in {α : Type} {R : Rep α} {P : Program} {w : World} {ops : Array Oper} {rest : List Oper} {o : Oper} {a : Act} {Q : Exit → Act → World → Prop} (hgd : o.guard = none) (s x : Operand) (t : TypeId)
    (ho : o.op = .call { callee := .builtin .append, args := #[s, x], argTypes := #[t, t] })
    (base : Nat) (e : TypeId) (z : Value) (size bytes : Nat) (ht : P.underlying t = some (.slice e)) (hinfo : (P.info? e).map (fun i => (i.zero, i.size, i.bytes)) = some (some z, size, bytes))
    (hzs : z.cells.size = size) (hsz : 0 < size) (ok : RepOk R size)
    (F : Foot) (v : Value) (xs : List α) (hs : a.eval s = v) (hown : OwnS R size base e (InF F v) w v xs)
    (ad : Addr) (c : Nat) (news : List Value) (y : α) (hx : a.eval x = .slice (some ad) 1 c) (hnews : ∀ j u, news[j]? = some u → w.cell? (ad.add j) = some u) (hR : R (InF F v) w news y)
    (hbytes : (xs.length + 1) * bytes ≤ 140737488355328) (hm : xs.length + 1 ≤ maxLen) (hbase : base ≤ w.heap.size)
    (hK : ∀ v' w', OwnS R size base e (InF F v') w' v' (xs ++ [y]) → Below base w w' → w.grownBy w' v.ownBlock → (∀ k, v'.ownBlock = some k → v.ownBlock = some k ∨ k = w.heap.size) → wpList P ops Q rest (a.put o.dst v') w') :
    wpList P ops Q (o :: rest) a w := by
  obtain ⟨i0, hi, hz0, hz1, hz2⟩ := info_parts hinfo
  obtain ⟨cells, hown0, h1, hc⟩ := hown
  have hnl := ok.len hR
  refine wpList_append_lies (w := w) hgd s x t ho base e i0 z size bytes ht hi hz0 hz1 hz2 hzs hsz v xs.length cells hs hown0 ad 1 c news hx (by rw [hnl, Nat.one_mul]) hnews (ok.one hR) (by omega) hm hbytes hbase w.heap.size rfl fun g cap w' h2 h3 h4 h5 => ?_
  have hb : Below base w w' := (Below.refl base w).grown h3 hbase fun k hk => (hown0.lt k hk).1
  have hat : ∀ k, (Value.slice (some ⟨g, 0, none⟩) (xs.length + 1) cap).ownBlock = some k → v.ownBlock = some k ∨ k = w.heap.size := fun k hk => by
    simp [Value.ownBlock] at hk
    subst hk
    exact h4
  exact hK _ w' (own_snoc ok hown0 h1 hc hR h2 h3 hat) hb h3 hat

end Go.Proofs.Ytnigfddanoaonaa

set_option linter.unusedVariables false
set_option linter.unusedSimpArgs false
namespace Go.Proofs.Ytnigfddanoaonaa
open Go.RowKit

structure RTab (B : Nat) (tw : Value) (rs : List Rw) (W : World) : Prop where
  tab : OwnS valR 1 B 23 Non W tw (rs.map Rw.val)
  row : ∀ r ∈ rs, Row1 (Value.int .i64) W r.g 3 r.l r.rest ∧ B ≤ r.g ∧ r.l.length ≤ r.c
  inj : ∀ (i j : Nat) (r r' : Rw), rs[i]? = some r → rs[j]? = some r' → r.g = r'.g → i = j
def tabL (rs : List Rw) : List (List Int) := rs.map (·.l)
/-- The row with number i holds l instead. -/
def rwSet (rs : List Rw) (i : Nat) (l : List Int) : List Rw := rs.modify i fun r => { r with l := l }

section
variable {B : Nat} {tw : Value} {rs : List Rw} {W W' : World}
theorem RTab.nil (B : Nat) (W : World) : RTab B (.slice none 0 0) [] W := ⟨OwnS.nil _ _ _ _ _ _, (fun r hr => by simp at hr), (fun i j r r' h => by simp at h)⟩
theorem RTab.keep (h : RTab B tw rs W) (h1 : ∀ g, tw.ownBlock = some g → W'.heap[g]? = W.heap[g]?) (h2 : ∀ r ∈ rs, W'.heap[r.g]? = W.heap[r.g]?) : RTab B tw rs W' :=
  ⟨OwnS.ext valR_ok h.tab h1, fun r hr => ⟨(h.row r hr).1.keep (h2 r hr), (h.row r hr).2⟩, h.inj⟩
theorem RTab.above (h : RTab B tw rs W) (hk : ∀ k, k < W.heap.size → B ≤ k → W'.heap[k]? = W.heap[k]?) : RTab B tw rs W' :=
  h.keep (fun g hg => hk g (h.tab.block g hg).2 (h.tab.block g hg).1) fun r hr => hk r.g (h.row r hr).1.lt (h.row r hr).2.1
theorem RTab.below (h : RTab B tw rs W) (hb : Below W.heap.size W W') : RTab B tw rs W' := h.above fun k hk _ => hb.block k hk
theorem RTab.draw (h : RTab B tw rs W) : RTab B tw rs W.drew := h.above fun _ _ _ => rfl
theorem RTab.push (h : RTab B tw rs W) {tw' : Value} {r : Rw} (hown : OwnS valR 1 B 23 Non W' tw' (rs.map Rw.val ++ [r.val])) (hk : ∀ k, k < W.heap.size → some k ≠ tw.ownBlock → W'.heap[k]? = W.heap[k]?)
    (hrow : Row1 (Value.int .i64) W' r.g 3 r.l r.rest) (hrg : W.heap.size ≤ r.g) (hB : B ≤ W.heap.size) (hlen : r.l.length ≤ r.c) : RTab B tw' (rs ++ [r]) W' where
  tab := by rw [List.map_append]; exact hown
  row := fun r' hr' => by
    rcases List.mem_append.1 hr' with hr' | hr'
    · have h1 := (h.row r' hr').1
      refine ⟨h1.keep (hk _ h1.lt fun e => ?_), (h.row r' hr').2⟩
      obtain ⟨cur, hcur⟩ := own_heap h.tab e.symm
      exact ne_type h1 hcur (by decide) rfl
    · rw [List.mem_singleton] at hr'
      subst hr'
      exact ⟨hrow, by omega, hlen⟩
  inj := fun i j a b ha hb e => by
    rcases snoc_get ha with ⟨ha1, ha2⟩ | ha <;> rcases snoc_get hb with ⟨hb1, hb2⟩ | hb
    · omega
    · have := (h.row b (List.mem_of_getElem? hb)).1.lt; subst ha2; omega
    · have := (h.row a (List.mem_of_getElem? ha)).1.lt; subst hb2; omega
    · exact h.inj i j a b ha hb e
/-- The row with number i, in memory. -/
theorem RTab.get (h : RTab B tw rs W) {i : Nat} {r : Rw} (hr : rs[i]? = some r) :
    ∃ g cap, tw = .slice (some ⟨g, 0, none⟩) rs.length cap ∧ rs.length ≤ cap ∧ B ≤ g ∧ W.cell? ⟨g, i, none⟩ = some (slV r.g r.l.length r.c) ∧ Row1 (Value.int .i64) W r.g 3 r.l r.rest ∧ B ≤ r.g ∧ r.l.length ≤ r.c ∧ r.g ≠ g := by
  have hne : rs.map Rw.val ≠ [] := fun e => by
    have := (List.getElem?_eq_some_iff.1 hr).1
    have h2 := congrArg List.length e
    simp at h2
    rw [h2] at this
    simp at this
  obtain ⟨g, cap, rest, ht, hg, hc, hrow⟩ := h.tab.vrow hne
  obtain ⟨h1, h2, h3⟩ := h.row r (List.mem_of_getElem? hr)
  rw [List.length_map] at ht hc
  have hcell := hrow.cell (i := i) (x := r.val) (by simp [hr])
  exact ⟨g, cap, ht, hc, hg, hcell, h1, h2, h3, ne_type h1 hrow (by decide)⟩
theorem RTab.len (h : RTab B tw rs W) : ∃ oa cap, tw = .slice oa rs.length cap ∧ rs.length ≤ cap := by
  obtain ⟨oa, c, ht, hc, _⟩ := h.tab.slice valR_ok
  rw [List.length_map] at ht hc
  exact ⟨oa, c, ht, hc⟩
theorem rwSet_at (rs : List Rw) (i j : Nat) (l : List Int) : (rwSet rs i l)[j]? = if i = j then rs[j]?.map (fun r => { r with l := l }) else rs[j]? := by
  unfold rwSet
  rw [List.getElem?_modify]
  by_cases h : i = j
  · subst h
    simp
  · rw [if_neg h]
    simp [h]
theorem rwSet_get {rs : List Rw} {i j : Nat} {l : List Int} {r : Rw} (h : (rwSet rs i l)[j]? = some r) : (j = i ∧ ∃ r0, rs[i]? = some r0 ∧ r = { r0 with l := l }) ∨ (j ≠ i ∧ rs[j]? = some r) := by
  rw [rwSet_at] at h
  split at h
  · rename_i e
    subst e
    left
    rw [Option.map_eq_some_iff] at h
    obtain ⟨r0, h1, h2⟩ := h
    exact ⟨rfl, r0, h1, h2.symm⟩
  · right
    rename_i e
    exact ⟨fun e2 => e e2.symm, h⟩
theorem tabL_set (rs : List Rw) (i : Nat) (l : List Int) : tabL (rwSet rs i l) = (tabL rs).set i l := by
  unfold tabL
  apply List.ext_getElem?
  intro j
  rw [List.getElem?_set, List.getElem?_map, rwSet_at]
  by_cases hij : i = j
  · subst hij
    rw [if_pos rfl, if_pos rfl, List.length_map]
    by_cases hi : i < rs.length
    · rw [if_pos hi, List.getElem?_eq_getElem hi]; rfl
    · rw [if_neg hi, List.getElem?_eq_none (by omega)]; rfl
  · rw [if_neg hij, if_neg hij, List.getElem?_map]
/-- A number changes. -/
theorem RTab.put (h : RTab B tw rs W) {i k : Nat} {r : Rw} (hr : rs[i]? = some r) (hk : k < r.l.length) (x : Int) : RTab B tw (rwSet rs i (r.l.set k x)) (W.setCell ⟨r.g, k, none⟩ (.int .i64 x)) := by
  have hrow := (h.row r (List.mem_of_getElem? hr)).1
  have hval : (rwSet rs i (r.l.set k x)).map Rw.val = rs.map Rw.val := by
    apply List.ext_getElem?
    intro j
    rw [List.getElem?_map, List.getElem?_map, rwSet_at]
    by_cases hij : i = j
    · subst hij
      rw [if_pos rfl, hr]
      simp [Rw.val]
    · rw [if_neg hij]
  refine ⟨?_, fun r' hr' => ?_, fun a b ra rb ha hb e => ?_⟩
  · rw [hval]
    refine OwnS.ext valR_ok h.tab fun g hg => Below.heap_setCell _ _ _ g ?_
    obtain ⟨cur, hcur⟩ := own_heap h.tab hg
    exact fun e => ne_type hrow hcur (by decide) e.symm
  · obtain ⟨j, hj⟩ := List.mem_iff_getElem?.1 hr'
    rcases rwSet_get hj with ⟨_, r0, h0, rfl⟩ | ⟨hji, hj⟩
    · rw [hr] at h0
      injection h0 with h0
      subst h0
      refine ⟨hrow.put hk x, (h.row r (List.mem_of_getElem? hr)).2.1, ?_⟩
      simp only [List.length_set]
      exact (h.row r (List.mem_of_getElem? hr)).2.2
    · have h1 := h.row r' (List.mem_of_getElem? hj)
      exact ⟨h1.1.other (fun e => hji (h.inj j i r' r hj hr e)) _, h1.2⟩
  · have key : ∀ {a : Nat} {ra : Rw}, (rwSet rs i (r.l.set k x))[a]? = some ra → ∃ r0, rs[a]? = some r0 ∧ r0.g = ra.g := fun {a ra} ha => by
      rcases rwSet_get ha with ⟨rfl, r0, h0, rfl⟩ | ⟨_, ha⟩
      · exact ⟨r0, h0, rfl⟩
      · exact ⟨ra, ha, rfl⟩
    obtain ⟨r1, h1, e1⟩ := key ha
    obtain ⟨r2, h2, e2⟩ := key hb
    exact h.inj a b r1 r2 h1 h2 (by rw [e1, e2, e])
theorem RTab.slices (h : RTab B tw rs W) (hb : ∀ r ∈ rs, r.l.length ≤ 9223372036854775807 ∧ ∀ k ∈ r.l, I64 k) : ∃ oa cap, tw = .slice oa (tabL rs).length cap ∧ (tabL rs).length ≤ cap ∧ SliceR (slcR intR 1) 1 (fun k => B ≤ k) W oa (tabL rs) := by
  obtain ⟨oa, cap, ht, hc⟩ := h.len
  have hl : (tabL rs).length = rs.length := by unfold tabL; rw [List.length_map]
  refine ⟨oa, cap, by rw [hl]; exact ht, by rw [hl]; exact hc, fun i l hi => ?_⟩
  unfold tabL at hi
  rw [List.getElem?_map, Option.map_eq_some_iff] at hi
  obtain ⟨r, hr, rfl⟩ := hi
  obtain ⟨g, cap', ht', hc', hg, hcell, hrow, hBr, hrc, _⟩ := h.get hr
  rw [ht] at ht'
  injection ht' with e1
  subst e1
  obtain ⟨b1, b2⟩ := hb r (List.mem_of_getElem? hr)
  refine ⟨g, 0, [slV r.g r.l.length r.c], rfl, hg, ⟨some ⟨r.g, 0, none⟩, r.c, rfl, hrc, b1, hrow.ints b2 hBr⟩, fun j u hu => ?_⟩
  have hj : j = 0 := by
    have := (List.getElem?_eq_some_iff.1 hu).1
    simp at this
    exact this
  subst hj
  simp at hu
  subst hu
  simpa using hcell
end

end Go.Proofs.Ytnigfddanoaonaa

set_option linter.unusedVariables false
set_option linter.unusedSimpArgs false
namespace Go.Proofs.Ytnigfddanoaonaa
open Go.RowKit

theorem ruleInfoN : (Try.prog.info? 78).map (fun i => (i.zero, i.size, i.bytes)) = some (some (.agg #[.int .i64 0, .slice none 0 0]), 2, 32) := by kernel_rfl
theorem rowInfoN : (Try.prog.info? 79).map (fun i => (i.zero, i.size, i.bytes)) = some (some (.slice none 0 0), 1, 24) := by kernel_rfl
theorem prcInfoN : (Try.prog.info? 53).map (fun i => (i.zero, i.size, i.bytes)) = some (some (.agg #[.int .i64 0, .int .i64 0, .slice none 0 0]), 3, 40) := by kernel_rfl
theorem tabInfoN : (Try.prog.info? 23).map (fun i => (i.zero, i.size, i.bytes)) = some (some (.slice none 0 0), 1, 24) := by kernel_rfl
theorem intInfoN : (Try.prog.info? 3).map (fun i => (i.zero, i.size, i.bytes)) = some (some (.int .i64 0), 1, 8) := by kernel_rfl
theorem intSizeN : (Try.prog.info? 3).map (·.size) = some 1 := by kernel_rfl
theorem ruleSizeN : (Try.prog.info? 78).map (·.size) = some 2 := by kernel_rfl
theorem alloc_size' (w : World) (o : Obj) : (w.alloc o).heap.size = w.heap.size + 1 := by simp
theorem results_cell_row {P : Program} {fn : Func} {p : Tmp} {ty : TypeId} (h : fn.results = #[.cell p ty]) (tmps : Array Value) (w : World) (g : Nat) (t : TypeId) (cs : Array Value) (fr : Nat × Nat) (d : TypeDesc)
    (hp : tmps.getD p undef = .pointer (some ⟨g, 0, none⟩)) (hg : w.heap[g]? = some (.cells cs t fr))
    (hu : P.underlying ty = some d) (hd : (match d with | .struct _ | .array _ _ => true | _ => false) = true) (hi : (P.info? ty).map (·.size) = some cs.size) :
    (results fn tmps).run P w = .ok (.agg cs) w := by
  have hp' : tmps[p]?.getD undef = .pointer (some ⟨g, 0, none⟩) := by simpa using hp
  simp only [results, h]
  simp [hp', asAddr, Result.andThen, Sem.run_bind, run_loadVar_row w g t ty cs fr d hg hu hd hi]
theorem ownsRow_lt {w : World} {base : Nat} {e : TypeId} {sz g n m c : Nat} {zs : List Value} (h : w.ownsRow base e sz (.slice (some ⟨g, 0, none⟩) n c) m zs) : g < w.heap.size := by
  rcases h.2 with ⟨hh, _⟩ | ⟨g', cap, cur, hh, _, hg, _⟩
  · cases hh
  · injection hh with hh; injection hh with hh; injection hh with hh; subst hh
    exact (Array.getElem?_eq_some_iff.1 hg).1
/-- In the memory that was there, or in blocks from K on. -/
def OldNew (F : Foot) (B K : Nat) : Foot := fun k => (F k ∧ k < B) ∨ K ≤ k

set_option maxRecDepth 100000 in
set_option maxHeartbeats 4000000 in
theorem ncopied_any (x : Nwk) (op : Option Addr) (cp : Nat) (os : Option Addr) (cs : Nat) (ow : Option Addr) (cw : Nat) (F : Foot) (w : World)
    (hp : SliceR prcR 3 F w op x.procs) (hs : SliceR intR 1 F w os x.state) (ht : SliceR (slcR intR 1) 1 F w ow x.waiting) (hr : Right x) :
    Calls Try.prog 39 #[.agg #[.slice op x.procs.length cp, .slice os x.procs.length cs, .slice ow x.procs.length cw]] w fun e w' =>
      ∃ (vp tw : Value) (rs : List Rw) (K H gs : Nat), e = .returned (.agg #[vp, .slice (some ⟨gs, 0, none⟩) x.procs.length x.procs.length, tw]) ∧ w.heap.size ≤ gs ∧ gs < K ∧ K ≤ H ∧ H ≤ w'.heap.size ∧ (∀ g, vp.ownBlock = some g → g < H) ∧
        OwnS prcR 3 K 53 (fun k => InF (OldNew F w.heap.size K) vp k ∧ k < H) w' vp x.procs ∧ Row1 (Value.int .i64) w' gs 3 x.state [] ∧ RTab H tw rs w' ∧ tabL rs = x.waiting ∧ Below w.heap.size w w' := by
  obtain ⟨n, hn⟩ : ∃ n, n = x.procs.length := ⟨_, rfl⟩
  have h1n : 1 ≤ n := by rw [hn]; exact hr.n.1
  have hn12 : n ≤ 12 := by rw [hn]; exact hr.n.2
  have hst : x.state.length = n := by rw [hn]; exact hr.nst
  have hwt : x.waiting.length = n := by rw [hn]; exact hr.nwt
  rw [← hn]
  obtain ⟨W1, e1⟩ : ∃ W1, w.alloc (.cells #[.slice op n cp, .slice os n cs, .slice ow n cw] 26) = W1 := ⟨_, rfl⟩
  have bx1 : Box W1 w.heap.size [.slice op n cp, .slice os n cs, .slice ow n cw] 26 := by rw [← e1]; exact Box.new w [.slice op n cp, .slice os n cs, .slice ow n cw] 26
  have bb1 := bnew (Below.refl w.heap.size w) (.cells #[.slice op n cp, .slice os n cs, .slice ow n cw] 26)
  rw [e1] at bb1
  have z1 : W1.heap.size = w.heap.size + 1 := by rw [← e1]; simp
  obtain ⟨W2, e2⟩ : ∃ W2, W1.alloc (.cells #[.slice none 0 0, .slice none 0 0, .slice none 0 0] 26) = W2 := ⟨_, rfl⟩
  have bx2 : Box W2 W1.heap.size [.slice none 0 0, .slice none 0 0, .slice none 0 0] 26 := by rw [← e2]; exact Box.new W1 [.slice none 0 0, .slice none 0 0, .slice none 0 0] 26
  have bb2 := bnew (Below.refl W1.heap.size W1) (.cells #[.slice none 0 0, .slice none 0 0, .slice none 0 0] 26)
  rw [e2] at bb2
  have z2 : W2.heap.size = W1.heap.size + 1 := by rw [← e2]; simp
  have hb2 := bb1.trans (bb2.mono bb1.size)
  have bx1 := bx1.below bb2
  have hP := hide (hp.wide prcR_ok (by omega) (F' := fun k => F k ∧ k < w.heap.size) (fun k h hl => ⟨h, hl⟩))
  have hS := hide (hs.loc intR_ok (by omega))
  have hT := hide (ht.loc tabR' (by omega))
  have d0 := bx1.cell 0
  have d1 := bx1.cell 1
  have d2 := bx1.cell 2
  simp only [List.getElem?_cons_zero, List.getElem?_cons_succ] at d0 d1 d2
  have HB2 := hide hb2
  have HX1 := hide bx1
  have HX2 := hide bx2
  have HR := hide hr
  have HN := hide hn
  have HST := hide hst
  have HWT := hide hwt
  have Z1 := hide z1
  have Z2 := hide z2
  clear hp hs ht hr hn hst hwt bx1 bx2 bb1 bb2 hb2 z1 z2
  go_enter Try.func39, Try.ntmps39
  go_wp2_with (first
    | (at_make
       refine wpList_make_cells _ rfl _ _ 23 rfl 3 (.int .i64 0) 1 8 Try.underlying23 intInfoN .i64 .i64 _ _ n rfl rfl rfl rfl (by omega) (by unfold maxLen; omega) (fun w3 zs h3 g3 => ?_)
       have hb3 : Below W2.heap.size W2 w3 := (Below.refl _ _).grown g3 (Nat.le_refl _) fun k hk => by cases hk
       have m2 := (HX1.out.below hb3).cell 1
       have lw3 := (HX1.out.below hb3).lt
       simp only [List.getElem?_cons_zero, List.getElem?_cons_succ] at m2
       have HO3 := hide h3
       have HB3 := hide hb3
       clear h3 g3 hb3)
    | (refine wpList_copy_fresh intR_ok rfl _ _ 23 23 rfl 3 Try.underlying23 intSizeN W2.heap.size n os cs rfl rfl x.state zs (ownsRow_keep HO3.out (fun g hg => (bnew (Below.refl w3.heap.size w3) _).block g (by simp [Value.ownBlock] at hg; have := ownsRow_lt HO3.out; omega))) HST.out (by omega) (by omega) ((hS.out.below intR_ok HB2.out).below intR_ok (HB3.out.alloc HB3.out.size _)) (fun h => by have h9 : W2.heap.size < w.heap.size := h; have := Z1.out; have := Z2.out; omega) (fun w5 h5 g5 => ?_)
       have hs3 := ownsRow_lt HO3.out
       have bx4 := Box.new w3 [.slice none 0 0, .slice (some ⟨W2.heap.size, 0, none⟩) n n, .slice none 0 0] 26
       have hb4 : Below W2.heap.size W2 (w3.alloc (.cells #[.slice none 0 0, .slice (some ⟨W2.heap.size, 0, none⟩) n n, .slice none 0 0] 26)) := HB3.out.alloc HB3.out.size _
       have hb5 : Below W2.heap.size W2 w5 := hb4.trans ((Below.refl _ _).grown g5 (by rw [alloc_size']; omega) fun k hk => by injection hk with hk; omega)
       have HX5 := hide (bx4.grown g5 (fun e => by injection e with e; omega))
       have HW5 := hide hb5
       have HS5 := hide h5
       have c0 := (HX1.out.below hb5).cell 0
       simp only [List.getElem?_cons_zero] at c0
       clear bx4 hb4 g5 h5 hb5 m2 lw3))
  obtain ⟨po, hpo⟩ : ∃ po, po = w3.heap.size := ⟨_, rfl⟩
  obtain ⟨gs, hgs⟩ : ∃ gs, gs = W2.heap.size := ⟨_, rfl⟩
  rw [← hpo] at HX5 hs3 ⊢
  rw [← hgs] at HX5 HS5 HW5 hs3 ⊢
  have HPO := hide hpo
  have HGS := hide hgs
  have HRS : Hid (Row1 (Value.int .i64) w5 gs 3 x.state []) := by
    obtain ⟨g, cap, rest, he, _, hc, _, hrow, _⟩ := HS5.out.row (by intro e; have := HST.out; rw [e] at this; simp at this; omega)
    injection he with e1 e2 e3
    injection e1 with e1
    injection e1 with e1
    have := HST.out
    have hr0 : rest = [] := List.eq_nil_of_length_eq_zero (by omega)
    rw [hr0, ← e1] at hrow
    exact hrow
  have hB0 : w.heap.size + 2 ≤ gs := by have := Z1.out; have := Z2.out; omega
  clear hpo hgs HO3 HB3 HS5 d0 d1 d2
  go_loopg [26] n (fun gm iv wr => ∃ (i : Nat) (vp : Value), i ≤ n ∧ gm = n - i ∧ iv = .int .i64 i ∧ Hid (OwnS prcR 3 (po + 1) 53 (InF (OldNew F w.heap.size (po + 1)) vp) wr vp (x.procs.take i)) ∧ Hid (Box wr po [vp, .slice (some ⟨gs, 0, none⟩) n n, .slice none 0 0] 26) ∧ Hid (Below po w5 wr))
  case atStart => exact ⟨0, _, by omega, by omega, rfl, OwnS.nil _ _ _ _ _ _, HX5, Below.refl _ _⟩
  case round =>
    obtain ⟨i, vp, hi, hgm, rfl, HO, HX, HB⟩ := hrel
    have HGM := hide hgm
    clear hgm
    have hbw : Below w.heap.size w wr := HB2.out.trans ((HW5.out.mono (by omega)).trans (HB.out.mono (by omega)))
    have hpl := HX.out.lt
    by_cases hlt : i < n
    · have hip : i < x.procs.length := by have := HN.out; omega
      obtain ⟨S, Le, rs, b7, off7, oR, cR, hd7, hpr, hoP, _, y0, y1, y2, iS, iL, hrc, _, hrs⟩ := (hP.out.keep (w' := wr) prcR_ok (fun k hk _ => hbw.block k hk.2)).prc_at hip
      subst hoP
      obtain ⟨hsm1, hsm2⟩ := copy_small (HR.out.proc i _ hpr)
      simp only at hsm1 hsm2
      have hrl := fun (j : Nat) (row : List Rul) (hj : rs[j]? = some row) => valid_row (HR.out.proc i _ hpr) hj
      simp only at hrl
      have hle := (check_zero (HR.out.proc i _ hpr)).2.2.1.1
      simp only at hle
      obtain ⟨oV, cV, hvp, _, _⟩ := HO.out.slice prcR_ok
      rw [List.length_take, Nat.min_eq_left (by omega)] at hvp
      have o0 := HX.out.cell 0
      simp only [List.getElem?_cons_zero] at o0
      have HPR := hide hpr
      have HSM := hide hsm2
      have HRL := hide hrl
      have HRS2 := hide hrs
      have HRC := hide hrc
      obtain ⟨rn, hrn⟩ : ∃ rn, rn = rs.length := ⟨_, rfl⟩
      have HRN := hide hrn
      rw [← hrn] at y2 hsm1
      have HBW := hide hbw
      have HLE := hide hle
      have HVP := hide hvp
      clear hd7 hpr hsm2 hrl hrs hrc hrn hbw hle hvp o0
      go_wp2_with fail
      obtain ⟨H, hH⟩ : ∃ H, H = wr.heap.size := ⟨_, rfl⟩
      obtain ⟨W7, e7⟩ : ∃ W7, (wr.alloc (.cells #[.int .i64 S, .int .i64 Le, .slice oR rn cR] 53)).alloc (.cells #[.int .i64 S, .int .i64 Le, .slice none 0 0] 53) = W7 := ⟨_, rfl⟩
      have bxp : Box W7 wr.heap.size [.int .i64 S, .int .i64 Le, .slice oR rn cR] 53 := by rw [← e7]; exact (Box.new wr [.int .i64 S, .int .i64 Le, .slice oR rn cR] 53).next _
      have bxq : Box W7 (wr.heap.size + 1) [.int .i64 S, .int .i64 Le, .slice none 0 0] 53 := by
        rw [← e7]
        have := Box.new (wr.alloc (.cells #[.int .i64 S, .int .i64 Le, .slice oR rn cR] 53)) [.int .i64 S, .int .i64 Le, .slice none 0 0] 53
        rw [alloc_size'] at this
        exact this
      have hb7 : Below wr.heap.size wr W7 := by rw [← e7]; exact bnew (bnew (Below.refl _ _) _) _
      have hz7 : W7.heap.size = wr.heap.size + 2 := by rw [← e7, alloc_size', alloc_size']
      rw [e7]
      rw [← hH] at bxp bxq hb7 hz7
      rw [← hH]
      have HXP := hide bxp
      have HXQ := hide bxq
      have HB7 := hide hb7
      have HH := hide hH
      have HOV := hide (HO.out.block)
      have HOH : Hid (OwnS prcR 3 (po + 1) 53 (fun k => InF (OldNew F w.heap.size (po + 1)) vp k ∧ k < H) wr vp (x.procs.take i)) := HO.out.wide prcR_ok fun k hk hkl => ⟨hk, by have := HH.out; omega⟩
      have HXO : Hid (Box wr po [vp, .slice (some ⟨gs, 0, none⟩) n n, .slice none 0 0] 26) := HX.out
      rw [← hH] at HOV hpl
      clear e7 bxp bxq hb7 hH y0 y1 y2 c0
      go_loopg [38] rn (fun gm2 sv wx => ∃ (s : Nat) (vq : Value), s ≤ rn ∧ gm2 = rn - s ∧ sv = .int .i64 s ∧ Hid (OwnS (slcR ruleR 2) 1 (H + 2) 79 (InF (OldNew F w.heap.size (H + 2)) vq) wx vq (rs.take s)) ∧ Hid (Box wx (H + 1) [.int .i64 S, .int .i64 Le, vq] 53) ∧ Hid (Below (H + 1) W7 wx))
      case atStart => exact ⟨0, _, by omega, by omega, rfl, OwnS.nil _ _ _ _ _ _, HXQ, Below.refl _ _⟩
      case round =>
        obtain ⟨s, vq, hs, hgm2, rfl, HOq, HXq, HBq⟩ := hrel
        have HGM2 := hide hgm2
        clear hgm2
        have hql := HXq.out.lt
        have hkeep : ∀ k, k < H → wr.heap[k]? = W7.heap[k]? := fun k hk => HBq.out.block k (by omega)
        by_cases hls : s < rn
        · have hbw2 : ∀ k, k < w.heap.size → wr.heap[k]? = w.heap[k]? := fun k hk => by
            rw [hkeep k (by omega), HB7.out.block k (by omega)]
            exact HBW.out.block k hk
          obtain ⟨row, hd, hrow, b9, off9, oW, cW, hoR, _, y9, hcw, _, hsw⟩ := (HRS2.out.keep (w' := wr) rowR_ok (fun k hk _ => by have hk' : k < w.heap.size := hk.2; rw [hkeep k (by omega), HB7.out.block k (by omega)])).slc_at (i := s) (by have := HRN.out; omega)
          subst hoR
          have hln := HRL.out s row hrow
          have hm := HSM.out row (List.mem_of_getElem? hrow)
          obtain ⟨hm1, hm2⟩ := hm
          have HM2 := hide hm2
          have HRW := hide hrow
          have HSW := hide hsw
          obtain ⟨oQq, cQq, hvq, _, _⟩ := HOq.out.slice rowR_ok
          rw [List.length_take, Nat.min_eq_left (by have := HRN.out; omega)] at hvq
          have HVQ := hide hvq
          obtain ⟨ln, hll⟩ : ∃ ln, ln = row.length := ⟨_, rfl⟩
          have HLL := hide hll
          rw [← hll] at y9 hm1
          have hl1 : 1 ≤ ln := by have := HLE.out; omega
          obtain ⟨G, hG⟩ : ∃ G, G = wr.heap.size := ⟨_, rfl⟩
          have HG := hide hG
          have hGH : H + 2 ≤ G := by have := HBq.out.size; omega
          have HOqG : Hid (OwnS (slcR ruleR 2) 1 (H + 2) 79 (fun k => InF (OldNew F w.heap.size (H + 2)) vq k ∧ k < G) wr vq (rs.take s)) := HOq.out.wide rowR_ok fun k hk hkl => ⟨hk, by omega⟩
          have OVq : Hid (∀ g, vq.ownBlock = some g → H + 2 ≤ g ∧ g < G) := fun g hg => by have := HOq.out.block g hg; omega
          clear hd hrow hsw hln hm2 hll hvq hG hcw
          go_wp2_with (first
            | (at_make
               refine wpList_make_cells _ rfl _ _ 79 rfl 78 (.agg #[.int .i64 0, .slice none 0 0]) 2 32 Try.underlying79 ruleInfoN .i64 .i64 _ _ ln rfl rfl rfl rfl (by omega) (by unfold maxLen; omega) (fun y3 zs h3 g3 => ?_)
               have HO3 := hide h3
               have HG3 := hide g3
               clear h3 g3)
            | (refine wpList_copy_fresh ruleR_ok rfl _ _ 79 79 rfl 78 Try.underlying79 ruleSizeN wr.heap.size ln oW cW rfl rfl row zs HO3.out HLL.out.symm (by omega) (by omega) (HSW.out.keep (w' := y3) ruleR_ok (fun k hk hkl => HG3.out.block k hkl (fun e => by cases e))) (fun h => by have h9 : wr.heap.size < w.heap.size := h.2; omega) (fun y5 h5 g5 => ?_)
               have hy3 := ownsRow_lt HO3.out
               have HG5 := hide g5
               have HS5 := hide (h5.wide ruleR_ok (F' := fun k => OldNew F w.heap.size wr.heap.size k ∧ k ≠ wr.heap.size) (fun k hk _ => ⟨.inl hk, fun e => by have hk' : k < w.heap.size := hk.2; omega⟩))
               have hb35 : Below wr.heap.size wr y5 := ((Below.refl _ _).grown HG3.out (Nat.le_refl _) fun k hk => by cases hk).trans ((Below.refl _ _).grown g5 (by omega) fun k hk => by injection hk with hk; omega)
               have HB35 := hide hb35
               clear g5 h5 hb35))
          rw [← HG.out] at HS5 HB35
          rw [← HG.out]
          have hy5 : G + 1 ≤ y5.heap.size := by
            have h1 := HG5.out.size
            rw [HG.out]
            omega
          clear HO3 HG3 HG5 hy3
          go_loopg [50] ln (fun gm3 av wy => ∃ (a : Nat), a ≤ ln ∧ gm3 = ln - a ∧ av = .int .i64 a ∧ Hid (OwnS ruleR 2 G 78 (fun k => OldNew F w.heap.size G k ∧ k ≠ G) wy (.slice (some ⟨G, 0, none⟩) ln ln) row) ∧ Hid (Below G y5 wy))
          case atStart => exact ⟨0, by omega, by omega, rfl, HS5, Below.refl _ _⟩
          case round =>
            obtain ⟨a, ha, hgm3, rfl, HOa, HBa⟩ := hrel
            have HGM3 := hide hgm3
            clear hgm3
            by_cases hla : a < ln
            · obtain ⟨⟨nx, st⟩, hru⟩ : ∃ r, row[a]? = some r := ⟨_, List.getElem?_eq_getElem (by have := HLL.out; omega)⟩
              have hm3 := HM2.out _ (List.mem_of_getElem? hru)
              simp only at hm3
              obtain ⟨g33, hc33, hog, hg331, hg332, hrow33, ⟨oQ, cQ, rfl, iN, hcq, _, hsq⟩⟩ := HOa.out.hole hru
              injection hog with hog
              injection hog with hog
              subst hog
              simp only at hrow33 iN hcq hsq
              have zz := hrow33.cell (j := 1) (by omega)
              have zf := hrow33.free (a * 2 + 1)
              simp only [List.getElem?_cons_zero, List.getElem?_cons_succ] at zz
              have HCO := hide (cloneO_any st oQ cQ _ wr hsq hcq (by omega))
              have HRU := hide hru
              have HR33 := hide hrow33
              obtain ⟨sn, hsn⟩ : ∃ sn, sn = st.length := ⟨_, rfl⟩
              have HSN := hide hsn
              rw [← hsn] at HCO zz hm3
              clear hru hrow33 hsq hsn hcq
              go_wp2_with (go_at_call 57; refine HCO.out.mono ?_
                           rintro e w6 ⟨v49, rfl, h49, hb49⟩
                           obtain ⟨o49, c49, hv49, hc49, hs49⟩ := h49.slice outR_ok
                           rw [← HSN.out] at hv49 hc49
                           subst hv49
                           have hr33 := HR33.out.keep ruleR_ok (hb49.block _ hg332) (SameOn.of_below hb49)
                           have zz := hr33.cell (j := 1) (by omega)
                           have zf := hr33.free (a * 2 + 1)
                           simp only [List.getElem?_cons_zero, List.getElem?_cons_succ] at zz
                           have HR34 := hide hr33
                           have HS49 := hide hs49
                           have HB49 := hide hb49
                           clear h49 hb49 hs49 hr33)
              go_roundg (ln - (a + 1))
              case measure => have := HGM3.out; omega
              case rel =>
                have hput := HR34.out.put ruleR_ok (fun h => h.2 rfl) (j := 1) (by omega) (u := .slice o49 sn c49) rfl
                simp only [List.set_cons_succ, List.set_cons_zero] at hput
                have hs50 : SliceR outR 2 (fun k => OldNew F w.heap.size G k ∧ k ≠ G) (w6.setCell ⟨G, a * 2 + 1, none⟩ (.slice o49 sn c49)) o49 st := by
                  refine (HS49.out.wide outR_ok (by decide) (F' := fun k => OldNew F w.heap.size G k ∧ k ≠ G) fun k hk _ => ?_).keep outR_ok fun k hk _ => Below.heap_setCell _ _ _ k hk.2
                  rcases hk with hk | hk
                  · exact hk.1
                  · exact ⟨.inr (by omega), by omega⟩
                have hfill := hput.fill HRU.out ⟨o49, c49, by simp [HSN.out], iN, by simp only; have := HSN.out; omega, by simp only; have := HSN.out; omega, hs50⟩
                exact ⟨a + 1, by omega, rfl, by go_num, hfill, (HBa.out.trans (HB49.out.mono (by omega))).setCell (Nat.le_refl _) _⟩
            · have hla2 := hla
              have hvq := HVQ.out
              subst hvq
              have hbG := HB35.out.trans HBa.out
              have howq := (HOqG.out.keep (w' := wr) rowR_ok (fun g hg => hbG.block g (OVq.out g hg).2) (fun k hk _ => hbG.block k hk.2)).wide rowR_ok (F' := InF (OldNew F w.heap.size (H + 2)) (.slice oQq s cQq)) (fun k hk _ => hk.1)
              have hxq := HXq.out.keep (w' := wr) (hbG.block (H + 1) (by omega))
              have hrep : slcR ruleR 2 (InF (OldNew F w.heap.size (H + 2)) (.slice oQq s cQq)) wr [.slice (some ⟨G, 0, none⟩) ln ln] row := by
                obtain ⟨o9, c9, e9, hc9, hs9⟩ := HOa.out.slice ruleR_ok
                injection e9 with q1 q2 q3
                refine ⟨o9, c9, by rw [q1, ← q2, q3], hc9, by omega, hs9.wide ruleR_ok (by decide) fun k hk _ => ?_⟩
                have hk2 : (F k ∧ k < w.heap.size) ∨ G ≤ k := by
                  rcases hk with hk | hk
                  · exact hk.1
                  · exact .inr hk
                refine ⟨?_, fun he => ?_⟩
                · rcases hk2 with h | h
                  · exact .inl h
                  · exact .inr (by omega)
                · have := OVq.out k he.symm
                  omega
              have k2 := hxq.cell 2
              have k2n := (hxq.next (.cells #[.slice (some ⟨G, 0, none⟩) ln ln] 79)).cell 2
              have lq := hxq.lt
              simp only [List.getElem?_cons_zero, List.getElem?_cons_succ] at k2 k2n
              have HOWQ := hide howq
              have HXQ2 := hide hxq
              have HREP := hide hrep
              have HBG := hide hbG
              have HTL : Hid ((rs.take s).length = s) := by show _ = _; rw [List.length_take, Nat.min_eq_left (by have := HRN.out; omega)]
              clear howq hxq hrep hbG
              go_wp2_with (at_builtin
                           refine wpList_append_in rfl (.tmp 65) (.tmp 67) 51 rfl (H + 2) 79 _ 1 24 Try.underlying51 rowInfoN rfl (by decide) rowR_ok (OldNew F w.heap.size (H + 2)) (.slice oQq s cQq) (rs.take s) (by simp [Act.eval, Act.put]) (HOWQ.out.new rowR_ok _) ⟨_, 0, none⟩ 1 [.slice (some ⟨G, 0, none⟩) ln ln] row (by simp [Act.eval, Act.put]) (World.news_of_block (heap_alloc_new _ _)) (rowR_ok.keep HREP.out (SameOn.of_below (bnew (Below.refl _ _) _))) (by rw [HTL.out]; omega) (by rw [HTL.out]; unfold maxLen; omega) (by rw [alloc_size']; omega) (fun v' w8 ho hb8 hg8 hat => ?_)
                           have hbx8 := (HXQ2.out.next (.cells #[.slice (some ⟨G, 0, none⟩) ln ln] 79)).grown hg8 (fun e => by have := OVq.out (H + 1) e.symm; omega)
                           have m2 := hbx8.cell 2
                           have mf := hbx8.free 2
                           obtain ⟨o8, c8, hv8, _, _⟩ := ho.slice rowR_ok
                           rw [List.length_append, HTL.out] at hv8
                           simp only [List.length_cons, List.length_nil, Nat.zero_add] at hv8
                           subst hv8
                           simp only [List.getElem?_cons_zero, List.getElem?_cons_succ] at m2
                           have HOW8 := hide ho
                           have HX8 := hide hbx8
                           have HB8 := hide hb8
                           clear ho hb8 hg8 hat hbx8 k2 k2n)
              go_roundg (rn - (s + 1))
              case measure => have := HGM2.out; omega
              case rel =>
                have hput := HX8.out.put 2 (.slice o8 (s + 1) c8)
                simp only [List.set_cons_zero, List.set_cons_succ] at hput
                refine ⟨s + 1, .slice o8 (s + 1) c8, by omega, rfl, by go_num, ?_, hput, ?_⟩
                · show OwnS _ _ _ _ _ _ _ _
                  rw [List.take_add_one, HRW.out]
                  exact HOW8.out.keep rowR_ok (fun g hg => Below.heap_setCell _ _ _ g (by have := (HOW8.out.block g hg).1; simp only; omega)) (fun k hk _ => Below.heap_setCell _ _ _ k (by have := hk.1; unfold OldNew at this; simp only; omega))
                · exact ((((HBq.out.trans (HBG.out.mono (by omega))).alloc (by omega) _).trans (HB8.out.mono (by omega))).setCell (Nat.le_refl _) _)
        · have hse : s = rn := by omega
          subst hse
          have hvp := HVP.out
          subst hvp
          have hbH := HB7.out.trans (HBq.out.mono (by omega))
          have hown := (HOH.out.keep (w' := wr) prcR_ok (fun g hg => hbH.block g (HOV.out g hg).2) (fun k hk _ => hbH.block k hk.2)).wide prcR_ok (F' := InF (OldNew F w.heap.size (po + 1)) (.slice oV i cV)) (fun k hk _ => hk.1)
          have hxo := HXO.out.keep (w' := wr) (hbH.block po hpl)
          obtain ⟨oq, cq, hvq, hcq, hsq⟩ := HOq.out.slice rowR_ok
          rw [List.take_of_length_le (by have := HRN.out; omega)] at hvq hcq hsq
          rw [← HRN.out] at hvq hcq
          subst hvq
          have hrep : prcR (InF (OldNew F w.heap.size (po + 1)) (.slice oV i cV)) wr [.int .i64 S, .int .i64 Le, .slice oq s cq] ⟨S, Le, rs⟩ := by
            refine ⟨oq, cq, by rw [HRN.out], iS, iL, by simp only; have := HRN.out; omega, by simp only; have := HRN.out; omega, hsq.wide rowR_ok (by decide) fun k hk _ => ?_⟩
            have hk2 : (F k ∧ k < w.heap.size) ∨ H + 2 ≤ k := by
              rcases hk with hk | hk
              · exact hk.1
              · exact .inr hk
            refine ⟨?_, fun he => ?_⟩
            · rcases hk2 with h | h
              · exact .inl h
              · exact .inr (by omega)
            · have := HOV.out k he.symm
              omega
          have q0 := HXq.out.cell 0
          have q1 := HXq.out.cell 1
          have q2 := HXq.out.cell 2
          have k0 := hxo.cell 0
          have k0n := (hxo.next (.cells #[.int .i64 S, .int .i64 Le, .slice oq s cq] 53)).cell 0
          have lpo := hxo.lt
          simp only [List.getElem?_cons_zero, List.getElem?_cons_succ] at q0 q1 q2 k0 k0n
          have HOWN := hide hown
          have HXO2 := hide hxo
          have HREP := hide hrep
          have HBH := hide hbH
          have HTL : Hid ((x.procs.take i).length = i) := by show _ = _; rw [List.length_take, Nat.min_eq_left (by have := HN.out; omega)]
          have HOV2 := hide (fun g hg => (HOV.out g hg).1)
          clear hown hxo hrep hbH hsq hcq
          go_wp2_with (at_builtin
                       refine wpList_append_in rfl (.tmp 72) (.tmp 74) 22 rfl (po + 1) 53 _ 3 40 Try.underlying22 prcInfoN rfl (by decide) prcR_ok (OldNew F w.heap.size (po + 1)) (.slice oV i cV) (x.procs.take i) (by simp [Act.eval, Act.put]) (HOWN.out.new prcR_ok _) ⟨_, 0, none⟩ 1 [.int .i64 S, .int .i64 Le, .slice oq s cq] ⟨S, Le, rs⟩ (by simp [Act.eval, Act.put]) (World.news_of_block (heap_alloc_new _ _)) (prcR_ok.keep HREP.out (SameOn.of_below (bnew (Below.refl _ _) _))) (by rw [HTL.out]; omega) (by rw [HTL.out]; unfold maxLen; omega) (by rw [alloc_size']; omega) (fun v' w8 ho hb8 hg8 hat => ?_)
                       have hbx8 := (HXO2.out.next (.cells #[.int .i64 S, .int .i64 Le, .slice oq s cq] 53)).grown hg8 (fun e => by have := HOV2.out po e.symm; omega)
                       have m0 := hbx8.cell 0
                       have mf := hbx8.free 0
                       obtain ⟨o8, c8, hv8, _, _⟩ := ho.slice prcR_ok
                       rw [List.length_append, HTL.out] at hv8
                       simp only [List.length_cons, List.length_nil, Nat.zero_add] at hv8
                       subst hv8
                       simp only [List.getElem?_cons_zero, List.getElem?_cons_succ] at m0
                       have HOW8 := hide ho
                       have HX8 := hide hbx8
                       have HB8 := hide hb8
                       clear ho hb8 hg8 hat hbx8 k0 k0n)
          go_roundg (n - (i + 1))
          case measure => have := HGM.out; omega
          case rel =>
            have hput := HX8.out.put 0 (.slice o8 (i + 1) c8)
            simp only [List.set_cons_zero, List.set_cons_succ] at hput
            refine ⟨i + 1, .slice o8 (i + 1) c8, by omega, rfl, by go_num, ?_, hput, ?_⟩
            · show OwnS _ _ _ _ _ _ _ _
              rw [List.take_add_one, HPR.out]
              exact HOW8.out.keep prcR_ok (fun g hg => Below.heap_setCell _ _ _ g (by have := (HOW8.out.block g hg).1; simp only; omega)) (fun k hk _ => Below.heap_setCell _ _ _ k (by have := hk.1; unfold OldNew at this; simp only; omega))
            · exact ((((HB.out.trans (HBH.out.mono (by omega))).alloc (by omega) _).trans (HB8.out.mono (by omega))).setCell (Nat.le_refl _) _)
    · have hie : i = n := by omega
      subst hie
      obtain ⟨oV, cV, hvp, _, _⟩ := HO.out.slice prcR_ok
      rw [List.length_take, Nat.min_eq_left (by have := HN.out; omega)] at hvp
      subst hvp
      have hO := HO.out
      rw [List.take_of_length_le (by have := HN.out; omega)] at hO
      obtain ⟨Hw, hHw⟩ : ∃ Hw, Hw = wr.heap.size := ⟨_, rfl⟩
      have HHw := hide hHw
      have HOV := hide (fun g hg => (hO.block g hg).2)
      rw [← hHw] at HOV
      have HOH : Hid (OwnS prcR 3 (po + 1) 53 (fun k => InF (OldNew F w.heap.size (po + 1)) (.slice oV i cV) k ∧ k < Hw) wr (.slice oV i cV) x.procs) := hO.wide prcR_ok fun k hk hkl => ⟨hk, by omega⟩
      have HOB := hide (fun g hg => (hO.block g hg).1)
      have hx1 := (HX1.out.under HW5.out (by omega)).under HB.out (by omega)
      have c2 := hx1.cell 2
      have c2o := HX.out.cell 2
      simp only [List.getElem?_cons_zero, List.getElem?_cons_succ] at c2 c2o
      have HBW := hide hbw
      clear hO hHw hx1 hbw
      rw [← HHw.out] at hpl
      go_wp2_with fail
      go_loopg [81] i (fun gm iv wx => ∃ (j : Nat) (tw : Value) (rs : List Rw), j ≤ i ∧ gm = i - j ∧ iv = .int .i64 j ∧ Hid (RTab Hw tw rs wx) ∧ Hid (tabL rs = x.waiting.take j) ∧ Hid (Box wx po [.slice oV i cV, .slice (some ⟨gs, 0, none⟩) i i, tw] 26) ∧ Hid (∀ k, k < Hw → k ≠ po → wx.heap[k]? = wr.heap[k]?) ∧ Hid (Below po wr wx))
      case atStart => exact ⟨0, _, [], by omega, by omega, rfl, RTab.nil _ _, rfl, HX.out, fun _ _ _ => rfl, Below.refl _ _⟩
      case round =>
        obtain ⟨j, tw, rs, hj, hgm2, rfl, HRT, HTB, HXo, HKP, HBj⟩ := hrel
        have HGM2 := hide hgm2
        clear hgm2
        have hbwj : ∀ k, k < w.heap.size → wr.heap[k]? = w.heap[k]? := fun k hk => (HBj.out.block k (by omega)).trans (HBW.out.block k hk)
        have hHwj : Hw ≤ wr.heap.size := by
          have := HBj.out.size
          have := HHw.out
          omega
        have hpoj : po < Hw := hpl
        have HPJ := hide hpoj
        by_cases hlj : j < i
        · obtain ⟨l, _, hwl, b1, off1, ol, cl, how, _, c4, hcl, hcl2, hsl⟩ := (hT.out.keep (w' := wr) tabR' (fun k hk _ => hbwj k hk)).slc_at (i := j) (by have := HWT.out; omega)
          subst how
          have hl8 : 1 ≤ l.length ∧ l.length ≤ 8 := by
            have hip : j < x.procs.length := by have := HN.out; omega
            have hpr := List.getElem?_eq_getElem hip
            have h1 := HR.out.wl j l _ hwl hpr
            have h2 := check_zero (HR.out.proc j _ hpr)
            omega
          have hrl : rs.length = j := by
            have := congrArg List.length HTB.out
            unfold tabL at this
            rw [List.length_map, List.length_take, Nat.min_eq_left (by have := HWT.out; omega)] at this
            exact this
          obtain ⟨ot, ct_, htw, _⟩ := HRT.out.len
          rw [hrl] at htw
          subst htw
          have HLEN : Hid ((rs.map Rw.val).length = j) := by show _ = _; rw [List.length_map]; exact hrl
          have m2 := HXo.out.cell 2
          have mf2 := HXo.out.free 2
          simp only [List.getElem?_cons_zero, List.getElem?_cons_succ] at m2
          have m2d : wr.drew.cell? ⟨po, 2, none⟩ = some (.slice ot j ct_) := m2
          have mf2d : wr.drew.frozen? ⟨po, 2, none⟩ = false := mf2
          have hcl3 := cloneIW_any l ol cl _ wr.drew (hsl.keep intR_ok (fun _ _ _ => rfl)) hcl (by omega)
          obtain ⟨ll, hll⟩ : ∃ ll, ll = l.length := ⟨_, rfl⟩
          have HLL := hide hll
          rw [← hll] at hcl3 c4 hl8 hcl
          have HCL := hide hcl3
          have HWL := hide hwl
          clear hwl hsl hcl2 hcl3 hll hrl
          go_wp2_with fail
          go_region_law (first
              | (refine step_append_at rfl (.tmp 86) (.tmp 89) 24 rfl Hw 23 _ 1 24 Try.underlying24 tabInfoN rfl (by decide) valR_ok Non (.slice ot j ct_) (rs.map Rw.val) (by simp [Act.eval, Act.put]) (OwnS.new valR_ok HT7.out _) ⟨_, 0, none⟩ 1 [.slice (some ⟨gr, 0, none⟩) ll capr] (.slice (some ⟨gr, 0, none⟩) ll capr) (by simp [Act.eval, Act.put]) (World.news_of_block (heap_alloc_new _ _)) ⟨rfl, rfl⟩ (fun _ h => h.elim) (by rw [HLEN.out]; omega) (by rw [HLEN.out]; unfold maxLen; omega) (by simp; omega) ?_; intro v' w8 ho hb hg hat; have hbm := (HM7.out.next _).grown hg (fun e => by obtain ⟨cur, hcur⟩ := own_heap HT7.out e.symm; exact ne_type HM7.out hcur (by decide) rfl); have k6 := hbm.cell 2; have kf := hbm.free 2; obtain ⟨o3, c3, hv3, _, _⟩ := ho.slice valR_ok; rw [List.length_append, HLEN.out] at hv3; simp only [List.length_cons, List.length_nil, Nat.zero_add] at hv3; subst hv3; simp only [List.getElem?_cons_zero, List.getElem?_cons_succ] at k6)
              | (go_simp; go_at_call 42; refine HCL.out.mono ?_; rintro e w7 ⟨v60, rfl, h60, hb60⟩; obtain ⟨gr, capr, rr, hv60, hgr, hcapr, _, hrow7, _⟩ := h60.row (by intro e; have := HLL.out; rw [e] at this; simp at this; omega); rw [← HLL.out] at hv60 hcapr; subst hv60; have hcr : ll ≤ capr := by { omega }; clear hcapr h60; have hs7 : wr.heap.size ≤ w7.heap.size := hb60.size; have HT7 := hide (HRT.out.tab.below valR_ok (Below.trans (Below.refl _ _).drew hb60)); have HM7 := hide (HXo.out.below (Below.trans (Below.refl _ _).drew hb60)); have m2 := HM7.out.cell 2; have mf2 := HM7.out.free 2; simp only [List.getElem?_cons_zero, List.getElem?_cons_succ] at m2; have m2n := cell_next m2 (.cells #[.slice (some ⟨gr, 0, none⟩) ll capr] 23); have HR7 := hide hrow7; have HB60 : Hid (Below wr.heap.size wr w7) := (Below.refl _ _).drew.trans hb60; clear hb60 hrow7))
          all_goals
            have hk8 : ∀ k, k < wr.heap.size → some k ≠ (Value.slice ot j ct_).ownBlock → w8.heap[k]? = wr.heap[k]? := fun k hk hne => (hg.block k (by show k < (w7.alloc _).heap.size; simp; omega) hne).trans ((Below.heap_alloc w7 _ k (by omega)).trans (HB60.out.block k hk))
            have hr8 : Row1 (Value.int .i64) w8 gr 3 l rr := HR7.out.keep ((hg.block gr (by have := HR7.out.lt; show gr < (w7.alloc _).heap.size; simp; omega) (fun e => by obtain ⟨cur, hcur⟩ := own_heap HT7.out e.symm; exact ne_type HR7.out hcur (by decide) rfl)).trans (Below.heap_alloc w7 _ gr HR7.out.lt))
            have hpw := HRT.out.push (r := ⟨gr, capr, l, rr⟩) (by unfold Rw.val slV; rw [← HLL.out]; exact ho) hk8 hr8 hgr hHwj (by show l.length ≤ capr; rw [← HLL.out]; exact hcr)
            have hput := hbm.put 2 (.slice o3 (j + 1) c3)
            simp only [List.set_cons_zero, List.set_cons_succ] at hput
            have hown : ∀ k, (Value.slice ot j ct_).ownBlock = some k → Hw ≤ k := fun k hk => (HRT.out.tab.block k hk).1
            have hwz : wr.heap.size ≤ w8.heap.size := by have := hg.size; simp at this; omega
            have hbx : RTab Hw (.slice o3 (j + 1) c3) (rs ++ [⟨gr, capr, l, rr⟩]) (w8.setCell ⟨po, 2, none⟩ (.slice o3 (j + 1) c3)) :=
              hpw.above fun k _ hk => Below.heap_setCell _ _ _ k (by simp only; omega)
            have hkp : ∀ k, k < wr.heap.size → k < Hw → k ≠ po → (w8.setCell ⟨po, 2, none⟩ (.slice o3 (j + 1) c3)).heap[k]? = wr.heap[k]? := fun k hk hk2 hk3 =>
              (Below.heap_setCell _ _ _ k hk3).trans (hk8 k hk fun e => by have := hown k e.symm; omega)
            have hbl : Below po wr (w8.setCell ⟨po, 2, none⟩ (.slice o3 (j + 1) c3)) :=
              ((((HB60.out.mono (B' := po) (Nat.le_trans (Nat.le_of_lt HPJ.out) hHwj)).alloc (Nat.le_trans (Nat.le_trans (Nat.le_of_lt HPJ.out) hHwj) hs7) (.cells #[.slice (some ⟨gr, 0, none⟩) ll capr] 23)).trans (hb.mono (B' := po) (Nat.le_of_lt HPJ.out))).setCell (Nat.le_refl _) _)
            have HP8 := hide hput
            have HT8 := hide hbx
            have HK8 := hide hkp
            have HB8 := hide hbl
            clear hk8 hr8 hpw hput hown hbx hkp hbl ho hb hg hat hbm k6 kf m2 mf2 m2d mf2d m2n
            go_wp2_with fail
            go_roundg (i - (j + 1))
            case measure => have := HGM2.out; omega
            case rel => exact ⟨j + 1, .slice o3 (j + 1) c3, rs ++ [(⟨gr, capr, l, rr⟩ : Rw)], by omega, rfl, by go_num, HT8.out, by show _ = _; rw [List.take_add_one, HWL.out]; unfold tabL; rw [List.map_append]; have := HTB.out; unfold tabL at this; rw [this]; rfl, HP8.out, (fun k hk hk2 => (HK8.out k (by omega) hk hk2).trans (HKP.out k hk hk2)), HBj.out.trans HB8.out⟩
        · have hje : j = i := by omega
          subst hje
          have hp1 : W1.heap.size < gs := by have := Z2.out; have := HGS.out; omega
          have hpw : w.heap.size ≤ W1.heap.size := by have := Z1.out; omega
          have hz2 := ((HX2.out.under HW5.out hp1).under HB.out (by omega)).under HBj.out (by omega)
          have r0 := hz2.cell 0
          have r1 := hz2.cell 1
          have r2 := hz2.cell 2
          have rf := hz2.free
          have o0 := HXo.out.cell 0
          have o1 := HXo.out.cell 1
          have o2 := HXo.out.cell 2
          simp only [List.getElem?_cons_zero, List.getElem?_cons_succ] at r0 r1 r2 o0 o1 o2
          obtain ⟨ot, ct_, htw, _⟩ := HRT.out.len
          have hrl : rs.length = j := by
            have := congrArg List.length HTB.out
            unfold tabL at this
            rw [List.length_map, List.length_take, Nat.min_eq_left (by have := HWT.out; omega)] at this
            exact this
          rw [hrl] at htw
          subst htw
          have HZ2 := hide hz2
          clear hz2 hrl c2 c2o
          go_wp2_with fail
          have hfin := ((HZ2.out.put 0 (.slice oV j cV)).put 1 (.slice (some ⟨gs, 0, none⟩) j j)).put 2 (.slice ot j ct_)
          simp only [List.set_cons_zero, List.set_cons_succ] at hfin
          obtain ⟨W9, e9⟩ : ∃ W9, ((wr.setCell ⟨W1.heap.size, 0, none⟩ (.slice oV j cV)).setCell ⟨W1.heap.size, 1, none⟩ (.slice (some ⟨gs, 0, none⟩) j j)).setCell ⟨W1.heap.size, 2, none⟩ (.slice ot j ct_) = W9 := ⟨_, rfl⟩
          rw [e9] at hfin ⊢
          have hk9 : ∀ k, k ≠ W1.heap.size → W9.heap[k]? = wr.heap[k]? := fun k hk => by
            rw [← e9, Below.heap_setCell _ _ _ k hk, Below.heap_setCell _ _ _ k hk, Below.heap_setCell _ _ _ k hk]
          have hs9 : W9.heap.size = wr.heap.size := by rw [← e9]; simp [World.setCell]
          have hB9 : Below w.heap.size w W9 := by
            rw [← e9]
            exact (((HBW.out.trans (HBj.out.mono (by omega))).setCell hpw _).setCell hpw _).setCell hpw _
          refine bodyPost_ret (results_cell_row rfl _ _ W1.heap.size 26 _ (0, 0) _ rfl hfin Try.underlying26 rfl (by kernel_rfl)) rfl ?_
          refine ⟨.slice oV j cV, .slice ot j ct_, rs, po + 1, Hw, gs, rfl, by omega, by omega, by omega, by rw [hs9]; exact hHwj, HOV.out, ?_, ?_, ?_, ?_, hB9⟩
          · exact HOH.out.keep prcR_ok (fun g hg => by
              have h1 := HOB.out g hg
              have h2 := HOV.out g hg
              rw [hk9 g (by omega), HKP.out g h2 (by omega)]) (fun k hk hkl => by
              have h1 := hk.1.1
              unfold OldNew at h1
              have h2 := hk.2
              rw [hk9 k (by omega), HKP.out k h2 (by omega)])
          · exact HRS.out.keep (by
              rw [hk9 gs (by omega), HKP.out gs (by omega) (by omega)]
              exact HB.out.block gs (by omega))
          · exact HRT.out.above fun k hk hk2 => hk9 k (by omega)
          · have := HTB.out
            rw [List.take_of_length_le (by have := HWT.out; omega)] at this
            exact this

end Go.Proofs.Ytnigfddanoaonaa

set_option linter.unusedVariables false
set_option linter.unusedSimpArgs false
namespace Go.Proofs.Ytnigfddanoaonaa
open Go.RowKit

/-- The machine at block p holds the network x; its processors lie where they are not changed. -/
structure Mach (O : Foot) (B0 K H p gs : Nat) (vp tw : Value) (rs : List Rw) (x : Nwk) (W : World) : Prop where
  main : Box W p [vp, .slice (some ⟨gs, 0, none⟩) x.procs.length x.procs.length, tw] 85
  procs : OwnS prcR 3 K 53 (fun k => InF (OldNew O B0 K) vp k ∧ k < H) W vp x.procs
  vlt : ∀ g, vp.ownBlock = some g → g < H
  sts : Row1 (Value.int .i64) W gs 3 x.state []
  tab : RTab H tw rs W
  tabs : tabL rs = x.waiting
  low : B0 ≤ gs ∧ gs < K ∧ K ≤ H ∧ H ≤ p
def machV (p : Nat) : Value := .pointer (some ⟨p, 0, none⟩)
section
variable {O : Foot} {B0 K H p gs : Nat} {vp tw : Value} {rs : List Rw} {x : Nwk} {W W' : World}
theorem Mach.below (h : Mach O B0 K H p gs vp tw rs x W) (hb : Below W.heap.size W W') : Mach O B0 K H p gs vp tw rs x W' :=
  { h with main := h.main.below hb, procs := h.procs.below prcR_ok hb, sts := h.sts.below hb, tab := h.tab.below hb }
theorem Mach.rlen (h : Mach O B0 K H p gs vp tw rs x W) : rs.length = x.waiting.length := by rw [← h.tabs]; unfold tabL; rw [List.length_map]
theorem Mach.row (h : Mach O B0 K H p gs vp tw rs x W) {i : Nat} {l : List Int} (hl : x.waiting[i]? = some l) : ∃ r, rs[i]? = some r ∧ r.l = l := by
  rw [← h.tabs] at hl
  unfold tabL at hl
  rw [List.getElem?_map, Option.map_eq_some_iff] at hl
  obtain ⟨r, h1, h2⟩ := hl
  exact ⟨r, h1, h2⟩
end

set_option maxHeartbeats 1000000 in
theorem nstart_any (x : Nwk) (op : Option Addr) (cp : Nat) (os : Option Addr) (cs : Nat) (ow : Option Addr) (cw : Nat) (F : Foot) (w : World)
    (hp : SliceR prcR 3 F w op x.procs) (hs : SliceR intR 1 F w os x.state) (ht : SliceR (slcR intR 1) 1 F w ow x.waiting) (hr : Right x) :
    Calls Try.prog 21 #[.agg #[.slice op x.procs.length cp, .slice os x.procs.length cs, .slice ow x.procs.length cw]] w fun e w' =>
      ∃ (B0 K H p gs : Nat) (vp tw : Value) (rs : List Rw), e = .returned (.iface 82 (machV p)) ∧ w.heap.size ≤ B0 ∧ Mach F B0 K H p gs vp tw rs x w' ∧ Below w.heap.size w w' := by
  obtain ⟨n, hn⟩ : ∃ n, n = x.procs.length := ⟨_, rfl⟩
  obtain ⟨W1, e1⟩ : ∃ W1, w.alloc (.cells #[.slice op n cp, .slice os n cs, .slice ow n cw] 26) = W1 := ⟨_, rfl⟩
  have bx1 : Box W1 w.heap.size [.slice op n cp, .slice os n cs, .slice ow n cw] 26 := by rw [← e1]; exact Box.new w [.slice op n cp, .slice os n cs, .slice ow n cw] 26
  have bb1 := bnew (Below.refl w.heap.size w) (.cells #[.slice op n cp, .slice os n cs, .slice ow n cw] 26)
  rw [e1] at bb1
  have HC := hide (ncopied_any x op cp os cs ow cw F W1 (hp.below prcR_ok bb1) (hs.below intR_ok bb1) (ht.below tabR' bb1) hr)
  rw [← hn] at HC ⊢
  have HN := hide hn
  have d0 := bx1.cell 0
  have d1 := bx1.cell 1
  have d2 := bx1.cell 2
  simp only [List.getElem?_cons_zero, List.getElem?_cons_succ] at d0 d1 d2
  have HB1 := hide bb1
  clear hp hs ht hr hn bx1 bb1
  go_enter Try.func21, Try.ntmps21
  go_wp2_with (go_at_call 39; refine HC.out.mono ?_; rintro e w2 ⟨vp, tw, rs, K, H, gs, rfl, h1, h2, h3, h3b, h4, h5, h6, h7, h8, h9⟩; have HK := hide (And.intro h1 (And.intro h2 (And.intro h3 (And.intro h4 (And.intro h5 (And.intro h6 (And.intro h7 (And.intro h8 h9)))))))); have HK2 := hide h3b; obtain ⟨oV, cV, hvp, _, _⟩ := h5.slice prcR_ok; obtain ⟨oT, cT, htw, _⟩ := h7.len; subst hvp htw; clear h1 h2 h3 h3b h4 h5 h6 h7 h8 h9)
  go_ret
  obtain ⟨h1, h2, h3, h4, h5, h6, h7, h8, h9⟩ := HK.out
  have hbn := bnew (Below.refl w2.heap.size w2) (.cells #[.slice oV x.procs.length cV, .slice (some ⟨gs, 0, none⟩) n n, .slice oT rs.length cT] 85)
  have hbx := Box.new w2 [.slice oV x.procs.length cV, .slice (some ⟨gs, 0, none⟩) n n, .slice oT rs.length cT] 85
  rw [HN.out] at hbx hbn ⊢
  refine ⟨W1.heap.size, K, H, w2.heap.size, gs, _, _, rs, rfl, HB1.out.size, ⟨hbx, h5.below prcR_ok hbn, h4, h6.below hbn, h7.below hbn, h8, ⟨h1, h2, h3, ?_⟩⟩, ?_⟩
  · exact HK2.out
  · exact (HB1.out.trans (h9.mono HB1.out.size)).trans (hbn.mono (Nat.le_trans HB1.out.size h9.size))


section
variable {O : Foot} {B0 K H p gs : Nat} {vp tw : Value} {rs : List Rw} {x : Nwk} {W : World}
set_option maxHeartbeats 1000000 in
theorem nnet_any (h : Mach O B0 K H p gs vp tw rs x W) : Calls Try.prog 92 #[machV p] W fun e w' => e = .returned (.agg #[vp, .slice (some ⟨gs, 0, none⟩) x.procs.length x.procs.length, tw]) ∧ Below W.heap.size W w' := by
  obtain ⟨oV, cV, hvp, _, _⟩ := h.procs.slice prcR_ok
  obtain ⟨oT, cT, htw, _⟩ := h.tab.len
  subst hvp htw
  have hm := h.main
  obtain ⟨n, hn⟩ : ∃ n, n = x.procs.length := ⟨_, rfl⟩
  obtain ⟨m, hm2⟩ : ∃ m, m = rs.length := ⟨_, rfl⟩
  rw [← hn, ← hm2] at hm ⊢
  have c0 := hm.cell 0
  have c1 := hm.cell 1
  have c2 := hm.cell 2
  have lp := hm.lt
  simp only [List.getElem?_cons_zero, List.getElem?_cons_succ] at c0 c1 c2
  unfold machV
  clear h hn hm2 hm
  go_enter Try.func92, Try.ntmps92
  go_wp2_with fail
  have hb := Box.new W [.slice oV n cV, .slice (some ⟨gs, 0, none⟩) n n, .slice oT m cT] 26
  refine bodyPost_ret (results_cell_row rfl _ _ W.heap.size 26 _ (0, 0) _ rfl hb Try.underlying26 rfl (by kernel_rfl)) rfl ?_
  exact ⟨rfl, bnew (Below.refl _ _) _⟩

def mvR : Rep (Nat × Nat) := fun _ _ cs x => cs = [.int .i64 (x.1 : Nat), .int .i64 (x.2 : Nat)]
theorem mvR_ok : RepOk mvR 2 where
  len := by rintro F w cs x rfl; rfl
  one := by rintro F w cs x rfl u hu; simp at hu; rcases hu with rfl | rfl <;> rfl
  keep := by rintro F w w' cs x h _; exact h
  wide := by rintro F F' w cs x h _; exact h
/-- The letters of one processor that may be read. -/
def rowMv (p : Nat) (l : List Int) (k : Nat) : List (Nat × Nat) := ((List.range k).filter fun a => decide (0 < l.getD a 0)).map fun a => (p, a)
/-- The moves: the letters that wait, in order. -/
def movesS (wt : List (List Int)) : List (Nat × Nat) := (List.range wt.length).flatMap fun p => rowMv p (wt.getD p []) (wt.getD p []).length
def movesUpto (wt : List (List Int)) (i : Nat) : List (Nat × Nat) := (List.range i).flatMap fun p => rowMv p (wt.getD p []) (wt.getD p []).length
theorem rowMv_succ (p : Nat) (l : List Int) (k : Nat) : rowMv p l (k + 1) = rowMv p l k ++ (if 0 < l.getD k 0 then [(p, k)] else []) := by
  unfold rowMv
  rw [List.range_succ, List.filter_append, List.map_append]
  congr 1
  by_cases h : 0 < l.getD k 0
  · rw [if_pos h, List.filter_cons_of_pos (by simpa using h)]
    rfl
  · rw [if_neg h, List.filter_cons_of_neg (by simpa using h)]
    rfl
theorem movesUpto_succ (wt : List (List Int)) (i : Nat) : movesUpto wt (i + 1) = movesUpto wt i ++ rowMv i (wt.getD i []) (wt.getD i []).length := by
  unfold movesUpto
  rw [List.range_succ, List.flatMap_append]
  simp
theorem rowMv_len (p : Nat) (l : List Int) (k : Nat) : (rowMv p l k).length ≤ k := by
  unfold rowMv
  rw [List.length_map]
  exact Nat.le_trans (List.length_filter_le _ _) (by simp)
theorem movesUpto_len {wt : List (List Int)} (h8 : ∀ l ∈ wt, l.length ≤ 8) : ∀ i, (movesUpto wt i).length ≤ 8 * i
  | 0 => by simp [movesUpto]
  | i + 1 => by
    rw [movesUpto_succ, List.length_append]
    have h1 := movesUpto_len h8 i
    have h2 := rowMv_len i (wt.getD i []) (wt.getD i []).length
    have h3 : (wt.getD i []).length ≤ 8 := by
      rw [List.getD_eq_getElem?_getD]
      rcases hx : wt[i]? with _ | l
      · simp
      · exact h8 l (List.mem_of_getElem? hx)
    omega
theorem mvInfoN : (Try.prog.info? 57).map (fun i => (i.zero, i.size, i.bytes)) = some (some (.agg #[.int .i64 0, .int .i64 0]), 2, 16) := by kernel_rfl

theorem mv_lit (w : World) (i j : Nat) : SliceR mvR 2 All (w.alloc (.cells #[.int .i64 (i : Nat), .int .i64 (j : Nat)] 57)) (some ⟨w.heap.size, 0, none⟩) [(i, j)] :=
  SliceR.lit (F := All) mvR_ok w 57 [[.int .i64 (i : Nat), .int .i64 (j : Nat)]] [(i, j)] (fun k y hy => by match k, hy with | 0, hy => simp at hy; subst hy; exact ⟨_, rfl, rfl⟩) rfl (fun _ h => h) trivial

set_option maxRecDepth 100000 in
set_option maxHeartbeats 2000000 in
theorem nmoves_any (h : Mach O B0 K H p gs vp tw rs x W) (h12 : x.waiting.length ≤ 12) (h8 : ∀ l ∈ x.waiting, l.length ≤ 8) :
    Calls Try.prog 91 #[machV p] W fun e w' => ∃ v, e = .returned v ∧ OwnS mvR 2 W.heap.size 57 Non w' v (movesS x.waiting) ∧ Below W.heap.size W w' := by
  obtain ⟨oV, cV, hvp, _, _⟩ := h.procs.slice prcR_ok
  obtain ⟨oT, cT, htw, _⟩ := h.tab.len
  subst hvp htw
  obtain ⟨n, hn⟩ : ∃ n, n = x.waiting.length := ⟨_, rfl⟩
  have hm := h.main
  have HM := hide h
  have HN := hide hn
  have H8 := hide h8
  rw [h.rlen, ← hn] at hm
  rw [← hn] at h12
  have c2 := hm.cell 2
  simp only [List.getElem?_cons_zero, List.getElem?_cons_succ] at c2
  unfold machV
  clear h hn hm h8
  go_enter Try.func91, Try.ntmps91
  go_wp2_with fail
  go_loopg [3, 14] n (fun gm v iv wr => ∃ i : Nat, i ≤ n ∧ gm = n - i ∧ iv = .int .i64 i ∧ Hid (OwnS mvR 2 W.heap.size 57 Non wr v (movesUpto x.waiting i)) ∧ Hid (Below W.heap.size W wr))
  case atStart => exact ⟨0, by omega, by omega, rfl, OwnS.nil _ _ _ _ _ _, Below.refl _ _⟩
  case round =>
    obtain ⟨i, hi, hgm, rfl, HO, HB⟩ := hrel
    have HGM := hide hgm
    clear hgm
    by_cases hlt : i < n
    · obtain ⟨l, hl⟩ : ∃ l, x.waiting[i]? = some l := ⟨_, List.getElem?_eq_getElem (by have := HN.out; omega)⟩
      obtain ⟨r, hr, hrl⟩ := HM.out.row hl
      obtain ⟨g, cap, htw, _, _, hcell, hrow, _, _, _⟩ := (HM.out.below HB.out).tab.get hr
      injection htw with e1 e2 e3
      subst e1 e3
      clear e2
      rw [hrl] at hcell hrow
      unfold slV at hcell
      have HLG : Hid (x.waiting.getD i [] = l) := by show _ = _; rw [List.getD_eq_getElem?_getD, hl]; rfl
      have hl8 := H8.out l (List.mem_of_getElem? hl)
      have HRW := hide hrow
      obtain ⟨ll, hll⟩ : ∃ n, n = l.length := ⟨_, rfl⟩
      rw [← hll] at hcell hl8
      have HLL := hide hll
      clear hl hr hrl hrow hll
      go_wp2_with fail
      go_loopg [3, 21] ll (fun gm2 v jv wx => ∃ j : Nat, j ≤ ll ∧ gm2 = ll - j ∧ jv = .int .i64 j ∧ Hid (OwnS mvR 2 W.heap.size 57 Non wx v (movesUpto x.waiting i ++ rowMv i l j)) ∧ Hid (Below W.heap.size W wx) ∧ Hid (Row1 (Value.int .i64) wx r.g 3 l r.rest))
      case atStart => exact ⟨0, by omega, by omega, rfl, by show OwnS _ _ _ _ _ _ _ _; simpa [rowMv] using HO.out, HB, HRW⟩
      case round =>
        obtain ⟨j, hj, hgm2, rfl, HOj, HBj, HRj⟩ := hrel
        have HGM2 := hide hgm2
        clear hgm2
        by_cases hlj : j < ll
        · have hjl : j < l.length := by have := HLL.out; omega
          have c3 := HRj.out.cell (List.getElem?_eq_getElem hjl)
          have HG : Hid (l.getD j 0 = l[j]) := by show _ = _; rw [List.getD_eq_getElem?_getD, List.getElem?_eq_getElem hjl]; rfl
          generalize l[j] = xj at c3 HG
          by_cases hx : 0 < xj
          · have HS : Hid (rowMv i l (j + 1) = rowMv i l j ++ [(i, j)]) := by show _ = _; rw [rowMv_succ, HG.out, if_pos hx]
            have hbd : (movesUpto x.waiting i ++ rowMv i l j).length ≤ 1000 := by
              rw [List.length_append]
              have h1 := movesUpto_len H8.out i
              have h2 := rowMv_len i l j
              omega
            have HBD := hide hbd
            have hW := HBj.out.size
            clear hbd
            go_wp2_with (at_builtin; refine wpList_append_rep rfl (.tmp 28) (.tmp 32) 55 rfl W.heap.size 57 _ 2 16 Try.underlying55 mvInfoN rfl (by decide) mvR_ok Non All _ (movesUpto x.waiting i ++ rowMv i l j) (by simp [Act.eval, Act.put]) (HOj.out.new mvR_ok _) (some ⟨wr.heap.size, 0, none⟩) 1 [(i, j)] (by simp [Act.eval, Act.put]) (mv_lit wr i j) (fun _ _ h => h) (fun _ h => h.elim) (by simp only [List.length_cons, List.length_nil]; have := HBD.out; omega) (by simp only [List.length_cons, List.length_nil]; have := HBD.out; omega) (by rw [alloc_size']; omega) (fun v' w8 ho hb8 hg8 => ?_); have HO8 := hide ho; have HB8 : Hid (Below W.heap.size W w8) := (HBj.out.alloc hW _).trans hb8; have HR8 : Hid (Row1 (Value.int .i64) w8 r.g 3 l r.rest) := (HRj.out.new _).keep (hg8.block _ (by rw [alloc_size']; have := HRj.out.lt; omega) (fun e => by obtain ⟨cur, hcur⟩ := own_heap HOj.out e.symm; exact ne_type HRj.out hcur (by decide) rfl)); clear ho hb8 hg8)
            go_roundg (ll - (j + 1))
            case rel => exact ⟨j + 1, by omega, rfl, by go_num, by show OwnS _ _ _ _ _ _ _ _; rw [HS.out, ← List.append_assoc]; exact HO8.out, HB8, HR8⟩
            case measure => have := HGM2.out; omega
          · have HS : Hid (rowMv i l (j + 1) = rowMv i l j) := by show _ = _; rw [rowMv_succ, HG.out, if_neg hx, List.append_nil]
            go_wp2_with fail
            go_roundg (ll - (j + 1))
            case rel => exact ⟨j + 1, by omega, rfl, by go_num, by show OwnS _ _ _ _ _ _ _ _; rw [HS.out]; exact HOj.out, HBj, HRj⟩
            case measure => have := HGM2.out; omega
        · have hje : j = ll := by omega
          subst hje
          have HOE : Hid (OwnS mvR 2 W.heap.size 57 Non wr u3 (movesUpto x.waiting (i + 1))) := by
            show OwnS _ _ _ _ _ _ _ _
            rw [movesUpto_succ, HLG.out, ← HLL.out]
            exact HOj.out
          go_wp2_with fail
          go_roundg (n - (i + 1))
          case rel => exact ⟨i + 1, by omega, rfl, by go_num, HOE, HBj⟩
          case measure => have := HGM.out; omega
    · have hie : i = n := by omega
      subst hie
      go_wp2_with fail
      go_ret
      exact ⟨_, rfl, by unfold movesS; rw [← HN.out]; exact HO.out, HB.out⟩
end

end Go.Proofs.Ytnigfddanoaonaa

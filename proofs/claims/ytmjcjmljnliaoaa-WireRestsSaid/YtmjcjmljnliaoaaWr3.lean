/-
  The wire machine: a processor reads a letter.
-/
import Derived.Test.YtmjcjmljnliaoaaWr2
import Derived.Deep.AppendLies
import Derived.BigRegion
import Derived.BigQuiet
import Derived.Deep.DeepCutAuto

set_option linter.unusedVariables false
set_option linter.unusedSimpArgs false
set_option linter.unnecessarySimpa false
namespace Go.Proofs.Ytmjcjmljnliaoaa
open Go.RowKit

section
variable {B N : Nat} {L : WLay} {oP : Option Addr} {cP : Nat} {oF : Option Addr} {nF cF : Nat} {S : Wr} {W W' : World}
variable {X M K A T : Int}

theorem SliceR.prc_of {F : Foot} {w : World} {oa : Option Addr} {xs : List Prc} (h : SliceR prcR 3 F w oa xs) {i : Nat} (hi : i < xs.length) :
    ∃ p b off oa' c, xs[i]? = some p ∧ oa = some ⟨b, off, none⟩ ∧ F b ∧ w.cell? ⟨b, off + i * 3, none⟩ = some (.int .i64 p.states) ∧ w.cell? ⟨b, off + i * 3 + 1, none⟩ = some (.int .i64 p.letters) ∧ w.cell? ⟨b, off + i * 3 + 2, none⟩ = some (.slice oa' p.rules.length c) ∧ I64 p.states ∧ I64 p.letters ∧ p.rules.length ≤ c ∧ p.rules.length ≤ 9223372036854775807 ∧ SliceR (slcR ruleR 2) 1 F w oa' p.rules := by
  obtain ⟨p, h1, h2, b, off, cs, h3, h4, ⟨oa', c, rfl, h5, h6, h7, h8, h9⟩, h10⟩ := h.at hi
  exact ⟨p, b, off, oa', c, h2, h3, h4, by simpa using h10 0 _ rfl, by simpa using h10 1 _ rfl, by simpa using h10 2 _ rfl, h5, h6, h7, h8, h9⟩

theorem intInfoW : (Try.prog.info? 3).map (fun i => (i.zero, i.size, i.bytes)) = some (some (.int .i64 0), 1, 8) := by kernel_rfl
theorem one_cellW {w : World} {t : TypeId} {v : Value} {j : Nat} {u : Value} (h : [v][j]? = some u) : (w.alloc (.cells #[v] t)).cell? ((⟨w.heap.size, 0, none⟩ : Addr).add j) = some u :=
  World.news_of_block (cs := #[v]) (heap_alloc_new w _) j u h
theorem i64_of {a : Int} (h0 : -1000000000000 ≤ a) (h1 : a ≤ 1000000000000) : I64 a := by unfold I64; omega

set_option maxRecDepth 100000 in
set_option maxHeartbeats 4000000 in
theorem wread_any (h : Wires B N L oP cP oF nF cF S W) {x : Nwk} (hx : Right x) (hN : N = x.procs.length) (hi : WInv N (lettersP x.procs) (statesP x.procs) X M K A T [] S)
    (hP : SliceR prcR 3 (Lt B) W oP x.procs) (hB : B ≤ W.heap.size) {p : Nat} (hp : p < N) (hX : M + 16 ≤ X) (hXX : X ≤ 1000000000000) (hT : T ≤ 900000000) :
    Calls Try.prog 121 #[.pointer (some ⟨L.p, 0, none⟩), .int .i64 p] W fun e w' => e = .returned (.tuple #[]) ∧ ∃ L', Wires B N L' oP cP oF nF cF (readS N (nextP x.procs) (sentP x.procs) p S) w' ∧ Went N L W L' w' := by
  have hn12 : N ≤ 12 := by have := hx.n.2; omega
  have hmx := hi.mx
  obtain ⟨row, hr, hg, hl⟩ := hi.wrow hp
  have hlet := hx.letters p (by omega)
  have HRB : Hid (∀ (k : Nat) (y : Int), row[k]? = some y → 0 ≤ y ∧ y ≤ M) := fun k y hy => by
    have := hi.wb p row hr k y hy
    have h2 := Lc_nonneg ([] ++ S.fl)
    omega
  have hrow := h.wrow p row hr
  have hsl : SliceR intR 1 All W (some ⟨L.bw p, 0, none⟩) row := hrow.ints (fun y hy => by
    obtain ⟨k, hk, rfl⟩ := List.mem_iff_getElem.1 hy
    have := HRB.out k _ (List.getElem?_eq_getElem hk)
    exact i64_of (by omega) (by omega)) trivial
  obtain ⟨_, _, c2, _, _, _, _, _, _, _⟩ := h.cells
  have t0 := h.wtab.cell (i := p) (x := slV (L.bw p) row.length (L.kw p)) (by simp [hp, hr])
  simp only [id_eq] at t0
  unfold slV at c2 t0
  have hlen : row.length ≤ 8 := by omega
  have HSL := hide hsl
  have HH := hide h
  have HI := hide hi
  have HX := hide hx
  have HP := hide hP
  have HN := hide hN
  have HR := hide hr
  have HG := hide hg
  have HL := hide hl
  clear hsl hg hl hrow h hi hx hP hN hr hlet
  rcases hk : row.findIdx? (fun n => decide (0 < n)) with _ | k
  · have HE : Hid (readS N (nextP x.procs) (sentP x.procs) p S = S) := by
      show _ = _
      unfold readS leastS
      rw [HG.out, hk]
    have HK := hide hk
    clear hk
    go_enter Try.func121, Try.ntmps121
    go_wp2_with (go_at_call 112; refine (idxPos row _ _ All _ HSL.out (by omega)).mono ?_; rintro e w2 ⟨rfl, rfl⟩; rw [HK.out]; simp only [idxI])
    refine bodyPost_ret (results_none rfl _ _ _) rfl ?_
    exact ⟨rfl, L, by rw [HE.out]; exact HH.out, Went.refl _ _ _⟩
  · have HK := hide hk
    have hls : leastS (S.wt.getD p []) = some k := by rw [HG.out]; exact hk
    clear hk
    obtain ⟨v, hv, hv0⟩ := leastS_some (row := row) (by rw [← HG.out]; exact hls)
    have hvM := HRB.out k v hv
    have hkl : k < row.length := (List.getElem?_eq_some_iff.1 hv).1
    have r0 := (HH.out.wrow p row HR.out).cell hv
    have rf := (HH.out.wrow p row HR.out).free k
    have hW1 := HH.out.setWait HR.out hkl (v - 1)
    have hG1 : Went N L W L (W.setCell ⟨L.bw p, k, none⟩ (.int .i64 (v - 1))) := Went.put (.inr (.inr (.inr (.inr (.inr (.inl ⟨p, hp, rfl⟩))))))
    obtain ⟨W1, e1⟩ : ∃ W1, W.setCell ⟨L.bw p, k, none⟩ (.int .i64 (v - 1)) = W1 := ⟨_, rfl⟩
    rw [e1] at hW1 hG1
    obtain ⟨cr, hcr, hgc, hlc⟩ := HI.out.crow hp
    have hkc : k < cr.length := by have := HL.out; omega
    have hy := List.getElem?_eq_getElem hkc
    have hcb := HI.out.cb p cr hcr k _ hy
    obtain ⟨y, hye⟩ : ∃ y, y = cr[k] := ⟨_, rfl⟩
    rw [← hye] at hy hcb
    clear hye
    obtain ⟨_, _, _, d3, _, _, _, _, _, _⟩ := hW1.cells
    have d4 := hW1.ctab.cell (i := p) (x := slV (L.bc p) cr.length (L.kc p)) (by simp [hp, hcr])
    simp only [id_eq] at d4
    unfold slV at d3 d4
    have d5 := (hW1.crow p cr hcr).cell hy
    have d6 := (hW1.crow p cr hcr).free k
    have hW2 := hW1.setCount hcr hkc (y + 1)
    have hG2 : Went N L W L (W1.setCell ⟨L.bc p, k, none⟩ (.int .i64 (y + 1))) := hG1.trans (Went.put (.inr (.inr (.inr (.inr (.inr (.inr (.inl ⟨p, hp, rfl⟩))))))))
    obtain ⟨W2, e2⟩ : ∃ W2, W1.setCell ⟨L.bc p, k, none⟩ (.int .i64 (y + 1)) = W2 := ⟨_, rfl⟩
    rw [e2] at hW2 hG2
    obtain ⟨s, hs, hgs, s0, s1⟩ := HI.out.state hp
    obtain ⟨pr, rw_, r, q1, q2, q3, q4, q5, q6, q7, q8⟩ := HX.out.rule (p := p) (k := k) (s := s) (by rw [← HN.out]; exact hp) s0 s1 (by have := HL.out; omega)
    obtain ⟨sn, rfl⟩ := Int.eq_ofNat_of_zero_le s0
    simp only [Int.toNat_natCast] at q3
    have hP2 : SliceR prcR 3 (Lt B) W2 oP x.procs := HP.out.keep prcR_ok fun q hq hql => (HH.out.went_below hG2 hB).block q hq
    have hS0 : Hid ({ S with wt := bump S.wt p k (-1), ct := bump S.ct p k 1, st := S.st.set p r.next } = { S with wt := S.wt.set p (row.set k (v - 1)), ct := S.ct.set p (cr.set k (y + 1)), st := S.st.set p r.next }) := by
      show _ = _
      unfold bump
      rw [HG.out, hgc, getD_some hv, getD_some hy]
      rfl
    have HRI : Hid (WInv N (lettersP x.procs) (statesP x.procs) X M K A (T + 1) [] { S with wt := S.wt.set p (row.set k (v - 1)), ct := S.ct.set p (cr.set k (y + 1)), st := S.st.set p r.next }) := by
      have := HI.out.readIn (HN.out ▸ HX.out.ok) hp hls
      rw [hgs, show nextP x.procs p (sn : Int) k = r.next from by unfold nextP; rw [q5], hS0.out] at this
      exact this
    have HRS : Hid (readS N (nextP x.procs) (sentP x.procs) p S = r.sent.foldl (fun w o => putS N p (pairO o) w) { S with wt := S.wt.set p (row.set k (v - 1)), ct := S.ct.set p (cr.set k (y + 1)), st := S.st.set p r.next }) := by
      show _ = _
      unfold readS
      rw [hls]
      simp only
      rw [hgs, show nextP x.procs p (sn : Int) k = r.next from by unfold nextP; rw [q5], hS0.out, show sentP x.procs p (sn : Int) k = r.sent.map pairO from by unfold sentP; rw [q5], List.foldl_map]
    obtain ⟨pr', b1, off1, oa1, cc1, z1, rfl, z2, z3, z4, z5, z6, z7, z8, z9, z10⟩ := hP2.prc_of (i := p) (by rw [← HN.out]; exact hp)
    rw [q1] at z1
    injection z1 with z1
    subst z1
    have hsl2 : sn < pr.rules.length := (List.getElem?_eq_some_iff.1 q3).1
    obtain ⟨row2, _, y1, b2, off2, oa2, cc2, rfl, y2, y3, y4, y5, y6⟩ := z10.slc_at hsl2
    rw [q3] at y1
    injection y1 with y1
    subst y1
    have hkl2 : k < rw_.length := (List.getElem?_eq_some_iff.1 q4).1
    obtain ⟨nx, st, _, x1, x2, b3, off3, oa3, cc3, rfl, x3, x4, x5, x6, x7, x8⟩ := y6.rule_at hkl2
    rw [q4] at x1
    injection x1 with x1
    subst x1
    simp only at q6 q7 q8 HRI HRS hS0
    obtain ⟨g0, g1, _, _, _, _, _, _, _, _⟩ := hW2.cells
    have g2 := hW2.sts.cell hs
    have g3 := hW2.sts.free p
    unfold slV at g1
    have l0 := World.block_lt_of_cell? _ _ g0
    have l1 := World.block_lt_of_cell? _ _ g1
    have l2 := World.block_lt_of_cell? _ _ g2
    have l3 := World.block_lt_of_cell? _ _ z5
    have l4 := World.block_lt_of_cell? _ _ y3
    have l5 := World.block_lt_of_cell? _ _ x4
    simp only at l0 l1 l2 l3 l4 l5
    have HW2 := hide hW2
    have HG2 := hide hG2
    have HST := hide x8
    have HQ8 := hide q8
    have hcl : pr.rules.length ≤ 16 := by
      have := check_zero (HX.out.proc p pr q1)
      omega
    have kd : decide ((k : Int) < 0) = false := by simp
    clear hlc hW1 hG1 hW2 hG2 x8 q8 hy hcr hgc hgs q1 q2 q3 q4 q5 hP2 z10 y6 hv hls hS0
    go_enter Try.func121, Try.ntmps121
    go_wp2_with (go_at_call 112; refine (idxPos row _ _ All _ HSL.out (by omega)).mono ?_; rintro e w2 ⟨rfl, rfl⟩; rw [HK.out]; simp only [idxI])
    go_region
    obtain ⟨W3, e3⟩ : ∃ W3, (W2.alloc (.cells #[.int .i64 nx, .slice oa3 st.length cc3] 115)).drew = W3 := ⟨_, rfl⟩
    have bb3 : Below W2.heap.size W2 W3 := by rw [← e3]; exact (bnew (Below.refl _ _) _).drew
    have bx3 : Box W3 W2.heap.size [.int .i64 nx, .slice oa3 st.length cc3] 115 := by rw [← e3]; exact (Box.new W2 [.int .i64 nx, .slice oa3 st.length cc3] 115).draw
    have hW3 := HW2.out.below bb3
    have hG3 := HG2.out.trans (Went.of_below bb3)
    obtain ⟨_, i1, _, _, _, _, _, _, _, _⟩ := hW3.cells
    have i2 := hW3.sts.free p
    have i3 := bx3.cell 0
    have i4 := hW3.sts.cell (i := p) (x := (sn : Int)) (by assumption)
    simp only [List.getElem?_cons_zero, List.getElem?_cons_succ] at i3
    unfold slV at i1
    have hW4 := (hW3.setState hp nx).draw
    have hG4 : Went N L W L (W3.setCell ⟨L.gs, p, none⟩ (.int .i64 nx)).drew := (hG3.trans (Went.put (.inr (.inl rfl)))).trans (Went.drew 1)
    have hb4 : Box (W3.setCell ⟨L.gs, p, none⟩ (.int .i64 nx)).drew W2.heap.size [.int .i64 nx, .slice oa3 st.length cc3] 115 := (bx3.other (p := ⟨L.gs, p, none⟩) (fun e => by have := HW2.out.mine_lt (.inr (.inl rfl)); simp only at e; omega) _).draw
    have HW4 := hide hW4
    have HG4 := hide hG4
    have HB4 := hide hb4
    clear hW3 hG3 hW4 hG4 hb4 bx3 bb3 g0 g1 g2 g3 l0 l1 l2 l3 l4 l5 z2 z3 z4 z5 y3 x3 x4
    rw [e3]
    go_wp2_with fail
    go_region
    obtain ⟨W4, e4⟩ : ∃ W4, (W3.setCell ⟨L.gs, p, none⟩ (.int .i64 nx)).drew = W4 := ⟨_, rfl⟩
    rw [e4] at HW4 HG4 HB4
    obtain ⟨S0, hS0⟩ : ∃ S0 : Wr, { S with wt := S.wt.set p (row.set k (v - 1)), ct := S.ct.set p (cr.set k (y + 1)), st := S.st.set p nx } = S0 := ⟨_, rfl⟩
    have HW5 : Hid (Wires B N L (some ⟨b1, off1, none⟩) cP oF nF cF S0 W4) := by show Wires _ _ _ _ _ _ _ _ _ _; rw [← hS0]; exact HW4.out
    rw [hS0] at HRI HRS
    have c5 := HB4.out.cell 1
    simp only [List.getElem?_cons_zero, List.getElem?_cons_succ] at c5
    clear HW4 HW2 hS0 i1 i2 i3 i4 hs d3 d4 d5 d6 r0 rf c2 t0
    rw [e4]
    go_wp2_with fail
    go_loopw [79] (fun iv wr => ∃ (i : Nat) (L3 : WLay) (S3 : Wr), i ≤ st.length ∧ iv = .int .i64 i ∧ Hid (S3 = (st.take i).foldl (fun w o => putS N p (pairO o) w) S0) ∧ Hid (Wires B N L3 (some ⟨b1, off1, none⟩) cP oF nF cF S3 wr) ∧ Hid (Went N L W L3 wr) ∧ Hid (WInv N (lettersP x.procs) (statesP x.procs) X (M + i) K A (T + 1 + i) [] S3)) (fun iv _ => st.length - (intOf iv).toNat)
    case atStart => exact ⟨0, L, S0, by omega, rfl, rfl, HW5, HG4, HRI.out.mono (by simp) (Int.le_refl _) (Int.le_refl _) (by simp) (Int.le_refl _) (by simpa using hmx)⟩
    case round =>
      obtain ⟨i, L3, S3, hi, rfl, HS3, HW6, HG6, HI6⟩ := hrel
      by_cases hlt : i < st.length
      · have hst : SliceR outR 2 (Lt B) wr oa3 st := HST.out.keep outR_ok fun q hq hql => ((HH.out.went_below HG6.out hB).block q hq).trans ((HH.out.went_below HG2.out hB).block q hq).symm
        obtain ⟨tt, le, hd, hxo, it, il, b, off, rfl, hbF, oc0, oc1⟩ := hst.out_at hlt
        obtain ⟨⟨m1, m2⟩, m3, m4⟩ := HQ8.out _ (List.mem_of_getElem? hxo)
        simp only at m1 m2 m3 m4
        obtain ⟨tn, rfl⟩ := Int.eq_ofNat_of_zero_le m1
        obtain ⟨ln, rfl⟩ := Int.eq_ofNat_of_zero_le m3
        simp only [Int.toNat_natCast] at m4
        obtain ⟨W1', hW1'⟩ : ∃ W1', wr.alloc (.cells #[.int .i64 tn, .int .i64 ln] 80) = W1' := ⟨_, rfl⟩
        have bx : Box W1' wr.heap.size [.int .i64 tn, .int .i64 ln] 80 := by rw [← hW1']; exact Box.new wr [.int .i64 tn, .int .i64 ln] 80
        have bb := bnew (Below.refl wr.heap.size wr) (.cells #[.int .i64 tn, .int .i64 ln] 80)
        rw [hW1'] at bb
        have k0 := bx.cell 0
        have k1 := bx.cell 1
        simp only [List.getElem?_cons_zero, List.getElem?_cons_succ] at k0 k1
        have hmi := HI6.out.mx
        have HFT : Hid ((st.take (i + 1)).foldl (fun w o => putS N p (pairO o) w) S0 = putS N p ((tn : Int), (ln : Int)) S3) := by
          show _ = _
          rw [List.take_add_one, hxo, List.foldl_append, HS3.out]
          rfl
        have HIN : Hid (WInv N (lettersP x.procs) (statesP x.procs) X (M + (i + 1 : Nat)) K A (T + 1 + (i + 1 : Nat)) [] (putS N p ((tn : Int), (ln : Int)) S3)) := by
          have := HI6.out.put hp (x := ((tn : Int), (ln : Int))) ⟨by simp, by have := HN.out; simp only; omega⟩ ⟨by simp, by simp only [Int.toNat_natCast]; omega⟩ (by omega)
          have e1 : M + ((i + 1 : Nat) : Int) = M + i + 1 := by push_cast; omega
          have e2 : T + 1 + ((i + 1 : Nat) : Int) = T + 1 + i + 1 := by push_cast; omega
          rw [e1, e2]
          exact this
        have HWa := hide (HW6.out.below bb)
        have HGa := hide (HG6.out.trans (Went.of_below bb))
        have HBa : Hid (B ≤ W1'.heap.size) := by show _ ≤ _; have := HGa.out.size; omega
        have HBX := hide bx
        have hln8 : ln < 8 := by have := (HX.out.letters tn (by omega)).2; omega
        have htn12 : tn < N := by have := HN.out; omega
        by_cases hq : tn = p
        · subst hq
          obtain ⟨row3, hr3, hg3, hl3⟩ := HI6.out.wrow hp
          have hk3 : ln < row3.length := by omega
          have hx3 := List.getElem?_eq_getElem hk3
          have hb3 := HI6.out.wb _ row3 hr3 ln _ hx3
          have hlc3 := Lc_nonneg ([] ++ S3.fl)
          have hcall := wait_any (HWa.out) hr3 hx3 (by omega) (by omega) (by have := (HX.out.letters tn (by omega)).2; omega)
          rw [HG6.out.p] at hcall
          have HC := hide hcall
          have HPE : Hid (putS N tn ((tn : Int), (ln : Int)) S3 = waitS tn ln S3) := by show _ = _; unfold putS; simp
          have q1 : (((tn : Nat) : Int) == ((tn : Nat) : Int)) = true := by simp
          clear hcall hb3 hlc3 hx3 hk3 hl3 hg3 hr3 hst hd hxo bx bb m4
          go_wp2_with (go_at_call 140; refine HC.out.mono ?_; rintro e w4 ⟨rfl, h4, g4⟩; have HW7 := hide h4; have HG7 := hide g4; clear h4 g4)
          have HGN := hide (HGa.out.trans HG7.out)
          go_roundw
          case rel => exact ⟨i + 1, L3, _, by omega, by go_num, by show _ = _; rw [HFT.out, HPE.out], HW7, HGN, by rw [← HPE.out]; exact HIN⟩
          case measure => simp [intOf]; omega
        · have q1 : (((tn : Nat) : Int) == ((p : Nat) : Int)) = false := by simp; omega
          have hpN : p * N ≤ 144 := Nat.le_trans (Nat.mul_le_mul (show p ≤ 12 by omega) (show N ≤ 12 by omega)) (by omega)
          have hjN : p * N + tn < N * N := by
            have := Nat.mul_le_mul_right N (show p + 1 ≤ N by omega)
            rw [Nat.succ_mul] at this
            omega
          obtain ⟨pN, hpe⟩ : ∃ pN, pN = p * N := ⟨_, rfl⟩
          obtain ⟨j, hj⟩ : ∃ j, j = pN + tn := ⟨_, rfl⟩
          have hw1 : IntKind.i64.wrap ((p : Int) * (N : Int)) = (pN : Int) := by
            rw [← Int.natCast_mul, ← hpe]
            unfold IntKind.wrap; simp [IntKind.signed, IntKind.bits]; omega
          have hw2 : IntKind.i64.wrap ((pN : Int) + (tn : Int)) = (j : Int) := by
            rw [hj]
            unfold IntKind.wrap; simp [IntKind.signed, IntKind.bits]; omega
          rw [← hpe] at hjN hpN
          rw [← hj] at hjN
          obtain ⟨j0, _, _, _, j4, _, _, _, _, _⟩ := HWa.out.cells
          have lt := HWa.out.ltab.cell (i := j) (x := Value.pointer (some ⟨L3.bl j, 0, none⟩)) (by simp [hjN])
          simp only [id_eq] at lt
          unfold slV at j4
          rw [HG6.out.p] at j0 j4
          have HJ : Hid (j = p * N + tn) := by show _ = _; rw [hj, hpe]
          clear hst hd hxo bx bb m4 hj hpe
          go_wp2_with fail
          go_quiet (fail)
          obtain ⟨W5, hW5⟩ : ∃ W5, W1'.drewN nq = W5 := ⟨_, rfl⟩
          have HWb : Hid (Wires B N L3 (some ⟨b1, off1, none⟩) cP oF nF cF S3 W5) := by show Wires _ _ _ _ _ _ _ _ _ _; rw [← hW5]; exact HWa.out.drewN nq
          have HGb : Hid (Went N L W L3 W5) := by show Went _ _ _ _ _; rw [← hW5]; exact HGa.out.trans (Went.drew nq)
          have hbx5 : Box W5 wr.heap.size [.int .i64 tn, .int .i64 ln] 80 := by rw [← hW5]; exact HBX.out
          have HB5 : Hid (B ≤ W5.heap.size) := by show _ ≤ _; rw [← hW5]; exact HBa.out
          rw [hW5]
          obtain ⟨l, hl, hgl⟩ := HI6.out.line hjN
          obtain ⟨lb1, lb2, lb3, lb4⟩ := HI6.out.lb j l hl
          have hql : l.q.length ≤ 999999999 := by
            have : l.tot = l.rm + l.q.length := rfl
            omega
          have hlin := HWb.out.lin j l hl
          have hlet := HWb.out.lett j l hl
          obtain ⟨oq, cq, hfv⟩ := hlet.form
          have p0 := hlin.cell 0
          have pf := hlin.free 0
          simp only [lnC, List.getElem?_cons_zero] at p0
          rw [hfv] at p0
          have k5 := hbx5.cell 1
          simp only [List.getElem?_cons_zero, List.getElem?_cons_succ] at k5
          have p0n := cell_next p0 (.cells #[.int .i64 (ln : Int)] 3)
          have HFV := hide hfv
          have HLE := hide hlet
          have HLI := hide hlin
          have HNE : Hid (some (L3.bl j) ≠ (L3.lv j).ownBlock) := fun e => by
            obtain ⟨cur, hcur⟩ := ownN_heap HLE.out e.symm
            exact ne_type HLI.out hcur (by decide) rfl
          have HLS := hide hl
          have HGL := hide hgl
          clear hfv hlet hlin hl hgl lb1 lb2 lb3 lb4 hbx5 hW5 k0 k1 j0 j4 lt hw1 hw2
          go_wp2_with fail
          go_region_law (refine step_append_n rfl (.tmp 114) (.tmp 117) 22 rfl B 3 _ Try.underlying22 intInfoW rfl (L3.lv j) l.q (by simp [Act.eval, Act.put, HFV.out]) ((HLE.out.new _).draw) ⟨_, 0, none⟩ 1 (ln : Int) (by simp [Act.eval, Act.put]) (one_cellW rfl) (by constructor <;> omega) (by omega) (by have := HB5.out; simp; omega) ?_; intro v' w3 ho hb hg hat; have hbm := ((HLI.out.next _).draw).grown hg HNE.out; have k6 := hbm.cell 0; have kf := hbm.free 0; obtain ⟨o3, c3, rfl⟩ := ho.form; simp only [lnC, List.getElem?_cons_zero] at k6)
          all_goals
            have hpf := HWb.out.pushQ HLS.out ho (fun k hk hne => (hg.block k (by show k < (W5.alloc _).heap.size; simp; omega) hne).trans (Below.heap_alloc W5 _ k hk)) (((bnew (Below.refl _ _) _).drew.mono HB5.out).trans hb) (fun k hk => (hat k hk).imp id fun e => Nat.le_trans (by show W5.heap.size ≤ (W5.alloc _).heap.size; simp) e)
            simp only [List.length_append, List.length_cons, List.length_nil, Nat.zero_add] at hpf
            have HPE : Hid (putS N p ((tn : Int), (ln : Int)) S3 = { S3 with ls := S3.ls.set j { l with q := l.q ++ [(ln : Int)] } }) := by
              show _ = _
              unfold putS
              rw [if_neg (by simp; omega)]
              simp only [Int.toNat_natCast]
              rw [← HJ.out, HGL.out]
            have HX7 := hide hpf.1
            have HY7 := hide (HGb.out.trans hpf.2)
            clear hpf ho hg hb hat hbm k6 kf p0 p0n pf
            go_wp2_with fail
            go_roundw
            case rel => exact ⟨i + 1, _, _, by clear HX7 HY7 HIN; omega, by go_num, by show _ = _; rw [HFT.out, HPE.out], HX7, HY7, by rw [← HPE.out]; exact HIN⟩
            case measure => simp [intOf]; omega
      · have htk : st.take i = st := List.take_of_length_le (by omega)
        go_wp2_with fail
        go_end0
        refine ⟨rfl, L3, ?_, HG6.out⟩
        rw [HRS.out, ← htk, ← HS3.out]
        exact HW6.out
end

end Go.Proofs.Ytmjcjmljnliaoaa

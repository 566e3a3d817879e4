/-
  The wire machine: After and Run.
  From the reading of a network, of a snapshot, of a byte, to what they stand for.
  The reference of networks: understood, waits.
  The walks of the reference of layer 54: rule, Check.
  The walk of the reference of layer 54: Check.
  The reference of networks: Check.
  A slice that the call has just made, and that holds nothing yet.
  The order of outputs, and sorting: plain Lean.
  The closures that compare outputs.
  A row of outputs that is sorted in place: the insertion sort.
  Reading a word: the program and the reference.
  slices.Clone of outputs; sorting a small list.
  sorted: a copy of a list of outputs, in order; here for lists of fewer than 20 elements, whose sort is one insertion sort.
  What the reference's Order comes to is the list in order.
  The reference's Order.
  Two lists of outputs, two lists of ints: SameOutputs, SameInts.
  slices.Equal of ints.
  slices.Equal of outputs and of ints.
  Slices that a literal lays.
  Unary, state: the program and the reference.
  Unary, state: the reference.
  letters: the program and the reference; Few.
  Run: the program and the reference.
  Step: the program and the reference.
  commute, Commuting.
  Abelian: the program and the reference.
  The reference of networks: Few, Small, Commutes.
  The reference of the wire machine: the check of the fates, quiet snapshots, few fates; tables that are the same.
  The guard of the statements on the wire: small.
  Two lists of ints, two tables: SameInts of chapter 08, SameTables of chapter 55.
-/
import Derived.Test.YtnigfddanoaonaaWa3
import Derived.Laws.ResultCell
import Derived.Deep.LoopGhost
import Derived.OpenShut
import Derived.Test.YtnigfddanoaonaaProg
import Derived.Deep.QuietTactic
import Derived.BigQuiet
import Derived.StillTailTactics
import Derived.Deep.RegionHeld3

set_option linter.unusedVariables false
set_option linter.unusedSimpArgs false
set_option linter.unnecessarySimpa false
namespace Go.Proofs.Ytnigfddanoaonaa
open Go.RowKit

/-- The machine behind some ticks. -/
def wireAt (x : Nwk) (fates : List Int) (t : Nat) : Wr := ticksS x.procs.length (nextP x.procs) (sentP x.procs) fates (beginS x.state x.waiting x.procs.length) t
theorem wireAt_tk (x : Nwk) (fates : List Int) (t : Nat) : (wireAt x fates t).tk = t := by
  unfold wireAt
  rw [ticksS_tk]
  simp [beginS]
theorem wireAt_inv {x : Nwk} (h : Right x) (fates : List Int) {t : Nat} (ht : t ≤ 4096) : WInv x.procs.length (lettersP x.procs) (statesP x.procs) 1000000000000 4000000 4000000 2000000 1000000 [] (wireAt x fates t) := by
  obtain ⟨n, hn⟩ : ∃ n, n = x.procs.length := ⟨_, rfl⟩
  have h1 := h.n.1
  have h12 := h.n.2
  have hb := h.begin_ (M := 1048576) (X := 1000000000000) (fun t ht k hk => (h.wb t ht k hk).2) (by omega)
  have hok := h.ok
  unfold wireAt
  rw [← hn] at h1 h12 hb hok ⊢
  have hnn : n * n ≤ 144 := Nat.le_trans (Nat.mul_le_mul h12 h12) (by omega)
  have e1 : t * (n * 16 + 2 * (n * n)) ≤ 4096 * 480 := Nat.mul_le_mul ht (by omega)
  have e2 : t * (6 * (n * n)) ≤ 4096 * 864 := Nat.mul_le_mul ht (by omega)
  have e3 : t * (3 * (n * n)) ≤ 4096 * 432 := Nat.mul_le_mul ht (by omega)
  have e4 : t * (n * (16 + 1)) ≤ 4096 * 204 := Nat.mul_le_mul ht (by omega)
  exact (hb.ticks hok fates (by omega) t (by omega)).mono (by omega) (by omega) (by omega) (by omega) (Int.le_refl _) (by omega)
theorem queuedS_le : ∀ (l : List Ln) (T : Nat), (∀ a ∈ l, a.q.length ≤ T) → queuedS l ≤ l.length * T
  | [], T, _ => by simp [queuedS]
  | a :: r, T, h => by
    have ih := queuedS_le r T fun b hb => h b (by simp [hb])
    have := h a (by simp)
    simp only [queuedS, List.length_cons, Nat.succ_mul]
    omega
theorem wireAt_queued {x : Nwk} (h : Right x) (fates : List Int) {t : Nat} (ht : t ≤ 4096) : queuedS (wireAt x fates t).ls ≤ 144000000 := by
  have hi := wireAt_inv h fates ht
  have h12 := h.n.2
  have h1 := queuedS_le (wireAt x fates t).ls 1000000 fun a ha => by
    obtain ⟨j, hj, rfl⟩ := List.mem_iff_getElem.1 ha
    have := (hi.lb j _ (List.getElem?_eq_getElem hj)).1
    unfold Ln.tot at this
    omega
  rw [hi.nls] at h1
  have hnn : x.procs.length * x.procs.length ≤ 144 := Nat.le_trans (Nat.mul_le_mul h12 h12) (by omega)
  have := Nat.mul_le_mul_right 1000000 hnn
  omega

/-- A snapshot in memory. -/
def SnapF (F : Foot) (w : World) (v : Value) (s : Snp) : Prop := ∃ oq cq os cs ow cw oc cc,
  v = .agg #[.slice oq s.net.procs.length cq, .slice os s.net.state.length cs, .slice ow s.net.waiting.length cw, .slice oc s.counts.length cc, .int .i64 s.ticks, .int .i64 s.sent, .int .i64 s.flying, .int .i64 s.queued] ∧
  s.net.procs.length ≤ cq ∧ s.net.state.length ≤ cs ∧ s.net.waiting.length ≤ cw ∧ s.counts.length ≤ cc ∧
  SliceR prcR 3 F w oq s.net.procs ∧ SliceR intR 1 F w os s.net.state ∧ SliceR (slcR intR 1) 1 F w ow s.net.waiting ∧ SliceR (slcR intR 1) 1 F w oc s.counts
abbrev SnapAt := SnapF All

section
variable {B N : Nat} {L : WLay} {oP : Option Addr} {cP : Nat} {oF : Option Addr} {nF cF : Nat} {S : Wr} {W W' : World}
theorem Wires.slices (h : Wires B N L oP cP oF nF cF S W) {wt ct : List (List Int)} (hc : Caps N wt ct L) (hwl : ∀ (i : Nat) (l l' : List Int), S.wt[i]? = some l → wt[i]? = some l' → l.length = l'.length) (hcl : ∀ (i : Nat) (l l' : List Int), S.ct[i]? = some l → ct[i]? = some l' → l.length = l'.length)
    (hnw : wt.length = N) (hnc : ct.length = N) (h1 : ∀ s ∈ S.st, I64 s) (h2 : ∀ l ∈ S.wt, l.length ≤ 9223372036854775807 ∧ ∀ k ∈ l, I64 k) (h3 : ∀ l ∈ S.ct, l.length ≤ 9223372036854775807 ∧ ∀ k ∈ l, I64 k) :
    SliceR intR 1 (fun k => B ≤ k) W (some ⟨L.gs, 0, none⟩) S.st ∧ SliceR (slcR intR 1) 1 (fun k => B ≤ k) W (some ⟨L.gw, 0, none⟩) S.wt ∧ SliceR (slcR intR 1) 1 (fun k => B ≤ k) W (some ⟨L.gc, 0, none⟩) S.ct := by
  refine ⟨h.sts.ints h1 h.low.2.1, fun i l hl => ?_, fun i l hl => ?_⟩
  · have hiN : i < N := by have := (List.getElem?_eq_some_iff.1 hl).1; have := h.nwt; omega
    have t0 := h.wtab.cell (i := i) (x := slV (L.bw i) l.length (L.kw i)) (by simp [hiN, hl])
    simp only [id_eq] at t0
    have hi2 := List.getElem?_eq_getElem (show i < wt.length by omega)
    refine ⟨L.gw, 0, [slV (L.bw i) l.length (L.kw i)], rfl, h.low.2.2.1, ⟨some ⟨L.bw i, 0, none⟩, L.kw i, rfl, ?_, (h2 l (List.mem_of_getElem? hl)).1, (h.wrow i l hl).ints (h2 l (List.mem_of_getElem? hl)).2 (h.lowi (.w i) _ hiN rfl)⟩, fun j u hu => ?_⟩
    · rw [hwl i l _ hl hi2]; exact hc.kw i _ hi2
    · have hj : j = 0 := by
        have := (List.getElem?_eq_some_iff.1 hu).1
        simp at this
        exact this
      subst hj
      simp at hu
      subst hu
      simpa using t0
  · have hiN : i < N := by have := (List.getElem?_eq_some_iff.1 hl).1; have := h.nct; omega
    have t0 := h.ctab.cell (i := i) (x := slV (L.bc i) l.length (L.kc i)) (by simp [hiN, hl])
    simp only [id_eq] at t0
    have hi2 := List.getElem?_eq_getElem (show i < ct.length by omega)
    refine ⟨L.gc, 0, [slV (L.bc i) l.length (L.kc i)], rfl, h.low.2.2.2.1, ⟨some ⟨L.bc i, 0, none⟩, L.kc i, rfl, ?_, (h3 l (List.mem_of_getElem? hl)).1, (h.crow i l hl).ints (h3 l (List.mem_of_getElem? hl)).2 (h.lowi (.c i) _ hiN rfl)⟩, fun j u hu => ?_⟩
    · rw [hcl i l _ hl hi2]; exact hc.kc i _ hi2
    · have hj : j = 0 := by
        have := (List.getElem?_eq_some_iff.1 hu).1
        simp at this
        exact this
      subst hj
      simp at hu
      subst hu
      simpa using t0
end

theorem wireAt_slices {x : Nwk} (hr : Right x) (fates : List Int) {t : Nat} (ht : t ≤ 4096) {B : Nat} {L : WLay} {oP : Option Addr} {cP : Nat} {oF : Option Addr} {nF cF : Nat} {W : World}
    (h : Wires B x.procs.length L oP cP oF nF cF (wireAt x fates t) W) (hc : Caps x.procs.length x.waiting (x.waiting.map fun l => List.replicate l.length 0) L) :
    SliceR intR 1 (fun k => B ≤ k) W (some ⟨L.gs, 0, none⟩) (wireAt x fates t).st ∧ SliceR (slcR intR 1) 1 (fun k => B ≤ k) W (some ⟨L.gw, 0, none⟩) (wireAt x fates t).wt ∧ SliceR (slcR intR 1) 1 (fun k => B ≤ k) W (some ⟨L.gc, 0, none⟩) (wireAt x fates t).ct := by
  have hi := wireAt_inv hr fates ht
  have hlen : ∀ (i : Nat) (l : List Int), x.waiting[i]? = some l → l.length = lettersP x.procs i := fun i l hl => by
    have hip : i < x.procs.length := by have := (List.getElem?_eq_some_iff.1 hl).1; have := hr.nwt; omega
    have hpr := List.getElem?_eq_getElem hip
    have := hr.wl i l _ hl hpr
    unfold lettersP
    rw [getD_some hpr]
    omega
  have hlet : ∀ (i : Nat), i < x.procs.length → lettersP x.procs i ≤ 8 := fun i hi => (hr.letters i hi).2
  refine h.slices hc (fun i l l' hl hl' => by rw [hi.wl i l hl, hlen i l' hl']) (fun i l l' hl hl' => ?_) hr.nwt (by rw [List.length_map]; exact hr.nwt) (fun s hs => ?_) (fun l hl => ?_) (fun l hl => ?_)
  · rw [List.getElem?_map, Option.map_eq_some_iff] at hl'
    obtain ⟨l2, h2, rfl⟩ := hl'
    rw [hi.cl i l hl, List.length_replicate, hlen i l2 h2]
  · obtain ⟨i, hil, rfl⟩ := List.mem_iff_getElem.1 hs
    have h1 := hi.st i _ (List.getElem?_eq_getElem hil)
    have hip : i < x.procs.length := by rw [← hi.nst]; exact hil
    have hz := check_zero (hr.proc i _ (List.getElem?_eq_getElem hip))
    unfold statesP at h1
    rw [getD_some (List.getElem?_eq_getElem hip)] at h1
    exact i64_of (by omega) (by omega)
  · obtain ⟨i, hil, rfl⟩ := List.mem_iff_getElem.1 hl
    have hip : i < x.procs.length := by rw [← hi.nwt]; exact hil
    refine ⟨by rw [hi.wl i _ (List.getElem?_eq_getElem hil)]; have := hlet i hip; omega, fun k hk => ?_⟩
    obtain ⟨j, hj, rfl⟩ := List.mem_iff_getElem.1 hk
    have := hi.wb i _ (List.getElem?_eq_getElem hil) j _ (List.getElem?_eq_getElem hj)
    have h2 := Lc_nonneg ([] ++ (wireAt x fates t).fl)
    exact i64_of (by omega) (by omega)
  · obtain ⟨i, hil, rfl⟩ := List.mem_iff_getElem.1 hl
    have hip : i < x.procs.length := by rw [← hi.nct]; exact hil
    refine ⟨by rw [hi.cl i _ (List.getElem?_eq_getElem hil)]; have := hlet i hip; omega, fun k hk => ?_⟩
    obtain ⟨j, hj, rfl⟩ := List.mem_iff_getElem.1 hk
    have := hi.cb i _ (List.getElem?_eq_getElem hil) j _ (List.getElem?_eq_getElem hj)
    exact i64_of (by omega) (by omega)

def snp0 : Snp := ⟨⟨[], [], []⟩, [], 0, 0, 0, 0⟩
def RunPost (F : Foot) (x : Nwk) (fates : List Int) (w : World) (v : Value) (c : Int) : Option Nat → Prop
  | some T => c = 0 ∧ SnapF F w v (seenS x.procs (wireAt x fates T))
  | none => c = 12 ∧ SnapF F w v snp0

set_option maxRecDepth 100000 in
set_option maxHeartbeats 4000000 in
theorem after_any (x : Nwk) (op : Option Addr) (cp : Nat) (os : Option Addr) (cs : Nat) (ow : Option Addr) (cw : Nat) (fates : List Int) (oF : Option Addr) (cF : Nat) (ticks : Nat) (F G : Foot) (w : World)
    (hp : SliceR prcR 3 F w op x.procs) (hs : SliceR intR 1 F w os x.state) (ht : SliceR (slcR intR 1) 1 F w ow x.waiting) (hz : netErr x = 0) (hF : SliceR intR 1 G w oF fates) (hfz : fateErr fates = 0) (hpc : x.procs.length ≤ cp) (hsc : x.state.length ≤ cs) (ht1 : ticks ≤ 4096)
    (hlg : ∀ t, t ≤ ticks → (wireAt x fates t).lg = false) :
    Calls Try.prog 18 #[.agg #[.slice op x.procs.length cp, .slice os x.state.length cs, .slice ow x.waiting.length cw], .slice oF fates.length cF, .int .i64 ticks] w fun e w' =>
      ∃ v, e = .returned (.tuple #[v, .int .i64 0]) ∧ SnapF (fun k => F k ∨ w.heap.size ≤ k) w' v (seenS x.procs (wireAt x fates ticks)) ∧ Below w.heap.size w w' := by
  have hr := netErr_zero hz
  have hfl : fates.length ≤ 4096 := by
    unfold fateErr at hfz
    split at hfz
    · cases hfz
    · omega
  obtain ⟨n, hn⟩ : ∃ n, n = x.procs.length := ⟨_, rfl⟩
  have hsn : x.state.length = n := by rw [hn]; exact hr.nst
  have htn : x.waiting.length = n := by rw [hn]; exact hr.nwt
  obtain ⟨W1, e1⟩ : ∃ W1, w.alloc (.cells #[.slice op n cp, .slice os n cs, .slice ow n cw] 26) = W1 := ⟨_, rfl⟩
  have bx1 : Box W1 w.heap.size [.slice op n cp, .slice os n cs, .slice ow n cw] 26 := by rw [← e1]; exact Box.new w [.slice op n cp, .slice os n cs, .slice ow n cw] 26
  have bb1 := bnew (Below.refl w.heap.size w) (.cells #[.slice op n cp, .slice os n cs, .slice ow n cw] 26)
  rw [e1] at bb1
  obtain ⟨W2, e2⟩ : ∃ W2, W1.alloc (.cells #[.slice none 0 0, .slice none 0 0, .slice none 0 0, .slice none 0 0, .int .i64 0, .int .i64 0, .int .i64 0, .int .i64 0] 33) = W2 := ⟨_, rfl⟩
  have bx2 : Box W2 W1.heap.size [.slice none 0 0, .slice none 0 0, .slice none 0 0, .slice none 0 0, .int .i64 0, .int .i64 0, .int .i64 0, .int .i64 0] 33 := by rw [← e2]; exact Box.new W1 [.slice none 0 0, .slice none 0 0, .slice none 0 0, .slice none 0 0, .int .i64 0, .int .i64 0, .int .i64 0, .int .i64 0] 33
  have bb2 := bnew (Below.refl W1.heap.size W1) (.cells #[.slice none 0 0, .slice none 0 0, .slice none 0 0, .slice none 0 0, .int .i64 0, .int .i64 0, .int .i64 0, .int .i64 0] 33)
  rw [e2] at bb2
  have hbB := bb1.trans (bb2.mono bb1.size)
  have x0 := (bx1.below bb2).cell 0
  have x1 := (bx1.below bb2).cell 1
  have x2 := (bx1.below bb2).cell 2
  simp only [List.getElem?_cons_zero, List.getElem?_cons_succ] at x0 x1 x2
  have hcall := begun_any x op cp os cs ow cw fates oF cF ticks F G W2 (hp.below prcR_ok hbB) (hs.below intR_ok hbB) (ht.below (slcR_ok intR_ok (by decide)) hbB) hz (hF.below intR_ok hbB) hfz hsc (by omega) (by omega)
  have HPB : Hid (SliceR prcR 3 (fun k => F k ∧ k < w.heap.size) W2 op x.procs) := (hp.wide prcR_ok (by decide) (fun _ h1 h => ⟨h1, h⟩)).keep prcR_ok (fun q hq hql => hbB.block q hql)
  have HFB : Hid (SliceR intR 1 (Lt W2.heap.size) W2 oF fates) := (hF.below intR_ok hbB).wide intR_ok (by decide) (fun _ _ h => h)
  rw [hsn, htn] at hcall
  rw [hsn, htn]
  rw [← hn] at hcall hpc ⊢
  obtain ⟨nF, hnF⟩ : ∃ nF, nF = fates.length := ⟨_, rfl⟩
  rw [← hnF] at hcall hfl ⊢
  have HC := hide hcall
  have HN := hide hn
  have HNF := hide hnF
  have HR := hide hr
  have HBX2 := hide bx2
  have HBB := hide hbB
  have HLG := hide hlg
  have HSN := hide hsn
  have HTN := hide htn
  have hlt1 : W1.heap.size < W2.heap.size := bx2.lt
  have hlw : w.heap.size ≤ W1.heap.size := bb1.size
  clear hcall hp hs ht hz hF hfz hsc hr hn hsn htn hnF bx1 bx2 bb1 bb2 hbB hlg
  go_enter Try.func18, Try.ntmps18
  go_wp2_with (go_at_call 23; refine HC.out.mono ?_; rintro e w3 ⟨L0, rfl, hW3, hC3, hB3⟩; have HW3 := hide hW3; have HC3 := hide hC3; have HB3 := hide hB3; clear hW3 hC3 hB3)
  go_loopw [22] (fun iv wr => ∃ (t : Nat) (L : WLay), t ≤ ticks ∧ iv = .int .i64 t ∧ Hid (Wires W2.heap.size n L op cp oF nF cF (wireAt x fates t) wr) ∧ Hid (Went n L0 w3 L wr)) (fun iv _ => ticks - (intOf iv).toNat)
  case atStart => exact ⟨0, L0, by omega, rfl, by show Wires _ _ _ _ _ _ _ _ _ _; unfold wireAt; rw [← HN.out]; exact HW3.out, Went.refl _ _ _⟩
  case round =>
    obtain ⟨t, L, htk, rfl, HW, HG⟩ := hrel
    have HBW : Hid (Below W2.heap.size W2 wr) := HB3.out.trans (HW3.out.went_below HG.out HB3.out.size)
    by_cases hlt : t < ticks
    · have hPr : SliceR prcR 3 (Lt W2.heap.size) wr op x.procs := (HPB.out.keep prcR_ok fun q hq hql => HBW.out.block q hql).wide prcR_ok (by decide) (fun k hk _ => Nat.lt_of_lt_of_le hk.2 (by omega))
      have hFr : SliceR intR 1 (Lt W2.heap.size) wr oF fates := HFB.out.keep intR_ok fun q hq hql => HBW.out.block q hq
      have hn12 : n ≤ 12 := by have := HR.out.n.2; have := HN.out; omega
      have hnn : n * n ≤ 144 := Nat.le_trans (Nat.mul_le_mul hn12 hn12) (by omega)
      have hinv := wireAt_inv HR.out fates (t := t) (by omega)
      rw [← HN.out] at hinv
      have hcall := tick_any HW.out HR.out HN.out hinv hPr HBW.out.size fates HNF.out hFr (by have := HNF.out; omega) (by omega) (by omega) (by omega) (by omega) (by omega) (by rw [wireAt_tk]; omega)
      rw [HG.out.p] at hcall
      have HCT := hide hcall
      have hst : wireAt x fates (t + 1) = tickS n (nextP x.procs) (sentP x.procs) fates (wireAt x fates t) := by rw [HN.out]; rfl
      rw [← hst] at HCT
      have HL1 : Hid ((wireAt x fates (t + 1)).lg = false) := HLG.out (t + 1) (by omega)
      clear hPr hFr hinv hcall hst
      go_wp2_with (go_at_call 25; refine HCT.out.mono ?_; rintro e w4 ⟨rfl, L4, h4, g4⟩; have c9 := h4.cells.2.2.2.2.2.2.2.2.2; rw [g4.p, HG.out.p, HL1.out] at c9; have HW4 := hide h4; have HG4 := hide (HG.out.trans g4); clear h4 g4)
      go_roundw
      case rel => exact ⟨t + 1, L4, by omega, by go_num, HW4, HG4⟩
      case measure => simp [intOf]; omega
    · have hte : t = ticks := by omega
      subst hte
      have hPr : SliceR prcR 3 (fun k => F k ∧ k < w.heap.size) wr op x.procs := HPB.out.keep prcR_ok fun q hq hql => HBW.out.block q hql
      have hcall := seen_any HW.out HR.out HN.out hPr (fun k hk => Nat.lt_of_lt_of_le hk.2 (by omega)) hpc (by have := wireAt_queued HR.out fates (t := t) (by omega); omega) HBW.out.size
      rw [HG.out.p] at hcall
      have hres := HBX2.out.keep (HBW.out.block _ hlt1)
      have HRES := hide hres
      obtain ⟨S, hS⟩ : ∃ S, S = wireAt x fates t := ⟨_, rfl⟩
      rw [← hS] at hcall HW
      have HSE := hide hS
      unfold slV at hcall
      obtain ⟨tkn, htkn⟩ : ∃ m, m = S.tk := ⟨_, rfl⟩
      obtain ⟨sen, hsen⟩ : ∃ m, m = S.se := ⟨_, rfl⟩
      obtain ⟨fln, hfln⟩ : ∃ m, m = S.fl.length := ⟨_, rfl⟩
      obtain ⟨qun, hqun⟩ : ∃ m, m = queuedS S.ls := ⟨_, rfl⟩
      rw [← htkn, ← hsen, ← hfln, ← hqun] at hcall
      have HCS := hide hcall
      have H4 := hide (And.intro htkn (And.intro hsen (And.intro hfln hqun)))
      clear hPr hcall hres hS htkn hsen hfln hqun
      go_wp2_with (go_at_call 26; refine HCS.out.mono ?_; rintro e w4 ⟨oQ, cQ, rfl, hcQ, hsQ, hb4⟩; have hres := HRES.out.below hb4; have r0 := hres.cell 0; have r1 := hres.cell 1; have r2 := hres.cell 2; have r3 := hres.cell 3; have r4 := hres.cell 4; have r5 := hres.cell 5; have r6 := hres.cell 6; have r7 := hres.cell 7; have rf := hres.free; simp only [List.getElem?_cons_zero, List.getElem?_cons_succ] at r0 r1 r2 r3 r4 r5 r6 r7; have HRS := hide hres; have HSQ := hide hsQ; have HB4 := hide hb4; clear hres hsQ hb4)
      have hfin := (((((((HRS.out.put 0 (.slice oQ n cQ)).put 1 (.slice (some ⟨L.gs, 0, none⟩) n L.cs)).put 2 (.slice (some ⟨L.gw, 0, none⟩) n L.cw)).put 3 (.slice (some ⟨L.gc, 0, none⟩) n L.cc)).put 4 (.int .i64 (tkn : Nat))).put 5 (.int .i64 (sen : Nat))).put 6 (.int .i64 (fln : Nat))).put 7 (.int .i64 (qun : Nat))
      simp only [List.set_cons_zero, List.set_cons_succ] at hfin
      obtain ⟨W5, e5⟩ : ∃ W5, (((((((w4.setCell ⟨W1.heap.size, 0, none⟩ (.slice oQ n cQ)).setCell ⟨W1.heap.size, 1, none⟩ (.slice (some ⟨L.gs, 0, none⟩) n L.cs)).setCell ⟨W1.heap.size, 2, none⟩ (.slice (some ⟨L.gw, 0, none⟩) n L.cw)).setCell ⟨W1.heap.size, 3, none⟩ (.slice (some ⟨L.gc, 0, none⟩) n L.cc)).setCell ⟨W1.heap.size, 4, none⟩ (.int .i64 (tkn : Nat))).setCell ⟨W1.heap.size, 5, none⟩ (.int .i64 (sen : Nat))).setCell ⟨W1.heap.size, 6, none⟩ (.int .i64 (fln : Nat))).setCell ⟨W1.heap.size, 7, none⟩ (.int .i64 (qun : Nat)) = W5 := ⟨_, rfl⟩
      rw [e5] at hfin
      have hk5 : ∀ k, k ≠ W1.heap.size → W5.heap[k]? = w4.heap[k]? := fun k hk => by
        rw [← e5]
        rw [Below.heap_setCell _ _ _ k hk, Below.heap_setCell _ _ _ k hk, Below.heap_setCell _ _ _ k hk, Below.heap_setCell _ _ _ k hk, Below.heap_setCell _ _ _ k hk, Below.heap_setCell _ _ _ k hk, Below.heap_setCell _ _ _ k hk, Below.heap_setCell _ _ _ k hk]
      have hszw := HBW.out.size
      have hB4 : Below w.heap.size w w4 := (HBB.out.trans (HBW.out.mono (by omega))).trans (HB4.out.mono (by omega))
      have hB5 : Below w.heap.size w W5 := by
        rw [← e5]
        exact (((((((hB4.setCell hlw _).setCell hlw _).setCell hlw _).setCell hlw _).setCell hlw _).setCell hlw _).setCell hlw _).setCell hlw _
      have hsQ5 : SliceR prcR 3 (fun k => F k ∨ w.heap.size ≤ k) W5 oQ x.procs := (HSQ.out.keep prcR_ok (w' := W5) fun k hk _ => hk5 k (by
        rcases hk with hk | hk
        · have : k < w.heap.size := hk.2; omega
        · omega)).wide prcR_ok (by decide) (fun k hk _ => hk.elim (fun h => .inl h.1) fun h => .inr (Nat.le_trans (by omega) h))
      have hcaps : Caps n x.waiting (x.waiting.map fun l => List.replicate l.length 0) L := by
        obtain ⟨a, b, e⟩ := HG.out.fix
        rw [e]
        exact ⟨HC3.out.cs, HC3.out.cw, HC3.out.cc, HC3.out.kw, HC3.out.kc⟩
      have hW := HW.out
      rw [HSE.out, HN.out] at hW
      rw [HN.out] at hcaps
      obtain ⟨s1, s2, s3⟩ := wireAt_slices HR.out fates (t := t) (by omega) hW hcaps
      have hfix : ∀ k, W2.heap.size ≤ k → k < wr.heap.size → W5.heap[k]? = wr.heap[k]? := fun k hk hkl => (hk5 k (by omega)).trans (HB4.out.block k hkl)
      have t1 := (s1.keep intR_ok (w' := W5) fun k hk hkl => hfix k hk hkl).wide intR_ok (by decide) (F' := fun k => F k ∨ w.heap.size ≤ k) (fun k hk _ => .inr (Nat.le_trans (by omega) hk))
      have t2 := (s2.keep (slcR_ok intR_ok (by decide)) (w' := W5) fun k hk hkl => hfix k hk hkl).wide (slcR_ok intR_ok (by decide)) (by decide) (F' := fun k => F k ∨ w.heap.size ≤ k) (fun k hk _ => .inr (Nat.le_trans (by omega) hk))
      have t3 := (s3.keep (slcR_ok intR_ok (by decide)) (w' := W5) fun k hk hkl => hfix k hk hkl).wide (slcR_ok intR_ok (by decide)) (by decide) (F' := fun k => F k ∨ w.heap.size ≤ k) (fun k hk _ => .inr (Nat.le_trans (by omega) hk))
      have hinv := wireAt_inv HR.out fates (t := t) (by omega)
      obtain ⟨g1, g2, g3, g4⟩ := H4.out
      rw [e5]
      refine bodyPost_ret (results_cell_tmp_row rfl _ _ W1.heap.size 33 _ (0, 0) _ rfl hfin Try.underlying33 rfl (by kernel_rfl)) rfl ?_
      refine ⟨_, rfl, ⟨oQ, cQ, some ⟨L.gs, 0, none⟩, L.cs, some ⟨L.gw, 0, none⟩, L.cw, some ⟨L.gc, 0, none⟩, L.cc, ?_, ?_, ?_, ?_, ?_, hsQ5, t1, t2, t3⟩, hB5⟩
      · unfold seenS
        simp only
        rw [hinv.nst, hinv.nwt, hinv.nct, ← HN.out, ← HSE.out, g1, g2, g3, g4]
      · unfold seenS; simp only; rw [← HN.out]; exact hcQ
      · unfold seenS; simp only; rw [hinv.nst]; exact hcaps.cs
      · unfold seenS; simp only; rw [hinv.nwt]; exact hcaps.cw
      · unfold seenS; simp only; rw [hinv.nct]; exact hcaps.cc

set_option maxRecDepth 100000 in
set_option maxHeartbeats 4000000 in
theorem wrun_any (x : Nwk) (op : Option Addr) (cp : Nat) (os : Option Addr) (cs : Nat) (ow : Option Addr) (cw : Nat) (fates : List Int) (oF : Option Addr) (cF : Nat) (limit : Nat) (F G : Foot) (w : World)
    (hp : SliceR prcR 3 F w op x.procs) (hs : SliceR intR 1 F w os x.state) (ht : SliceR (slcR intR 1) 1 F w ow x.waiting) (hz : netErr x = 0) (hF : SliceR intR 1 G w oF fates) (hfz : fateErr fates = 0) (hpc : x.procs.length ≤ cp) (hsc : x.state.length ≤ cs) (ht1 : limit ≤ 4096)
    (hlg : ∀ t, t ≤ limit → (wireAt x fates t).lg = false) :
    Calls Try.prog 7 #[.agg #[.slice op x.procs.length cp, .slice os x.state.length cs, .slice ow x.waiting.length cw], .slice oF fates.length cF, .int .i64 limit] w fun e w' =>
      ∃ v c, e = .returned (.tuple #[v, .int .i64 c]) ∧ RunPost (fun k => F k ∨ w.heap.size ≤ k) x fates w' v c (quietAt x.procs.length (nextP x.procs) (sentP x.procs) fates (beginS x.state x.waiting x.procs.length) limit) ∧ Below w.heap.size w w' := by
  obtain ⟨qa, hqa⟩ : ∃ qa, qa = quietAt x.procs.length (nextP x.procs) (sentP x.procs) fates (beginS x.state x.waiting x.procs.length) limit := ⟨_, rfl⟩
  have HQA := hide hqa
  rw [← hqa]
  clear hqa
  have hr := netErr_zero hz
  have hfl : fates.length ≤ 4096 := by
    unfold fateErr at hfz
    split at hfz
    · cases hfz
    · omega
  obtain ⟨n, hn⟩ : ∃ n, n = x.procs.length := ⟨_, rfl⟩
  have hsn : x.state.length = n := by rw [hn]; exact hr.nst
  have htn : x.waiting.length = n := by rw [hn]; exact hr.nwt
  obtain ⟨W1, e1⟩ : ∃ W1, w.alloc (.cells #[.slice op n cp, .slice os n cs, .slice ow n cw] 26) = W1 := ⟨_, rfl⟩
  have bx1 : Box W1 w.heap.size [.slice op n cp, .slice os n cs, .slice ow n cw] 26 := by rw [← e1]; exact Box.new w [.slice op n cp, .slice os n cs, .slice ow n cw] 26
  have bb1 := bnew (Below.refl w.heap.size w) (.cells #[.slice op n cp, .slice os n cs, .slice ow n cw] 26)
  rw [e1] at bb1
  obtain ⟨W2, e2⟩ : ∃ W2, W1.alloc (.cells #[.slice none 0 0, .slice none 0 0, .slice none 0 0, .slice none 0 0, .int .i64 0, .int .i64 0, .int .i64 0, .int .i64 0] 33) = W2 := ⟨_, rfl⟩
  have bx2 : Box W2 W1.heap.size [.slice none 0 0, .slice none 0 0, .slice none 0 0, .slice none 0 0, .int .i64 0, .int .i64 0, .int .i64 0, .int .i64 0] 33 := by rw [← e2]; exact Box.new W1 [.slice none 0 0, .slice none 0 0, .slice none 0 0, .slice none 0 0, .int .i64 0, .int .i64 0, .int .i64 0, .int .i64 0] 33
  have bb2 := bnew (Below.refl W1.heap.size W1) (.cells #[.slice none 0 0, .slice none 0 0, .slice none 0 0, .slice none 0 0, .int .i64 0, .int .i64 0, .int .i64 0, .int .i64 0] 33)
  rw [e2] at bb2
  have hbB := bb1.trans (bb2.mono bb1.size)
  have x0 := (bx1.below bb2).cell 0
  have x1 := (bx1.below bb2).cell 1
  have x2 := (bx1.below bb2).cell 2
  simp only [List.getElem?_cons_zero, List.getElem?_cons_succ] at x0 x1 x2
  have hcall := begun_any x op cp os cs ow cw fates oF cF limit F G W2 (hp.below prcR_ok hbB) (hs.below intR_ok hbB) (ht.below (slcR_ok intR_ok (by decide)) hbB) hz (hF.below intR_ok hbB) hfz hsc (by omega) (by omega)
  have HPB : Hid (SliceR prcR 3 (fun k => F k ∧ k < w.heap.size) W2 op x.procs) := (hp.wide prcR_ok (by decide) (fun _ h1 h => ⟨h1, h⟩)).keep prcR_ok (fun q hq hql => hbB.block q hql)
  have HFB : Hid (SliceR intR 1 (Lt W2.heap.size) W2 oF fates) := (hF.below intR_ok hbB).wide intR_ok (by decide) (fun _ _ h => h)
  rw [hsn, htn] at hcall
  rw [hsn, htn]
  rw [← hn] at hcall hpc ⊢
  obtain ⟨nF, hnF⟩ : ∃ nF, nF = fates.length := ⟨_, rfl⟩
  rw [← hnF] at hcall hfl ⊢
  have HC := hide hcall
  have HN := hide hn
  have HNF := hide hnF
  have HR := hide hr
  have HBX2 := hide bx2
  have HBB := hide hbB
  have HLG := hide hlg
  have HSN := hide hsn
  have HTN := hide htn
  have hlt1 : W1.heap.size < W2.heap.size := bx2.lt
  have hlw : w.heap.size ≤ W1.heap.size := bb1.size
  clear hcall hp hs ht hz hF hfz hsc hr hn hsn htn hnF bx1 bx2 bb1 bb2 hbB hlg
  go_enter Try.func7, Try.ntmps7
  go_wp2_with (go_at_call 23; refine HC.out.mono ?_; rintro e w3 ⟨L0, rfl, hW3, hC3, hB3⟩; have HW3 := hide hW3; have HC3 := hide hC3; have HB3 := hide hB3; clear hW3 hC3 hB3)
  go_loopg [] limit (fun k wr => ∃ (t : Nat) (L : WLay), t ≤ limit ∧ k = limit - t ∧ Hid (Wires W2.heap.size n L op cp oF nF cF (wireAt x fates t) wr) ∧ Hid (Went n L0 w3 L wr) ∧ Hid (∀ j, j < t → busyS (wireAt x fates j) = true))
  case atStart => exact ⟨0, L0, by omega, by omega, by show Wires _ _ _ _ _ _ _ _ _ _; unfold wireAt; rw [← HN.out]; exact HW3.out, Went.refl _ _ _, fun j hj => absurd hj (Nat.not_lt_zero j)⟩
  case round =>
    obtain ⟨t, L, htk, hkt, HW, HG, HBU⟩ := hrel
    have HBW : Hid (Below W2.heap.size W2 wr) := HB3.out.trans (HW3.out.went_below HG.out HB3.out.size)
    have hinv := wireAt_inv HR.out fates (t := t) (by omega)
    have HIV := hide hinv
    have HNL : Hid (∀ (p : Nat) (row : List Int), (wireAt x fates t).wt[p]? = some row → row.length ≤ 9223372036854775807 ∧ ∀ y ∈ row, I64 y) := fun p row hrw => by
      have hpn : p < x.procs.length := by have := (List.getElem?_eq_some_iff.1 hrw).1; have := HIV.out.nwt; omega
      refine ⟨by rw [HIV.out.wl p row hrw]; have := (HR.out.letters p hpn).2; omega, fun y hy => ?_⟩
      obtain ⟨j, hj, rfl⟩ := List.mem_iff_getElem.1 hy
      have h1 := HIV.out.wb p row hrw j _ (List.getElem?_eq_getElem hj)
      have h2 := Lc_nonneg ([] ++ (wireAt x fates t).fl)
      exact i64_of (by omega) (by omega)
    have hn12 : n ≤ 12 := by have := HR.out.n.2; have := HN.out; omega
    have hbcall := busy_any HW.out hn12 HNL.out
    rw [HG.out.p] at hbcall
    have d7 := HW.out.cells.2.2.2.2.2.2.2.1
    rw [HG.out.p, wireAt_tk] at d7
    obtain ⟨bu, hbu⟩ : ∃ b, b = busyS (wireAt x fates t) := ⟨_, rfl⟩
    rw [← hbu] at hbcall
    have HBC := hide hbcall
    have HBE := hide hbu
    clear hinv hbcall hbu
    cases bu
    case true =>
      by_cases hlt : t < limit
      · have hPr : SliceR prcR 3 (Lt W2.heap.size) wr op x.procs := (HPB.out.keep prcR_ok fun q hq hql => HBW.out.block q hql).wide prcR_ok (by decide) (fun k hk _ => Nat.lt_of_lt_of_le hk.2 (by omega))
        have hFr : SliceR intR 1 (Lt W2.heap.size) wr oF fates := HFB.out.keep intR_ok fun q hq hql => HBW.out.block q hq
        have hn12 : n ≤ 12 := by have := HR.out.n.2; have := HN.out; omega
        have hnn : n * n ≤ 144 := Nat.le_trans (Nat.mul_le_mul hn12 hn12) (by omega)
        have hinv := wireAt_inv HR.out fates (t := t) (by omega)
        rw [← HN.out] at hinv
        have hcall := tick_any HW.out HR.out HN.out hinv hPr HBW.out.size fates HNF.out hFr (by have := HNF.out; omega) (by omega) (by omega) (by omega) (by omega) (by omega) (by rw [wireAt_tk]; omega)
        rw [HG.out.p] at hcall
        have HCT := hide hcall
        have hst : wireAt x fates (t + 1) = tickS n (nextP x.procs) (sentP x.procs) fates (wireAt x fates t) := by rw [HN.out]; rfl
        rw [← hst] at HCT
        have HL1 : Hid ((wireAt x fates (t + 1)).lg = false) := HLG.out (t + 1) (by omega)
        have q1 : (((t : Nat) : Int) == ((limit : Nat) : Int)) = false := by simp; omega
        have HKT := hide hkt
        clear hPr hFr hinv hcall hst hkt
        go_wp2_with (first | (go_at_call 24; refine HBC.out.mono ?_; rintro e w4' ⟨rfl, rfl⟩) | (go_at_call 25; refine HCT.out.mono ?_; rintro e w4 ⟨rfl, L4, h4, g4⟩; have c9 := h4.cells.2.2.2.2.2.2.2.2.2; rw [g4.p, HG.out.p, HL1.out] at c9; have HW4 := hide h4; have HG4 := hide (HG.out.trans g4); clear h4 g4))
        go_roundg (limit - (t + 1))
        case measure => have := HKT.out; omega
        case rel => exact ⟨t + 1, L4, by omega, rfl, HW4, HG4, fun j hj => by
          rcases Nat.lt_or_ge j t with h | h
          · exact HBU.out j h
          · rw [show j = t by omega]; exact HBE.out.symm⟩
      · have hte : t = limit := by omega
        subst hte
        have HQN : Hid (qa = none) := by
          show _ = _
          rw [HQA.out]
          exact quietAt_none fun j hj => by
            rcases Nat.lt_or_ge j t with h | h
            · exact HBU.out j h
            · rw [show j = t by omega]; exact HBE.out.symm
        have hres := HBX2.out.keep (HBW.out.block _ hlt1)
        have r0 := hres.cell 0
        have r1 := hres.cell 1
        have r2 := hres.cell 2
        have r3 := hres.cell 3
        have r4 := hres.cell 4
        have r5 := hres.cell 5
        have r6 := hres.cell 6
        have r7 := hres.cell 7
        have rf := hres.free
        simp only [List.getElem?_cons_zero, List.getElem?_cons_succ] at r0 r1 r2 r3 r4 r5 r6 r7
        have HRS := hide hres
        have q1 : (((t : Nat) : Int) == ((t : Nat) : Int)) = true := by simp
        clear hres hkt
        go_wp2_with (go_at_call 24; refine HBC.out.mono ?_; rintro e w4' ⟨rfl, rfl⟩)
        have hfin := (((((((HRS.out.put 0 (.slice none 0 0)).put 1 (.slice none 0 0)).put 2 (.slice none 0 0)).put 3 (.slice none 0 0)).put 4 (.int .i64 0)).put 5 (.int .i64 0)).put 6 (.int .i64 0)).put 7 (.int .i64 0)
        simp only [List.set_cons_zero, List.set_cons_succ] at hfin
        obtain ⟨W5, e5⟩ : ∃ W5, (((((((wr.setCell ⟨W1.heap.size, 0, none⟩ (.slice none 0 0)).setCell ⟨W1.heap.size, 1, none⟩ (.slice none 0 0)).setCell ⟨W1.heap.size, 2, none⟩ (.slice none 0 0)).setCell ⟨W1.heap.size, 3, none⟩ (.slice none 0 0)).setCell ⟨W1.heap.size, 4, none⟩ (.int .i64 0)).setCell ⟨W1.heap.size, 5, none⟩ (.int .i64 0)).setCell ⟨W1.heap.size, 6, none⟩ (.int .i64 0)).setCell ⟨W1.heap.size, 7, none⟩ (.int .i64 0) = W5 := ⟨_, rfl⟩
        rw [e5] at hfin
        have hB4 : Below w.heap.size w wr := HBB.out.trans (HBW.out.mono (by omega))
        have hB5 : Below w.heap.size w W5 := by
          rw [← e5]
          exact (((((((hB4.setCell hlw _).setCell hlw _).setCell hlw _).setCell hlw _).setCell hlw _).setCell hlw _).setCell hlw _).setCell hlw _
        rw [e5]
        refine bodyPost_ret (results_cell_tmp_row rfl _ _ W1.heap.size 33 _ (0, 0) _ rfl hfin Try.underlying33 rfl (by kernel_rfl)) rfl ?_
        refine ⟨_, 12, rfl, ?_, hB5⟩
        rw [HQN.out]
        exact ⟨rfl, none, 0, none, 0, none, 0, none, 0, rfl, by simp [snp0], by simp [snp0], by simp [snp0], by simp [snp0], SliceR.nil _ _ _ _ _, SliceR.nil _ _ _ _ _, SliceR.nil _ _ _ _ _, SliceR.nil _ _ _ _ _⟩
    case false =>
      have hPr : SliceR prcR 3 (fun k => F k ∧ k < w.heap.size) wr op x.procs := HPB.out.keep prcR_ok fun q hq hql => HBW.out.block q hql
      have hcall := seen_any HW.out HR.out HN.out hPr (fun k hk => Nat.lt_of_lt_of_le hk.2 (by omega)) hpc (by have := wireAt_queued HR.out fates (t := t) (by omega); omega) HBW.out.size
      rw [HG.out.p] at hcall
      have hres := HBX2.out.keep (HBW.out.block _ hlt1)
      have HRES := hide hres
      obtain ⟨S, hS⟩ : ∃ S, S = wireAt x fates t := ⟨_, rfl⟩
      rw [← hS] at hcall HW
      have HSE := hide hS
      unfold slV at hcall
      obtain ⟨tkn, htkn⟩ : ∃ m, m = S.tk := ⟨_, rfl⟩
      obtain ⟨sen, hsen⟩ : ∃ m, m = S.se := ⟨_, rfl⟩
      obtain ⟨fln, hfln⟩ : ∃ m, m = S.fl.length := ⟨_, rfl⟩
      obtain ⟨qun, hqun⟩ : ∃ m, m = queuedS S.ls := ⟨_, rfl⟩
      rw [← htkn, ← hsen, ← hfln, ← hqun] at hcall
      have HCS := hide hcall
      have H4 := hide (And.intro htkn (And.intro hsen (And.intro hfln hqun)))
      have HQS : Hid (qa = some t) := by
        show _ = _
        rw [HQA.out]
        exact quietAt_some htk HBE.out.symm HBU.out
      clear hkt hPr hcall hres hS htkn hsen hfln hqun
      go_wp2_with (first | (go_at_call 24; refine HBC.out.mono ?_; rintro e w4' ⟨rfl, rfl⟩) | (go_at_call 26; refine HCS.out.mono ?_; rintro e w4 ⟨oQ, cQ, rfl, hcQ, hsQ, hb4⟩; have hres := HRES.out.below hb4; have r0 := hres.cell 0; have r1 := hres.cell 1; have r2 := hres.cell 2; have r3 := hres.cell 3; have r4 := hres.cell 4; have r5 := hres.cell 5; have r6 := hres.cell 6; have r7 := hres.cell 7; have rf := hres.free; simp only [List.getElem?_cons_zero, List.getElem?_cons_succ] at r0 r1 r2 r3 r4 r5 r6 r7; have HRS := hide hres; have HSQ := hide hsQ; have HB4 := hide hb4; clear hres hsQ hb4))
      have hfin := (((((((HRS.out.put 0 (.slice oQ n cQ)).put 1 (.slice (some ⟨L.gs, 0, none⟩) n L.cs)).put 2 (.slice (some ⟨L.gw, 0, none⟩) n L.cw)).put 3 (.slice (some ⟨L.gc, 0, none⟩) n L.cc)).put 4 (.int .i64 (tkn : Nat))).put 5 (.int .i64 (sen : Nat))).put 6 (.int .i64 (fln : Nat))).put 7 (.int .i64 (qun : Nat))
      simp only [List.set_cons_zero, List.set_cons_succ] at hfin
      obtain ⟨W5, e5⟩ : ∃ W5, (((((((w4.setCell ⟨W1.heap.size, 0, none⟩ (.slice oQ n cQ)).setCell ⟨W1.heap.size, 1, none⟩ (.slice (some ⟨L.gs, 0, none⟩) n L.cs)).setCell ⟨W1.heap.size, 2, none⟩ (.slice (some ⟨L.gw, 0, none⟩) n L.cw)).setCell ⟨W1.heap.size, 3, none⟩ (.slice (some ⟨L.gc, 0, none⟩) n L.cc)).setCell ⟨W1.heap.size, 4, none⟩ (.int .i64 (tkn : Nat))).setCell ⟨W1.heap.size, 5, none⟩ (.int .i64 (sen : Nat))).setCell ⟨W1.heap.size, 6, none⟩ (.int .i64 (fln : Nat))).setCell ⟨W1.heap.size, 7, none⟩ (.int .i64 (qun : Nat)) = W5 := ⟨_, rfl⟩
      rw [e5] at hfin
      have hk5 : ∀ k, k ≠ W1.heap.size → W5.heap[k]? = w4.heap[k]? := fun k hk => by
        rw [← e5]
        rw [Below.heap_setCell _ _ _ k hk, Below.heap_setCell _ _ _ k hk, Below.heap_setCell _ _ _ k hk, Below.heap_setCell _ _ _ k hk, Below.heap_setCell _ _ _ k hk, Below.heap_setCell _ _ _ k hk, Below.heap_setCell _ _ _ k hk, Below.heap_setCell _ _ _ k hk]
      have hszw := HBW.out.size
      have hB4 : Below w.heap.size w w4 := (HBB.out.trans (HBW.out.mono (by omega))).trans (HB4.out.mono (by omega))
      have hB5 : Below w.heap.size w W5 := by
        rw [← e5]
        exact (((((((hB4.setCell hlw _).setCell hlw _).setCell hlw _).setCell hlw _).setCell hlw _).setCell hlw _).setCell hlw _).setCell hlw _
      have hsQ5 : SliceR prcR 3 (fun k => F k ∨ w.heap.size ≤ k) W5 oQ x.procs := (HSQ.out.keep prcR_ok (w' := W5) fun k hk _ => hk5 k (by
        rcases hk with hk | hk
        · have : k < w.heap.size := hk.2; omega
        · omega)).wide prcR_ok (by decide) (fun k hk _ => hk.elim (fun h => .inl h.1) fun h => .inr (Nat.le_trans (by omega) h))
      have hcaps : Caps n x.waiting (x.waiting.map fun l => List.replicate l.length 0) L := by
        obtain ⟨a, b, e⟩ := HG.out.fix
        rw [e]
        exact ⟨HC3.out.cs, HC3.out.cw, HC3.out.cc, HC3.out.kw, HC3.out.kc⟩
      have hW := HW.out
      rw [HSE.out, HN.out] at hW
      rw [HN.out] at hcaps
      obtain ⟨s1, s2, s3⟩ := wireAt_slices HR.out fates (t := t) (by omega) hW hcaps
      have hfix : ∀ k, W2.heap.size ≤ k → k < wr.heap.size → W5.heap[k]? = wr.heap[k]? := fun k hk hkl => (hk5 k (by omega)).trans (HB4.out.block k hkl)
      have t1 := (s1.keep intR_ok (w' := W5) fun k hk hkl => hfix k hk hkl).wide intR_ok (by decide) (F' := fun k => F k ∨ w.heap.size ≤ k) (fun k hk _ => .inr (Nat.le_trans (by omega) hk))
      have t2 := (s2.keep (slcR_ok intR_ok (by decide)) (w' := W5) fun k hk hkl => hfix k hk hkl).wide (slcR_ok intR_ok (by decide)) (by decide) (F' := fun k => F k ∨ w.heap.size ≤ k) (fun k hk _ => .inr (Nat.le_trans (by omega) hk))
      have t3 := (s3.keep (slcR_ok intR_ok (by decide)) (w' := W5) fun k hk hkl => hfix k hk hkl).wide (slcR_ok intR_ok (by decide)) (by decide) (F' := fun k => F k ∨ w.heap.size ≤ k) (fun k hk _ => .inr (Nat.le_trans (by omega) hk))
      have hinv := wireAt_inv HR.out fates (t := t) (by omega)
      obtain ⟨g1, g2, g3, g4⟩ := H4.out
      rw [e5]
      refine bodyPost_ret (results_cell_tmp_row rfl _ _ W1.heap.size 33 _ (0, 0) _ rfl hfin Try.underlying33 rfl (by kernel_rfl)) rfl ?_
      refine ⟨_, 0, rfl, ?_, hB5⟩
      rw [HQS.out]
      refine ⟨rfl, ⟨oQ, cQ, some ⟨L.gs, 0, none⟩, L.cs, some ⟨L.gw, 0, none⟩, L.cw, some ⟨L.gc, 0, none⟩, L.cc, ?_, ?_, ?_, ?_, ?_, hsQ5, t1, t2, t3⟩⟩
      · unfold seenS
        simp only
        rw [hinv.nst, hinv.nwt, hinv.nct, ← HN.out, ← HSE.out, g1, g2, g3, g4]
      · unfold seenS; simp only; rw [← HN.out]; exact hcQ
      · unfold seenS; simp only; rw [hinv.nst]; exact hcaps.cs
      · unfold seenS; simp only; rw [hinv.nwt]; exact hcaps.cw
      · unfold seenS; simp only; rw [hinv.nct]; exact hcaps.cc

end Go.Proofs.Ytnigfddanoaonaa

set_option linter.unusedVariables false
namespace Go.Proofs.Ytnigfddanoaonaa
open Go.RowKit Go.ChangeShapes Go.WideShapes Go.ChangeAt Go.Deep

section
variable {H : Type} {enc : TypeId × Value → H} {P : Program} {w : World} {base : Nat} {spare : Nat → Bool} {held : Bool}
end

section
variable {H : Type} {enc : TypeId × Value → H} {w : World} {base : Nat} {spare : Nat → Bool} {held : Bool}
theorem reads_prcs : ReadsAs enc Try.prog w base spare held 22 (slcR prcR 3) := ReadsAs.slice prcR_ok (by omega) Try.underlying22 (by kernel_rfl) reads_prc
theorem reads_table : ReadsAs enc Try.prog w base spare held 24 (slcR (slcR intR 1) 1) := ReadsAs.slice (slcR_ok intR_ok (by omega)) (by omega) Try.underlying24 (by kernel_rfl) reads_ints

/-- A network that a statement is given. -/
structure NetIn (w : World) (ps : List Prc) (st : List Int) (wt : List (List Int)) (oa : Option Addr) (c : Nat) (ob : Option Addr) (e : Nat) (oc : Option Addr) (g : Nat) : Prop where
  pc : ps.length ≤ c
  sc : st.length ≤ e
  wc : wt.length ≤ g
  pl : ps.length ≤ 9223372036854775807
  sl : st.length ≤ 9223372036854775807
  wl : wt.length ≤ 9223372036854775807
  p : SliceR prcR 3 All w oa ps
  s : SliceR intR 1 All w ob st
  t : SliceR (slcR intR 1) 1 All w oc wt

theorem net_cells {fuel : Nat} {cs : List Value} {x : DataW H × List MemPlace} (hf : DataW.trod enc Try.prog w base spare held fuel 26 cs = some x) :
    ∃ ps st wt oa c ob e oc g, cs = [.slice oa (List.length ps) c, .slice ob (List.length st) e, .slice oc (List.length wt) g] ∧ NetIn w ps st wt oa c ob e oc g := by
  obtain ⟨c0, c1, c2, n, y0, y1, y2, rfl, h0, h1, h2⟩ := part3 Try.underlying26 rfl rfl rfl (by kernel_rfl) (by kernel_rfl) (by kernel_rfl) (by kernel_rfl) hf
  obtain ⟨ps, oa, c, a1, a2, a3, a4⟩ := reads_prcs _ _ _ h0
  obtain ⟨st, ob, e, b1, b2, b3, b4⟩ := reads_ints _ _ _ h1
  obtain ⟨wt, oc, g, d1, d2, d3, d4⟩ := reads_table _ _ _ h2
  simp at a1 b1 d1
  subst a1 b1 d1
  exact ⟨ps, st, wt, oa, c, ob, e, oc, g, rfl, ⟨a2, b2, d2, a3, b3, d3, a4, b4, d4⟩⟩
set_option maxRecDepth 100000 in
theorem open_net {r : Reach} {b0 : Nat} {v : Value} {d : DataW H} {p : List MemPlace} (hv : Value.okWide Try.prog w r b0 26 v) (h : DataW.Trod enc Try.prog w base spare held 26 v d p) :
    ∃ ps st wt oa c ob e oc g, v = .agg #[.slice oa (List.length ps) c, .slice ob (List.length st) e, .slice oc (List.length wt) g] ∧ NetIn w ps st wt oa c ob e oc g := by
  obtain ⟨l, fuel, rfl, hf⟩ := agg_cells Try.underlying26 hv h
  obtain ⟨ps, st, wt, oa, c, ob, e, oc, g, rfl, hn⟩ := net_cells hf
  exact ⟨ps, st, wt, oa, c, ob, e, oc, g, rfl, hn⟩
end

end Go.Proofs.Ytnigfddanoaonaa

set_option linter.unusedVariables false
set_option linter.unusedSimpArgs false
namespace Go.Proofs.Ytnigfddanoaonaa
open Go.RowKit

set_option maxRecDepth 100000 in
set_option maxHeartbeats 2000000 in
theorem runderstood_any (procs : List Prc) (op : Option Addr) (cp : Nat) (os : Option Addr) (ns cs : Nat) (ow : Option Addr) (nw cw : Nat) (S Le : Int) (rs : List (List Rul)) (oa : Option Addr) (c : Nat) (F G : Foot) (w : World)
    (hp : SliceR prcR 3 F w op procs) (hp2 : procs.length ≤ 12) (hs : SliceR (slcR ruleR 2) 1 G w oa rs) (hc : rs.length ≤ c) (hc2 : rs.length ≤ 9223372036854775807) (hv : checkErr ⟨S, Le, rs⟩ procs.length = 0) :
    Calls Try.prog 32 #[.agg #[.slice op procs.length cp, .slice os ns cs, .slice ow nw cw], .agg #[.int .i64 S, .int .i64 Le, .slice oa rs.length c]] w fun e w' => e = .returned (.bool (rowsOk procs rs)) ∧ Below w.heap.size w w' := by
  have HV := hide hv
  have HP := hide hp
  have HS := hide hs
  have hz := check_zero hv
  obtain rfl : (rs.length : Int) = S := hz.2.2.2.1
  obtain ⟨L, rfl⟩ := Int.eq_ofNat_of_zero_le (show (0 : Int) ≤ Le by have := hz.2.2.1.1; simp only at this; omega)
  have h16 : rs.length ≤ 16 := by have := hz.2.1.2; simp only at this; omega
  have h8 : L ≤ 8 := by have := hz.2.2.1.2; simp only at this; omega
  clear hv hp hs hz
  obtain ⟨W1, e1⟩ : ∃ W1, w.alloc (.cells #[.slice op procs.length cp, .slice os ns cs, .slice ow nw cw] 26) = W1 := ⟨_, rfl⟩
  have bx1 : Box W1 w.heap.size [.slice op procs.length cp, .slice os ns cs, .slice ow nw cw] 26 := by rw [← e1]; exact Box.new w [.slice op procs.length cp, .slice os ns cs, .slice ow nw cw] 26
  have bb1 := bnew (Below.refl w.heap.size w) (.cells #[.slice op procs.length cp, .slice os ns cs, .slice ow nw cw] 26)
  rw [e1] at bb1
  obtain ⟨W2, e2⟩ : ∃ W2, W1.alloc (.cells #[.int .i64 rs.length, .int .i64 L, .slice oa rs.length c] 53) = W2 := ⟨_, rfl⟩
  have bx2 : Box W2 W1.heap.size [.int .i64 rs.length, .int .i64 L, .slice oa rs.length c] 53 := by rw [← e2]; exact Box.new W1 [.int .i64 rs.length, .int .i64 L, .slice oa rs.length c] 53
  have bb2 := bnew (Below.refl W1.heap.size W1) (.cells #[.int .i64 rs.length, .int .i64 L, .slice oa rs.length c] 53)
  rw [e2] at bb2
  have HX1 := hide (bx1.below bb2)
  have HX2 := hide bx2
  have HB := hide (bb1.trans (bb2.mono bb1.size))
  clear bx1 bx2 bb1 bb2
  go_enter Try.func32, Try.ntmps32
  go_wp2_with fail
  go_loopw [5] (fun iv wr => ∃ i : Nat, i ≤ rs.length ∧ iv = .int .i64 i ∧ Hid (rowsOk procs rs = rowsOk procs (rs.drop i)) ∧ Hid (Below W2.heap.size W2 wr)) (fun iv _ => rs.length - (intOf iv).toNat)
  case atStart => exact ⟨0, by omega, rfl, rfl, Below.refl _ _⟩
  case round =>
    obtain ⟨i, hi, rfl, HE, HBi⟩ := hrel
    have c0 := (HX2.out.below HBi.out).cell 0
    simp only [List.getElem?_cons_zero] at c0
    by_cases hlt : i < rs.length
    · obtain ⟨row, hd, hrow, b2, off2, oa3, c3, rfl, _, c4, hcl, hcl2, hsr⟩ := (((HS.out.below rowR_ok HB.out).below rowR_ok HBi.out).slc_at hlt)
      have hrl : row.length = L := by have := valid_row HV.out hrow; simp only at this; omega
      have HRW := hide hrow
      have HD : Hid (rowsOk procs (rs.drop i) = if rulesOk procs row = true then rowsOk procs (rs.drop (i + 1)) else false) := by show _ = _; rw [hd]; rfl
      have HSR := hide hsr
      rw [hrl] at c4
      have HRL := hide hrl
      clear hd hrow hsr hcl hcl2 hrl
      go_wp2_with fail
      go_loopw [6] (fun iv wr2 => ∃ j : Nat, j ≤ L ∧ iv = .int .i64 j ∧ Hid (rulesOk procs row = rulesOk procs (row.drop j)) ∧ Hid (Below wr.heap.size wr wr2)) (fun iv _ => L - (intOf iv).toNat)
      case atStart => exact ⟨0, by omega, rfl, rfl, Below.refl _ _⟩
      case round =>
        obtain ⟨j, hj, rfl, HE2, HBj⟩ := hrel
        have HB2 : Hid (Below W2.heap.size W2 wr) := HBi.out.trans (HBj.out.mono HBi.out.size)
        have c1 := (HX2.out.below HB2.out).cell 1
        have c2 := (HX2.out.below HB2.out).cell 2
        simp only [List.getElem?_cons_zero, List.getElem?_cons_succ] at c1 c2
        have c4 := (HBj.out.cell (World.block_lt_of_cell? _ _ c4)).trans c4
        by_cases hlj : j < L
        · obtain ⟨nx, st, hd, hru, _, b4, off4, oa5, c5, rfl, _, c40, c41, hl2, hl22, hss⟩ := (HSR.out.below ruleR_ok HBj.out).rule_at (i := j) (by have := HRL.out; omega)
          have hvr := (valid_rule HV.out HRW.out hru).2.2
          have HVR := hide hvr
          have HD2 : Hid (rulesOk procs (row.drop j) = if outsOk procs st = true then rulesOk procs (row.drop (j + 1)) else false) := by show _ = _; rw [hd]; rfl
          have HSS := hide hss
          clear hd hru hvr hss
          go_wp2_with fail
          go_loopw [8] (fun iv wr3 => ∃ k : Nat, k ≤ st.length ∧ iv = .int .i64 k ∧ Hid (outsOk procs st = outsOk procs (st.drop k)) ∧ Hid (Below wr.heap.size wr wr3)) (fun iv _ => st.length - (intOf iv).toNat)
          case atStart => exact ⟨0, by omega, rfl, rfl, Below.refl _ _⟩
          case round =>
            obtain ⟨k, hk, rfl, HE3, HBk⟩ := hrel
            have HBW : Hid (Below W2.heap.size W2 wr) := HB2.out.trans (HBk.out.mono HB2.out.size)
            by_cases hlk : k < st.length
            · obtain ⟨tt, le, hd, hxo, it, il, b6, off6, rfl, _, oc0, oc1⟩ := (HSS.out.below outR_ok HBk.out).out_at hlk
              obtain ⟨⟨m1, m2⟩, m3, m4⟩ := HVR.out _ (List.mem_of_getElem? hxo)
              simp only at m1 m2 m3 m4
              obtain ⟨tn, rfl⟩ := Int.eq_ofNat_of_zero_le m1
              have htn : tn < procs.length := by omega
              have x0 := (HX1.out.below HBW.out).cell 0
              simp only [List.getElem?_cons_zero, List.getElem?_cons_succ] at x0
              obtain ⟨S5, Le5, rs5, b7, off7, oa7, c7, _, hpr, rfl, _, _, y1, _, _, il5, _, _, _⟩ := ((HP.out.below prcR_ok HB.out).below prcR_ok HBW.out).prc_at htn
              have hD3 : outsOk procs (st.drop k) = if le < Le5 then outsOk procs (st.drop (k + 1)) else false := by
                rw [hd]
                show (if le < (procs.getD ((tn : Int)).toNat prc0).letters then _ else _) = _
                rw [Int.toNat_natCast, List.getD_eq_getElem?_getD, hpr]
                rfl
              have HD3 := hide hD3
              clear hd hxo hpr hD3
              by_cases hle : le < Le5
              · have q1 : decide (Le5 ≤ le) = false := by simp; omega
                go_wp2_with fail
                go_quiet (fail)
                go_wp2_with fail
                go_roundw
                case rel => exact ⟨k + 1, by omega, by go_num, by show _ = _; rw [HE3.out, HD3.out, if_pos hle], below_drewN HBk.out _⟩
                case measure => simp [intOf]; omega
              · have q1 : decide (Le5 ≤ le) = true := by simp; omega
                have hF : rowsOk procs rs = false := by
                  rw [HE.out, HD.out, HE2.out, HD2.out, HE3.out, HD3.out, if_neg hle]
                  rfl
                have HF := hide hF
                clear hF
                go_wp2_with fail
                go_quiet (fail)
                go_wp2_with fail
                go_ret
                exact ⟨ret_bool (by rw [HF.out]), HB.out.trans ((below_drewN HBW.out _).mono HB.out.size)⟩
            · have HT : Hid (outsOk procs st = true) := by show _ = _; rw [HE3.out, List.drop_eq_nil_of_le (by omega)]; rfl
              go_wp2_with fail
              go_roundw
              case rel => exact ⟨j + 1, by omega, by go_num, by show _ = _; rw [HE2.out, HD2.out, if_pos HT.out], HBj.out.trans (HBk.out.mono HBj.out.size)⟩
              case measure => simp [intOf]; omega
        · have HT : Hid (rulesOk procs row = true) := by show _ = _; rw [HE2.out, List.drop_eq_nil_of_le (by have := HRL.out; omega)]; rfl
          go_wp2_with fail
          go_roundw
          case rel => exact ⟨i + 1, by omega, by go_num, by show _ = _; rw [HE.out, HD.out, if_pos HT.out], HBi.out.trans (HBj.out.mono HBi.out.size)⟩
          case measure => simp [intOf]; omega
    · go_wp2_with fail
      go_ret
      exact ⟨ret_bool (by rw [HE.out, List.drop_eq_nil_of_le (by omega)]; rfl), HB.out.trans (HBi.out.mono HB.out.size)⟩

set_option maxRecDepth 100000 in
set_option maxHeartbeats 2000000 in
theorem rwaits_any (procs : List Prc) (op : Option Addr) (cp : Nat) (os : Option Addr) (ns cs : Nat) (st : List Int) (t : List (List Int)) (ot : Option Addr) (ct : Nat) (F G : Foot) (w : World)
    (hp : SliceR prcR 3 F w op procs) (hp2 : procs.length ≤ 9223372036854775807) (ht : SliceR (slcR intR 1) 1 G w ot t) (ht2 : t.length ≤ 9223372036854775807) :
    Calls Try.prog 33 #[.agg #[.slice op procs.length cp, .slice os ns cs, .slice ot t.length ct]] w fun e w' => e = .returned (.int .i64 (waitsErr ⟨procs, st, t⟩)) ∧ Below w.heap.size w w' := by
  have HP := hide hp
  have HS := hide ht
  clear hp ht
  obtain ⟨W1, e1⟩ : ∃ W1, w.alloc (.cells #[.slice op procs.length cp, .slice os ns cs, .slice ot t.length ct] 26) = W1 := ⟨_, rfl⟩
  have bx1 : Box W1 w.heap.size [.slice op procs.length cp, .slice os ns cs, .slice ot t.length ct] 26 := by rw [← e1]; exact Box.new w [.slice op procs.length cp, .slice os ns cs, .slice ot t.length ct] 26
  have bb1 := bnew (Below.refl w.heap.size w) (.cells #[.slice op procs.length cp, .slice os ns cs, .slice ot t.length ct] 26)
  rw [e1] at bb1
  have c0 := bx1.cell 0
  have c2 := bx1.cell 2
  simp only [List.getElem?_cons_zero, List.getElem?_cons_succ] at c0 c2
  have HB := hide bb1
  have HX := hide bx1
  clear bx1 bb1
  obtain ⟨tl, htl⟩ : ∃ tl, tl = t.length := ⟨_, rfl⟩
  obtain ⟨n, hn⟩ : ∃ n, n = procs.length := ⟨_, rfl⟩
  have HTL := hide htl
  have HN := hide hn
  by_cases hl : t.length = procs.length
  case neg =>
    have HR : Hid (waitsErr ⟨procs, st, t⟩ = 8) := by
      show _ = _
      have h8 : shapedErr procs t = 8 := if_neg hl
      unfold waitsErr
      rw [show shapedErr (Nwk.mk procs st t).procs (Nwk.mk procs st t).waiting = 8 from h8]
      rfl
    rw [← htl, ← hn] at hl
    rw [← htl] at c2 e1 ht2 ⊢
    rw [← hn] at c0 e1 hp2 ⊢
    have q0 : (((tl : Nat) : Int) != ((n : Nat) : Int)) = true := by simp; omega
    clear hl htl hn
    go_enter Try.func33, Try.ntmps33
    go_wp2_with fail
    go_ret
    exact ⟨ret_int (by rw [HR.out]), HB.out⟩
  have HSH : Hid (shapedErr procs t = shapesErr t procs) := if_pos hl
  rw [← htl, ← hn] at hl
  have q0 : (((tl : Nat) : Int) != ((n : Nat) : Int)) = false := by simp [hl]
  have HL := hide hl
  rw [← htl] at c2 e1 ht2 HX ⊢
  rw [← hn] at c0 e1 hp2 HX ⊢
  clear hl htl hn
  go_enter Try.func33, Try.ntmps33
  go_wp2_with fail
  go_loopw [3] (fun iv wr => ∃ i : Nat, i ≤ tl ∧ iv = .int .i64 i ∧ Hid (shapesErr t procs = shapesErr (t.drop i) (procs.drop i)) ∧ Hid (Below W1.heap.size W1 wr)) (fun iv _ => tl - (intOf iv).toNat)
  case atStart => exact ⟨0, by omega, rfl, rfl, Below.refl _ _⟩
  case round =>
    obtain ⟨i, hi, rfl, HE, HBi⟩ := hrel
    have c0 := (HX.out.below HBi.out).cell 0
    have c2 := (HX.out.below HBi.out).cell 2
    simp only [List.getElem?_cons_zero, List.getElem?_cons_succ] at c0 c2
    by_cases hlt : i < tl
    · obtain ⟨l, hd, hxl, b2, off2, oa3, c3, rfl, _, c4, hcl, hcl2, _⟩ := ((HS.out.below (slcR_ok intR_ok (by decide)) HB.out).below (slcR_ok intR_ok (by decide)) HBi.out).slc_at (i := i) (by have := HTL.out; omega)
      have hip : i < n := by have := HL.out; omega
      obtain ⟨S5, Le5, rs5, b7, off7, oa7, c7, hd7, _, rfl, _, _, y1, _, _, il5, _, _, _⟩ := ((HP.out.below prcR_ok HB.out).below prcR_ok HBi.out).prc_at (i := i) (by have := HN.out; omega)
      have HD : Hid (shapesErr (t.drop i) (procs.drop i) = if (l.length : Int) = Le5 then shapesErr (t.drop (i + 1)) (procs.drop (i + 1)) else 8) := by show _ = _; rw [hd, hd7]; rfl
      obtain ⟨ll, hll⟩ : ∃ ll, ll = l.length := ⟨_, rfl⟩
      rw [← hll] at c4 HD hcl2
      clear hd hd7 hxl hll hcl
      by_cases he : (ll : Int) = Le5
      · have q1 : (((ll : Nat) : Int) != Le5) = false := by simp [he]
        have HD2 : Hid (shapesErr (t.drop i) (procs.drop i) = shapesErr (t.drop (i + 1)) (procs.drop (i + 1))) := by show _ = _; rw [HD.out, if_pos he]
        clear he
        go_wp2_with fail
        go_quiet (fail)
        go_wp2_with fail
        go_roundw
        case rel => exact ⟨i + 1, by omega, by go_num, by show _ = _; rw [HE.out, HD2.out], below_drewN HBi.out _⟩
        case measure => simp [intOf]; omega
      · have q1 : (((ll : Nat) : Int) != Le5) = true := by simp [he]
        have HR : Hid (waitsErr ⟨procs, st, t⟩ = 8) := by
          show _ = _
          have h8 : shapedErr procs t = 8 := by rw [HSH.out, HE.out, HD.out, if_neg he]
          unfold waitsErr
          rw [show shapedErr (Nwk.mk procs st t).procs (Nwk.mk procs st t).waiting = 8 from h8]
          rfl
        clear he
        go_wp2_with fail
        go_quiet (fail)
        go_wp2_with fail
        go_ret
        exact ⟨ret_int (by rw [HR.out]), HB.out.trans ((below_drewN HBi.out _).mono HB.out.size)⟩
    · have HRE : Hid (waitsErr ⟨procs, st, t⟩ = tableErr t) := by
        show _ = _
        have h0 : shapedErr procs t = 0 := by
          rw [HSH.out, HE.out, List.drop_eq_nil_of_le (show t.length ≤ i by have := HTL.out; omega)]
          rfl
        unfold waitsErr
        exact if_pos h0
      clear HSH HE
      have HT5 := hide ((HS.out.below (slcR_ok intR_ok (by decide)) HB.out).below (slcR_ok intR_ok (by decide)) HBi.out)
      go_wp2_with fail
      go_loopw [4] (fun iv wr2 => wr2 = wr ∧ ∃ i : Nat, i ≤ tl ∧ iv = .int .i64 i ∧ Hid (tableErr t = tableErr (t.drop i))) (fun iv _ => tl - (intOf iv).toNat)
      case atStart => exact ⟨by first | rfl | trivial, 0, by omega, rfl, rfl⟩
      case round =>
        obtain ⟨rfl, i4, hi4, rfl, HE4⟩ := hrel
        by_cases hlt4 : i4 < tl
        · obtain ⟨l, hd, _, b9, off9, oa9, c9, rfl, _, y9, hcl, hcl2, hsl9⟩ := HT5.out.slc_at (i := i4) (by have := HTL.out; omega)
          have HD : Hid (tableErr (t.drop i4) = if numsErr l = 0 then tableErr (t.drop (i4 + 1)) else numsErr l) := by show _ = _; rw [hd]; rfl
          have HS9 := hide hsl9
          obtain ⟨ll, hll⟩ : ∃ ll, ll = l.length := ⟨_, rfl⟩
          rw [← hll] at y9 hcl2
          have HLL := hide hll
          clear hd hsl9 hll hcl
          go_wp2_with fail
          go_loopw [5] (fun iv wr2 => wr2 = wr ∧ ∃ i : Nat, i ≤ ll ∧ iv = .int .i64 i ∧ Hid (numsErr l = numsErr (l.drop i))) (fun iv _ => ll - (intOf iv).toNat)
          case atStart => exact ⟨by first | rfl | trivial, 0, by omega, rfl, rfl⟩
          case round =>
            obtain ⟨rfl, i5, hi5, rfl, HE5⟩ := hrel
            by_cases hlt5 : i5 < ll
            · obtain ⟨sv, hds, _, isv, b8, off8, rfl, _, s0⟩ := HS9.out.int_at (i := i5) (by have := HLL.out; omega)
              have HD5 : Hid (numsErr (l.drop i5) = if 0 ≤ sv ∧ sv ≤ 1048576 then numsErr (l.drop (i5 + 1)) else 2) := by show _ = _; rw [hds]; rfl
              clear hds
              by_cases hok : 0 ≤ sv ∧ sv ≤ 1048576
              · obtain ⟨k1, k2⟩ := hok
                have k3 : ¬ sv < 0 := by omega
                have k4 : ¬ 1048576 < sv := by omega
                have HD6 : Hid (numsErr (l.drop i5) = numsErr (l.drop (i5 + 1))) := by show _ = _; rw [HD5.out, if_pos ⟨k1, k2⟩]
                go_wp2_with fail
                go_roundw
                case rel => exact ⟨by first | rfl | trivial, i5 + 1, by omega, by go_num, by show _ = _; rw [HE5.out, HD6.out]⟩
                case measure => simp [intOf]; omega
              · have hz : numsErr l = 2 := by rw [HE5.out, HD5.out, if_neg hok]
                have HZ : Hid (waitsErr ⟨procs, st, t⟩ = 2) := by
                  show _ = _
                  rw [HRE.out, HE4.out, HD.out, hz]
                  rfl
                clear hz
                by_cases k1 : sv < 0
                · clear hok
                  go_wp2_with fail
                  go_ret
                  exact ⟨ret_int (by rw [HZ.out]), HB.out.trans (HBi.out.mono HB.out.size)⟩
                · have k2 : 1048576 < sv := by omega
                  clear hok
                  go_wp2_with fail
                  go_ret
                  exact ⟨ret_int (by rw [HZ.out]), HB.out.trans (HBi.out.mono HB.out.size)⟩
            · have HZ : Hid (numsErr l = 0) := by show _ = _; rw [HE5.out, List.drop_eq_nil_of_le (by have := HLL.out; omega)]; rfl
              go_wp2_with fail
              go_roundw
              case rel => exact ⟨by first | rfl | trivial, i4 + 1, by omega, by go_num, by show _ = _; rw [HE4.out, HD.out, if_pos HZ.out]⟩
              case measure => simp [intOf]; omega
        · go_wp2_with fail
          go_ret
          exact ⟨ret_int (by rw [HRE.out, HE4.out, List.drop_eq_nil_of_le (by have := HTL.out; omega)]; rfl), HB.out.trans (HBi.out.mono HB.out.size)⟩

end Go.Proofs.Ytnigfddanoaonaa

set_option linter.unusedVariables false
namespace Go.Proofs.Ytnigfddanoaonaa
open Go.RowKit

set_option maxHeartbeats 400000 in
theorem rrule_any (nx : Int) (st : List Out) (S N : Int) (oa : Option Addr) (c : Nat) (F : Foot) (w : World) (hs : SliceR outR 2 F w oa st) (hc : st.length ≤ c) (hc2 : st.length ≤ 9223372036854775807) :
    Calls Try.prog 54 #[.agg #[.int .i64 nx, .slice oa st.length c], .int .i64 S, .int .i64 N] w fun e w' => e = .returned (.int .i64 (ruleErr S N ⟨nx, st⟩)) ∧ Below w.heap.size w w' := by
  by_cases h1 : nx < 0 ∨ S ≤ nx
  · have HR : Hid (ruleErr S N ⟨nx, st⟩ = 2) := by
      show _ = _
      have : belowB nx S = false := by simp [belowB]; omega
      simp [ruleErr, this]
    go_enter Try.func54, Try.ntmps54
    go_wp2_with fail
    all_goals first | (go_ret; exact ⟨ret_int HR.out.symm, bnew (Below.refl _ _) _⟩) | (exfalso; omega)
  have hb : belowB nx S = true := by simp [belowB]; omega
  have h1a : 0 ≤ nx := by omega
  have h1b : nx < S := by omega
  by_cases h2 : st.length ≤ 16
  · have HR : Hid (ruleErr S N ⟨nx, st⟩ = sentErr N st) := by show _ = _; simp [ruleErr, hb, h2]
    clear hb h1
    go_enter Try.func54, Try.ntmps54
    go_wp2_with fail
    have hsr := hs.below outR_ok (bnew (Below.refl _ _) (.cells #[.int .i64 nx, .slice oa st.length c] 78))
    have d0 := box_cell (box_refl w (.cells #[.int .i64 nx, .slice oa st.length c] 78)) 0
    have d1 := box_cell (box_refl w (.cells #[.int .i64 nx, .slice oa st.length c] 78)) 1
    simp at d0 d1
    go_loop [7] (fun i => ∃ k : Nat, k ≤ st.length ∧ i = .int .i64 k ∧ Hid (sentErr N st = sentErr N (st.drop k))) (fun i => st.length - (intOf i).toNat)
    case atStart => exact ⟨0, by omega, rfl, rfl⟩
    case round =>
      obtain ⟨k, hk, rfl, HE⟩ := hrel
      by_cases hlt : k < st.length
      · obtain ⟨x, y, hd, _, _, _, b, off, rfl, _, c0, c1⟩ := hsr.out_at hlt
        have HD := hide hd
        clear hd hs hsr
        by_cases h3 : x < 0 ∨ N ≤ x ∨ y < 0 ∨ 8 ≤ y
        · have hx : (belowB x N && belowB y 8) = false := by simp [belowB]; omega
          have HX := hide hx
          clear hx
          go_wp2_with fail
          all_goals first | (go_ret; exact ⟨ret_int (by rw [HR.out, HE.out, HD.out]; simp only [sentErr, HX.out]; rfl), bnew (Below.refl _ _) _⟩) | (exfalso; omega)
        · have hx : (belowB x N && belowB y 8) = true := by simp [belowB]; omega
          have HX := hide hx
          clear hx
          go_wp2_with fail
          go_round
          case rel => exact ⟨k + 1, by omega, by go_num, by show _ = _; rw [HE.out, HD.out]; simp only [sentErr, HX.out]; rfl⟩
          case measure => simp [intOf]; omega
      · go_wp2_with fail
        go_ret
        exact ⟨ret_int (by rw [HR.out, HE.out, List.drop_eq_nil_of_le (by omega)]; rfl), bnew (Below.refl _ _) _⟩
  · have HR : Hid (ruleErr S N ⟨nx, st⟩ = 5) := by show _ = _; simp [ruleErr, hb, h2]
    clear hb h1
    go_enter Try.func54, Try.ntmps54
    go_wp2_with fail
    go_ret; exact ⟨ret_int HR.out.symm, bnew (Below.refl _ _) _⟩

end Go.Proofs.Ytnigfddanoaonaa

set_option linter.unusedVariables false
namespace Go.Proofs.Ytnigfddanoaonaa
open Go.RowKit

set_option maxRecDepth 100000 in
set_option maxHeartbeats 1000000 in
theorem rcheck_any (S L N : Int) (rs : List (List Rul)) (oa : Option Addr) (c : Nat) (F : Foot) (w : World) (hs : SliceR (slcR ruleR 2) 1 F w oa rs) (hc : rs.length ≤ c) (hc2 : rs.length ≤ 9223372036854775807) :
    Calls Try.prog 31 #[.agg #[.int .i64 S, .int .i64 L, .slice oa rs.length c], .int .i64 N] w fun e w' => e = .returned (.int .i64 (checkErr ⟨S, L, rs⟩ N)) ∧ Below w.heap.size w w' := by
  by_cases h1 : N < 1 ∨ 12 < N
  · have HR : Hid (checkErr ⟨S, L, rs⟩ N = 1) := by show _ = _; simp [checkErr, h1]
    go_enter Try.func31, Try.ntmps31
    go_wp2_with fail
    all_goals (go_ret; exact ⟨ret_int HR.out.symm, bnew (Below.refl _ _) _⟩)
  by_cases h2 : S < 1 ∨ S > 16 ∨ L < 1 ∨ L > 8
  · have HR : Hid (checkErr ⟨S, L, rs⟩ N = 2) := by show _ = _; rw [checkErr, if_neg h1, if_pos h2]
    have h1a : 1 ≤ N := by omega
    have h1b : N ≤ 12 := by omega
    clear h1
    go_enter Try.func31, Try.ntmps31
    go_wp2_with fail
    all_goals first | (go_ret; exact ⟨ret_int HR.out.symm, bnew (Below.refl _ _) _⟩) | (exfalso; omega)
  by_cases h3 : (rs.length : Int) = S
  · subst h3
    have HR : Hid (checkErr ⟨rs.length, L, rs⟩ N = rowsErr rs.length L N rs) := by show _ = _; simp only [checkErr]; rw [if_neg h1, if_neg h2, if_neg (by simp)]
    have h1a : 1 ≤ N := by omega
    have h1b : N ≤ 12 := by omega
    have h2a : 1 ≤ rs.length := by omega
    have h2b : rs.length ≤ 16 := by omega
    have h2c : 1 ≤ L := by omega
    have h2d : L ≤ 8 := by omega
    clear h1 h2
    go_enter Try.func31, Try.ntmps31
    go_wp2_with fail
    clear h1a h1b
    go_loopw [5] (fun i wr => ∃ k : Nat, k ≤ rs.length ∧ i = .int .i64 k ∧ Hid (rowsErr rs.length L N rs = rowsErr rs.length L N (rs.drop k)) ∧
        Below (w.heap.size + 1) (w.alloc (.cells #[.int .i64 rs.length, .int .i64 L, .slice oa rs.length c] 53)) wr) (fun i _ => rs.length - (intOf i).toNat)
    case atStart => exact ⟨0, by omega, rfl, rfl, box_refl _ _⟩
    case round =>
      obtain ⟨k, hk, rfl, HE, hb⟩ := hrel
      have d0 := box_cell hb 0
      have d1 := box_cell hb 1
      have d2 := box_cell hb 2
      simp at d0 d1 d2
      by_cases hlt : k < rs.length
      · obtain ⟨row, hd, _, b, off, oa', c', rfl, _, c0, hcl, hcl2, hsr⟩ := (hs.below rowR_ok (below_box hb)).slc_at hlt
        have HD := hide hd
        clear hd
        by_cases hle : (row.length : Int) = L
        · have ht : ((row.length : Int) != L) = false := by simp [hle]
          have HL := hide hle
          clear hle
          go_wp2_with fail
          go_quiet (fail)
          have hb1 := below_drewN hb nq
          have hsr1 := hsr.drewN ruleR_ok nq
          have hsz : w.heap.size < (wr.drewN nq).heap.size := box_lt hb1
          have c0' : (wr.drewN nq).cell? ⟨b, off + k, none⟩ = some (.slice oa' row.length c') := c0
          clear hb hsr d0 d1 d2 c0
          generalize wr.drewN nq = wo at *
          go_wp2_with fail
          go_loopw [6] (fun i wr => ∃ j : Nat, j ≤ row.length ∧ i = .int .i64 j ∧ Hid (rowErr rs.length N row = rowErr rs.length N (row.drop j)) ∧
            Below wo.heap.size wo wr) (fun i _ => row.length - (intOf i).toNat)
          case atStart => exact ⟨0, by omega, rfl, rfl, Below.refl _ _⟩
          case round =>
            obtain ⟨j, hj, rfl, HF, hbj⟩ := hrel
            have hbb := box_then hb1 (by simp) hbj
            have e0 := box_cell hbb 0
            have e1 := box_cell hbb 1
            have e2 := box_cell hbb 2
            simp at e0 e1 e2
            have hsz2 : w.heap.size < wr.heap.size := box_lt hbb
            have hlj2 : ((j : Int) < L) = (j < row.length) := by rw [← HL.out]; simp
            by_cases hlj : j < row.length
            · have hlj3 : (j : Int) < L := by rw [hlj2]; exact hlj
              clear hlj2
              obtain ⟨nx, sent, hd, _, _, b', off', oa2, c2, rfl, _, c20, c21, hl2, hl22, hss⟩ := (hsr1.below ruleR_ok hbj).rule_at hlj
              have HD2 := hide hd
              clear hd
              have c0' := (hbj.cell (World.block_lt_of_cell? _ _ c0')).trans c0'
              go_wp2_with fail
              go_still_tail 11, (by kernel_rfl)
              change wpList _ _ _ _ _ wr.drew
              go_wp2_with fail
              refine (rrule_any nx sent _ N oa2 c2 F wr.drew (hss.keep outR_ok (fun _ _ _ => rfl)) hl2 hl22).mono ?_
              rintro e w2 ⟨rfl, hb2⟩
              have hb3 := below_then hbj.drew hb2
              clear hb2
              by_cases hz : ruleErr rs.length N ⟨nx, sent⟩ = 0
              · have hz1 : (ruleErr rs.length N ⟨nx, sent⟩ != 0) = false := by simp [hz]
                have HZ := hide hz
                clear hz
                go_wp2_with fail
                go_roundw
                case rel => exact ⟨j + 1, by omega, by go_num, by show _ = _; rw [HF.out, HD2.out, rowErr, if_pos HZ.out], hb3⟩
                case measure => simp [intOf]; omega
              · have hz1 : (ruleErr rs.length N ⟨nx, sent⟩ != 0) = true := by simp [hz]
                have HZ := hide hz
                clear hz
                go_wp2_with fail
                go_ret
                refine ⟨ret_int ?_, below_box (box_then hb1 (by simp) hb3)⟩
                rw [HR.out, HE.out, HD.out, rowsErr, if_pos HL.out, HF.out, HD2.out, rowErr, if_neg HZ.out, if_neg HZ.out]
            · have hlj3 : ¬ (j : Int) < L := by rw [hlj2]; exact hlj
              clear hlj2
              go_wp2_with fail
              go_roundw
              case rel =>
                refine ⟨k + 1, by omega, by go_num, ?_, box_then hb1 (by simp) hbj⟩
                show _ = _
                have hn : row.drop j = [] := List.drop_eq_nil_of_le (by omega)
                rw [HE.out, HD.out, rowsErr, if_pos HL.out, HF.out, hn, rowErr, if_pos rfl]
              case measure => simp [intOf]; omega
        · have ht : ((row.length : Int) != L) = true := by simp [hle]
          go_wp2_with fail
          go_quiet (fail)
          go_wp2_with fail
          go_ret
          exact ⟨ret_int (by rw [HR.out, HE.out, HD.out, rowsErr, if_neg hle]), below_box (below_drewN hb _)⟩
      · go_wp2_with fail
        go_ret
        exact ⟨ret_int (by rw [HR.out, HE.out, List.drop_eq_nil_of_le (by omega)]; rfl), below_box hb⟩
  · have HR : Hid (checkErr ⟨S, L, rs⟩ N = 8) := by show _ = _; rw [checkErr, if_neg h1, if_neg h2, if_pos h3]
    have h1a : 1 ≤ N := by omega
    have h1b : N ≤ 12 := by omega
    have h2a : 1 ≤ S := by omega
    have h2b : S ≤ 16 := by omega
    have h2c : 1 ≤ L := by omega
    have h2d : L ≤ 8 := by omega
    have h3' : ((rs.length : Int) != S) = true := by simp [h3]
    clear h1 h2 h3
    go_enter Try.func31, Try.ntmps31
    go_wp2_with fail
    go_ret; exact ⟨ret_int HR.out.symm, bnew (Below.refl _ _) _⟩

end Go.Proofs.Ytnigfddanoaonaa

set_option linter.unusedVariables false
set_option linter.unusedSimpArgs false
namespace Go.Proofs.Ytnigfddanoaonaa
open Go.RowKit

set_option maxRecDepth 100000 in
set_option maxHeartbeats 4000000 in
theorem rnetCheck_any (procs : List Prc) (op : Option Addr) (cp : Nat) (st : List Int) (os : Option Addr) (cs : Nat) (wt : List (List Int)) (ow : Option Addr) (cw : Nat) (F : Foot) (w : World)
    (hp : SliceR prcR 3 F w op procs) (hp2 : procs.length ≤ 9223372036854775807) (hs : SliceR intR 1 F w os st) (hs2 : st.length ≤ 9223372036854775807) (ht : SliceR (slcR intR 1) 1 F w ow wt) (ht2 : wt.length ≤ 9223372036854775807) :
    Calls Try.prog 12 #[.agg #[.slice op procs.length cp, .slice os st.length cs, .slice ow wt.length cw]] w fun e w' => e = .returned (.int .i64 (netErr ⟨procs, st, wt⟩)) ∧ Below w.heap.size w w' := by
  have HP := hide hp
  have HS := hide hs
  have HT := hide ht
  clear hp hs ht
  obtain ⟨W1, e1⟩ : ∃ W1, w.alloc (.cells #[.slice op procs.length cp, .slice os st.length cs, .slice ow wt.length cw] 26) = W1 := ⟨_, rfl⟩
  have bx1 : Box W1 w.heap.size [.slice op procs.length cp, .slice os st.length cs, .slice ow wt.length cw] 26 := by rw [← e1]; exact Box.new w [.slice op procs.length cp, .slice os st.length cs, .slice ow wt.length cw] 26
  have bb1 := bnew (Below.refl w.heap.size w) (.cells #[.slice op procs.length cp, .slice os st.length cs, .slice ow wt.length cw] 26)
  rw [e1] at bb1
  have c0 := bx1.cell 0
  simp only [List.getElem?_cons_zero, List.getElem?_cons_succ] at c0
  have HB := hide bb1
  have HX := hide bx1
  clear bx1 bb1
  obtain ⟨n, hn⟩ : ∃ n, n = procs.length := ⟨_, rfl⟩
  have HN := hide hn
  by_cases hr : procs.length < 1 ∨ 12 < procs.length
  · have HR : Hid (netErr ⟨procs, st, wt⟩ = 2) := by show _ = _; unfold netErr; exact if_pos hr
    rw [← hn] at c0 hp2 hr e1 ⊢
    clear hn
    by_cases h1 : n < 1
    · have hr1 : (n : Int) < 1 := by omega
      clear hr
      go_enter Try.func12, Try.ntmps12
      go_wp2_with fail
      go_ret
      exact ⟨ret_int (by rw [HR.out]), HB.out⟩
    · have hr1 : ¬ (n : Int) < 1 := by omega
      have hr2 : (12 : Int) < n := by omega
      clear hr
      go_enter Try.func12, Try.ntmps12
      go_wp2_with fail
      go_ret
      exact ⟨ret_int (by rw [HR.out]), HB.out⟩
  have hr1 : ¬ (n : Int) < 1 := by omega
  have hr2 : ¬ (12 : Int) < n := by omega
  have HR : Hid (netErr ⟨procs, st, wt⟩ = if procsErr procs.length procs = 0 then
    if procsOk procs procs = true then
      if st.length = procs.length then
        if statesErr st procs = 0 then waitsErr ⟨procs, st, wt⟩ else statesErr st procs
      else 8
    else 6
  else procsErr procs.length procs) := by show _ = _; unfold netErr; exact if_neg hr
  rw [← hn] at c0 hp2 hr e1 HX ⊢
  clear hn hr
  go_enter Try.func12, Try.ntmps12
  go_wp2_with fail
  clear c0
  go_loopw [4] (fun iv wr => ∃ i : Nat, i ≤ n ∧ iv = .int .i64 i ∧ Hid (procsErr procs.length procs = procsErr procs.length (procs.drop i)) ∧ Hid (Below W1.heap.size W1 wr)) (fun iv _ => n - (intOf iv).toNat)
  case atStart => exact ⟨0, by omega, rfl, rfl, Below.refl _ _⟩
  case round =>
    obtain ⟨i, hi, rfl, HE, HBi⟩ := hrel
    have c0 := (HX.out.below HBi.out).cell 0
    simp only [List.getElem?_cons_zero, List.getElem?_cons_succ] at c0
    by_cases hlt : i < n
    · obtain ⟨S5, Le5, rs5, b7, off7, oa7, c7, hd7, _, rfl, _, y0, y1, y2, _, il5, hrc, hrc2, hrs⟩ := ((HP.out.below prcR_ok HB.out).below prcR_ok HBi.out).prc_at (i := i) (by have := HN.out; omega)
      have HD : Hid (procsErr procs.length (procs.drop i) = if checkErr ⟨S5, Le5, rs5⟩ n = 0 then procsErr procs.length (procs.drop (i + 1)) else checkErr ⟨S5, Le5, rs5⟩ n) := by show _ = _; rw [hd7, HN.out]; rfl
      have HC := hide (rcheck_any S5 Le5 n rs5 oa7 c7 _ wr hrs hrc hrc2)
      clear hd7 hrs hrc hrc2
      by_cases hz : checkErr ⟨S5, Le5, rs5⟩ n = 0
      · have q1 := is_err hz
        have HZ := hide hz
        clear hz
        go_wp2_with (go_at_call 31; refine HC.out.mono ?_; rintro e w5 ⟨rfl, h5⟩; have HB5 := hide (HBi.out.trans (h5.mono HBi.out.size)); clear h5)
        go_roundw
        case rel => exact ⟨i + 1, by omega, by go_num, by show _ = _; rw [HE.out, HD.out, if_pos HZ.out], HB5⟩
        case measure => simp [intOf]; omega
      · have q1 := not_err hz
        have HRR : Hid (netErr ⟨procs, st, wt⟩ = checkErr ⟨S5, Le5, rs5⟩ n) := by
          show _ = _
          rw [HR.out, HE.out, HD.out, if_neg hz, if_neg hz]
        clear hz
        go_wp2_with (go_at_call 31; refine HC.out.mono ?_; rintro e w5 ⟨rfl, h5⟩; have HB5 := hide (HBi.out.trans (h5.mono HBi.out.size)); clear h5)
        go_ret
        exact ⟨ret_int (by rw [HRR.out]), HB.out.trans (HB5.out.mono HB.out.size)⟩
    · have HPE : Hid (procsErr procs.length procs = 0) := by show _ = _; rw [HE.out, List.drop_eq_nil_of_le (by have := HN.out; omega)]; rfl
      have HVA : Hid (∀ (j : Nat) (p : Prc), procs[j]? = some p → checkErr p procs.length = 0) := fun j p hp => procsErr_zero HPE.out p (List.mem_of_getElem? hp)
      go_wp2_with fail
      clear c0
      go_loopw [6] (fun iv wr => ∃ i : Nat, i ≤ n ∧ iv = .int .i64 i ∧ Hid (procsOk procs procs = procsOk procs (procs.drop i)) ∧ Hid (Below W1.heap.size W1 wr)) (fun iv _ => n - (intOf iv).toNat)
      case atStart => exact ⟨0, by omega, rfl, rfl, HBi⟩
      case round =>
        obtain ⟨i2, hi2, rfl, HE2, HB2⟩ := hrel
        have z0 := (HX.out.below HB2.out).cell 0
        have z1 := (HX.out.below HB2.out).cell 1
        have z2 := (HX.out.below HB2.out).cell 2
        simp only [List.getElem?_cons_zero, List.getElem?_cons_succ] at z0 z1 z2
        by_cases hlt2 : i2 < n
        · obtain ⟨S5, Le5, rs5, b7, off7, oa7, c7, hd7, hpr, rfl, _, y0, y1, y2, _, il5, hrc, hrc2, hrs⟩ := ((HP.out.below prcR_ok HB.out).below prcR_ok HB2.out).prc_at (i := i2) (by have := HN.out; omega)
          have hv := HVA.out _ _ hpr
          have HD : Hid (procsOk procs (procs.drop i2) = if rowsOk procs rs5 = true then procsOk procs (procs.drop (i2 + 1)) else false) := by show _ = _; rw [hd7]; rfl
          have hcall := runderstood_any procs (some ⟨b7, off7, none⟩) cp os st.length cs ow wt.length cw S5 Le5 rs5 oa7 c7 _ _ wr.drew (((HP.out.below prcR_ok HB.out).below prcR_ok HB2.out).keep (w' := wr.drew) prcR_ok (fun _ _ _ => rfl)) (by have := HN.out; omega) (hrs.keep (w' := wr.drew) rowR_ok (fun _ _ _ => rfl)) hrc hrc2 hv
          rw [← HN.out] at hcall
          have HC := hide hcall
          clear hd7 hrs hrc hrc2 hv hpr hcall
          obtain ⟨bo, hbo⟩ : ∃ bo, bo = rowsOk procs rs5 := ⟨_, rfl⟩
          rw [← hbo] at HC HD
          clear hbo
          cases bo
          · have HRR : Hid (netErr ⟨procs, st, wt⟩ = 6) := by
              show _ = _
              rw [HR.out, if_pos HPE.out, HE2.out, HD.out]
              rfl
            go_wp2_with fail
            go_still_tail 6, (by kernel_rfl)
            change wpList _ _ _ _ _ wr.drew
            go_wp2_with (go_at_call 32; refine HC.out.mono ?_; rintro e w5 ⟨rfl, h5⟩; have HB5 := hide (HB2.out.trans ((Below.refl _ _).drew.trans h5 |>.mono HB2.out.size)); clear h5)
            go_ret
            exact ⟨ret_int (by rw [HRR.out]), HB.out.trans (HB5.out.mono HB.out.size)⟩
          · go_wp2_with fail
            go_still_tail 6, (by kernel_rfl)
            change wpList _ _ _ _ _ wr.drew
            go_wp2_with (go_at_call 32; refine HC.out.mono ?_; rintro e w5 ⟨rfl, h5⟩; have HB5 := hide (HB2.out.trans ((Below.refl _ _).drew.trans h5 |>.mono HB2.out.size)); clear h5)
            go_roundw
            case rel => exact ⟨i2 + 1, by omega, by go_num, by show _ = _; rw [HE2.out, HD.out]; rfl, HB5⟩
            case measure => simp [intOf]; omega
        · have HPO : Hid (procsOk procs procs = true) := by show _ = _; rw [HE2.out, List.drop_eq_nil_of_le (by have := HN.out; omega)]; rfl
          by_cases hsl : st.length = n
          case neg =>
            have q0 : (((st.length : Nat) : Int) != ((n : Nat) : Int)) = true := by simp; omega
            have HRR : Hid (netErr ⟨procs, st, wt⟩ = 8) := by
              show _ = _
              rw [HR.out, if_pos HPE.out, if_pos HPO.out, if_neg (by rw [← HN.out]; exact hsl)]
            clear hsl
            go_wp2_with fail
            go_ret
            exact ⟨ret_int (by rw [HRR.out]), HB.out.trans (HB2.out.mono HB.out.size)⟩
          have q0 : (((st.length : Nat) : Int) != ((n : Nat) : Int)) = false := by simp; omega
          have HRR : Hid (netErr ⟨procs, st, wt⟩ = if statesErr st procs = 0 then waitsErr ⟨procs, st, wt⟩ else statesErr st procs) := by
            show _ = _
            rw [HR.out, if_pos HPE.out, if_pos HPO.out, if_pos (by rw [← HN.out]; exact hsl)]
          obtain ⟨sl, hsl2⟩ : ∃ sl, sl = st.length := ⟨_, rfl⟩
          rw [← hsl2] at z1 q0 hsl e1 HX hs2
          have HSL2 := hide hsl2
          have HSL := hide hsl
          clear hsl HR HE HBi HE2 hsl2
          have hstl : sl ≤ 12 := by have := HSL.out; omega
          go_wp2_with fail
          clear z0 z1 z2
          go_loopw [7] (fun iv wr => ∃ i : Nat, i ≤ n ∧ iv = .int .i64 i ∧ Hid (statesErr st procs = statesErr (st.drop i) (procs.drop i)) ∧ Hid (Below W1.heap.size W1 wr)) (fun iv _ => n - (intOf iv).toNat)
          case atStart => exact ⟨0, by omega, rfl, rfl, HB2⟩
          case round =>
            obtain ⟨i3, hi3, rfl, HE3, HB3⟩ := hrel
            have z0 := (HX.out.below HB3.out).cell 0
            have z1 := (HX.out.below HB3.out).cell 1
            have z2 := (HX.out.below HB3.out).cell 2
            simp only [List.getElem?_cons_zero, List.getElem?_cons_succ] at z0 z1 z2
            by_cases hlt3 : i3 < n
            · obtain ⟨sv, hds, _, isv, b8, off8, rfl, _, s0⟩ := ((HS.out.below intR_ok HB.out).below intR_ok HB3.out).int_at (i := i3) (by have := HSL.out; have := HSL2.out; omega)
              obtain ⟨S5, Le5, rs5, b7, off7, oa7, c7, hd7, _, rfl, _, y0, _, _, iS5, _, _, _, _⟩ := ((HP.out.below prcR_ok HB.out).below prcR_ok HB3.out).prc_at (i := i3) (by have := HN.out; omega)
              have HD : Hid (statesErr (st.drop i3) (procs.drop i3) = if belowB sv S5 then statesErr (st.drop (i3 + 1)) (procs.drop (i3 + 1)) else 2) := by show _ = _; rw [hds, hd7]; rfl
              have hin : i3 < sl := by have := HSL.out; omega
              clear hds hd7
              by_cases hneg : sv < 0
              · have HRE : Hid (netErr ⟨procs, st, wt⟩ = 2) := by
                  show _ = _
                  have hb : belowB sv S5 = false := by unfold belowB; simp; omega
                  rw [HRR.out, HE3.out, HD.out, hb]
                  rfl
                have q5 : decide (sv < 0) = true := by simp [hneg]
                clear hneg
                go_wp2_with fail
                go_quiet (fail)
                go_wp2_with fail
                go_ret
                exact ⟨ret_int (by rw [HRE.out]), HB.out.trans ((below_drewN HB3.out _).mono HB.out.size)⟩
              · have q5 : decide (sv < 0) = false := by simp; omega
                by_cases hge : S5 ≤ sv
                · have HRE : Hid (netErr ⟨procs, st, wt⟩ = 2) := by
                    show _ = _
                    have hb : belowB sv S5 = false := by unfold belowB; simp; omega
                    rw [HRR.out, HE3.out, HD.out, hb]
                    rfl
                  have q6 : decide (S5 ≤ sv) = true := by simp [hge]
                  clear hneg hge
                  go_wp2_with fail
                  go_quiet (fail)
                  go_wp2_with fail
                  go_ret
                  exact ⟨ret_int (by rw [HRE.out]), HB.out.trans ((below_drewN HB3.out _).mono HB.out.size)⟩
                · have HD2 : Hid (statesErr (st.drop i3) (procs.drop i3) = statesErr (st.drop (i3 + 1)) (procs.drop (i3 + 1))) := by
                    show _ = _
                    have hb : belowB sv S5 = true := by unfold belowB; simp; omega
                    rw [HD.out, hb]
                    rfl
                  have q6 : decide (S5 ≤ sv) = false := by simp; omega
                  clear hneg hge
                  go_wp2_with fail
                  go_quiet (fail)
                  go_wp2_with fail
                  go_roundw
                  case rel => exact ⟨i3 + 1, by omega, by go_num, by show _ = _; rw [HE3.out, HD2.out], below_drewN HB3.out _⟩
                  case measure => simp [intOf]; omega
            · have HSE : Hid (statesErr st procs = 0) := by show _ = _; rw [HE3.out, List.drop_eq_nil_of_le (show st.length ≤ i3 by have := HSL.out; have := HSL2.out; omega)]; rfl
              have HRW : Hid (netErr ⟨procs, st, wt⟩ = waitsErr ⟨procs, st, wt⟩) := by
                show _ = _
                rw [HRR.out, if_pos HSE.out]
              have hcall := rwaits_any procs op cp os st.length cs st wt ow cw _ _ wr ((HP.out.below prcR_ok HB.out).below prcR_ok HB3.out) (by have := HN.out; omega) ((HT.out.below (slcR_ok intR_ok (by decide)) HB.out).below (slcR_ok intR_ok (by decide)) HB3.out) ht2
              rw [← HN.out, ← HSL2.out] at hcall
              have HC := hide hcall
              clear hcall HRR
              go_wp2_with (go_at_call 33; refine HC.out.mono ?_; rintro e w5 ⟨rfl, h5⟩)
              go_ret
              exact ⟨ret_int (by rw [HRW.out]), HB.out.trans ((HB3.out.trans (h5.mono HB3.out.size)).mono HB.out.size)⟩

end Go.Proofs.Ytnigfddanoaonaa

namespace Go.Proofs.Ytnigfddanoaonaa
open Go.RowKit

end Go.Proofs.Ytnigfddanoaonaa

namespace Go.Proofs.Ytnigfddanoaonaa
open Go.RowKit

def cmpIo (x y : Int) : Int := if x < y then -1 else if y < x then 1 else 0
def cmpO (a b : Out) : Int := if cmpIo a.dst b.dst = 0 then cmpIo a.letter b.letter else cmpIo a.dst b.dst
def leO (a b : Out) : Prop := a.dst < b.dst ∨ (a.dst = b.dst ∧ a.letter ≤ b.letter)
instance (a b : Out) : Decidable (leO a b) := by unfold leO; infer_instance

theorem leO_trans {a b c : Out} (h : leO a b) (k : leO b c) : leO a c := by unfold leO at *; omega
theorem leO_total (a b : Out) : leO a b ∨ leO b a := by unfold leO; omega
theorem leO_antisymm {a b : Out} (h : leO a b) (k : leO b a) : a = b := by
  obtain ⟨t, l⟩ := a
  obtain ⟨t', l'⟩ := b
  unfold leO at *
  simp only [Out.mk.injEq] at *
  omega

def ins (x : Out) : List Out → List Out
  | [] => [x]
  | y :: r => if leO x y then x :: y :: r else y :: ins x r
def isort : List Out → List Out
  | [] => []
  | x :: r => ins x (isort r)
abbrev Srt (l : List Out) : Prop := l.Pairwise leO

theorem ins_perm (x : Out) : ∀ l, (ins x l).Perm (x :: l)
  | [] => List.Perm.refl _
  | y :: r => by
    unfold ins
    split
    · exact List.Perm.refl _
    · exact (List.Perm.cons y (ins_perm x r)).trans (List.Perm.swap x y r)
theorem isort_perm : ∀ l, (isort l).Perm l
  | [] => List.Perm.refl _
  | x :: r => (ins_perm x _).trans (List.Perm.cons x (isort_perm r))
theorem isort_length (l : List Out) : (isort l).length = l.length := (isort_perm l).length_eq
theorem ins_srt (x : Out) : ∀ {l}, Srt l → Srt (ins x l)
  | [], _ => by simp [ins]
  | y :: r, h => by
    unfold ins
    have hy := List.pairwise_cons.1 h
    split
    · rename_i hle
      refine List.pairwise_cons.2 ⟨fun z hz => ?_, h⟩
      rcases List.mem_cons.1 hz with rfl | hz
      · exact hle
      · exact leO_trans hle (hy.1 z hz)
    · rename_i hle
      refine List.pairwise_cons.2 ⟨fun z hz => ?_, ins_srt x hy.2⟩
      have hz2 := (ins_perm x r).mem_iff.1 hz
      rcases List.mem_cons.1 hz2 with rfl | hz2
      · exact (leO_total z y).resolve_left hle
      · exact hy.1 z hz2
theorem isort_srt : ∀ l, Srt (isort l)
  | [] => List.Pairwise.nil
  | x :: r => ins_srt x (isort_srt r)
theorem srt_unique : ∀ {l l' : List Out}, Srt l → Srt l' → l.Perm l' → l = l'
  | [], l', _, _, h => by simpa using h.length_eq.symm
  | x :: r, [], _, _, h => by simpa using h.length_eq
  | x :: r, y :: r', h, h', hp => by
    have hx := List.pairwise_cons.1 h
    have hy := List.pairwise_cons.1 h'
    have hxy : x = y := by
      have m1 := hp.mem_iff.1 (List.mem_cons_self (a := x) (l := r))
      have m2 := hp.mem_iff.2 (List.mem_cons_self (a := y) (l := r'))
      rcases List.mem_cons.1 m1 with e | m1
      · exact e
      · rcases List.mem_cons.1 m2 with e | m2
        · exact e.symm
        · exact leO_antisymm (hx.1 _ m2) (hy.1 _ m1)
    subst hxy
    rw [srt_unique hx.2 hy.2 ((List.perm_cons x).1 hp)]
theorem isort_of {l l' : List Out} (h : Srt l) (hp : l.Perm l') : l = isort l' := srt_unique h (isort_srt l') (hp.trans (isort_perm l').symm)
end Go.Proofs.Ytnigfddanoaonaa

set_option linter.unusedVariables false
namespace Go.Proofs.Ytnigfddanoaonaa
open Go.RowKit

def keyF (n : Nat) : Value := .func (.func n) #[] #[]
end Go.Proofs.Ytnigfddanoaonaa

set_option linter.unusedVariables false
namespace Go.Proofs.Ytnigfddanoaonaa
open Go.RowKit

def flatO (d : List Out) : List Value := d.flatMap fun o => [.int .i64 o.dst, .int .i64 o.letter]
theorem flatO_len (d : List Out) : (flatO d).length = d.length * 2 := by
  induction d with
  | nil => rfl
  | cons x r ih => simp only [flatO, List.flatMap_cons, List.length_append, List.length_cons, List.length_nil] at *; omega
theorem flatO_get {d : List Out} {i : Nat} {t l : Int} (h : d[i]? = some ⟨t, l⟩) : (flatO d)[i * 2]? = some (.int .i64 t) ∧ (flatO d)[i * 2 + 1]? = some (.int .i64 l) := by
  induction d generalizing i with
  | nil => simp at h
  | cons x r ih =>
    match i, h with
    | 0, h =>
      simp at h
      subst h
      exact ⟨rfl, rfl⟩
    | i + 1, h =>
      have h2 := ih (by simpa using h)
      rw [show (i + 1) * 2 = i * 2 + 1 + 1 from by omega]
      exact ⟨by simpa [flatO] using h2.1, by simpa [flatO] using h2.2⟩
theorem flatO_set (d : List Out) (i : Nat) (t l : Int) : flatO (d.set i ⟨t, l⟩) = ((flatO d).set (i * 2) (.int .i64 t)).set (i * 2 + 1) (.int .i64 l) := by
  induction d generalizing i with
  | nil => simp [flatO]
  | cons x r ih =>
    match i with
    | 0 => simp [flatO]
    | i + 1 =>
      rw [show (i + 1) * 2 = i * 2 + 1 + 1 from by omega]
      have h2 := ih i
      simp only [flatO] at h2
      simp [flatO, h2]

def RowO (w : World) (g : Nat) (d : List Out) (rest : List Value) : Prop := w.heap[g]? = some (.cells (flatO d ++ rest).toArray 75 (0, 0))

section
variable {w w' : World} {g : Nat} {d : List Out} {rest : List Value}
theorem RowO.lt (h : RowO w g d rest) : g < w.heap.size := (Array.getElem?_eq_some_iff.1 h).1
theorem RowO.cells (h : RowO w g d rest) {i : Nat} {t l : Int} (hi : d[i]? = some ⟨t, l⟩) : w.cell? ⟨g, i * 2, none⟩ = some (.int .i64 t) ∧ w.cell? ⟨g, i * 2 + 1, none⟩ = some (.int .i64 l) := by
  have hl : i < d.length := (List.getElem?_eq_some_iff.1 hi).1
  have hg := flatO_get hi
  rw [cell_of_row w g _ _ _ _ h, cell_of_row w g _ _ _ _ h]
  simp only [List.getElem?_toArray]
  rw [List.getElem?_append_left (by rw [flatO_len]; omega), List.getElem?_append_left (by rw [flatO_len]; omega)]
  exact hg
theorem RowO.free (h : RowO w g d rest) (i : Nat) : w.frozen? ⟨g, i, none⟩ = false := frozen_of_row w g i _ _ h
theorem RowO.keep (h : RowO w g d rest) (hb : w'.heap[g]? = w.heap[g]?) : RowO w' g d rest := hb.trans h
theorem RowO.below (h : RowO w g d rest) (hb : Below w.heap.size w w') : RowO w' g d rest := h.keep (hb.block g h.lt)
theorem RowO.put (h : RowO w g d rest) {i : Nat} (hi : i < d.length) (t l : Int) : RowO ((w.setCell ⟨g, i * 2, none⟩ (.int .i64 t)).setCell ⟨g, i * 2 + 1, none⟩ (.int .i64 l)) g (d.set i ⟨t, l⟩) rest := by
  have h1 := heap_setCell_same w g (i * 2) _ _ (.int .i64 t) h
  have h2 := heap_setCell_same (w.setCell ⟨g, i * 2, none⟩ (.int .i64 t)) g (i * 2 + 1) _ _ (.int .i64 l) h1
  unfold RowO
  rw [h2, flatO_set]
  congr 2
  rw [List.setIfInBounds_toArray, List.setIfInBounds_toArray, List.set_append_left _ _ (by rw [flatO_len]; omega), List.set_append_left _ _ (by rw [List.length_set, flatO_len]; omega)]
end

end Go.Proofs.Ytnigfddanoaonaa

set_option linter.unusedVariables false
namespace Go.Proofs.Ytnigfddanoaonaa
open Go.RowKit

theorem outInfo : (Try.prog.info? 75).map (fun i => (i.zero, i.size, i.bytes)) = some (some (.agg #[.int .i64 0, .int .i64 0]), 2, 16) := by kernel_rfl

def ReadPost (w : World) (rs : List (List Rul)) (s : Int) (word : List Int) (e : Ending) (w' : World) : Prop :=
  ∃ v, e = .returned (.tuple #[.int .i64 (readSpec rs s word).1, v]) ∧ OwnS outR 2 w.heap.size 75 Non w' v (readSpec rs s word).2 ∧ Below w.heap.size w w'

set_option maxRecDepth 100000 in
set_option maxHeartbeats 1000000 in
theorem rread_any (S L : Int) (rs : List (List Rul)) (oa : Option Addr) (c : Nat) (s0 : Int) (word : List Int) (ob : Option Addr) (d : Nat) (F G : Foot) (w : World) (hs : SliceR (slcR ruleR 2) 1 F w oa rs)
    (hw : SliceR intR 1 G w ob word) (hV : Hid (checkErr ⟨S, L, rs⟩ 12 = 0)) (hS : 0 ≤ s0 ∧ s0 < S) (hL : Hid (lettersErr L word = 0)) (hlen : word.length ≤ 1000000) :
    Calls Try.prog 70 #[.agg #[.int .i64 S, .int .i64 L, .slice oa rs.length c], .int .i64 s0, .slice ob word.length d] w (ReadPost w rs s0 word) := by
  obtain ⟨n0, rfl⟩ := Int.eq_ofNat_of_zero_le hS.1
  have hS2 : n0 < rs.length := by have := (check_zero hV.out).2.2.2.1; simp at this; omega
  clear hS
  have HL16 : Hid ((rs.length : Int) = S) := (check_zero hV.out).2.2.2.1
  go_enter Try.func70, Try.ntmps70
  go_wp2_with fail
  go_loopw [1, 8, 9] (fun sv v i wr => ∃ (n k : Nat) (out : List Out), n < rs.length ∧ k ≤ word.length ∧ sv = .int .i64 n ∧ i = .int .i64 k ∧ out.length ≤ 16 * k ∧
      Hid (readSpec rs n0 word = ((readSpec rs (n : Int) (word.drop k)).1, out ++ (readSpec rs (n : Int) (word.drop k)).2)) ∧
      OwnS outR 2 (w.heap.size + 1) 75 Non wr v out ∧
      Below (w.heap.size + 1) (w.alloc (.cells #[.int .i64 S, .int .i64 L, .slice oa rs.length c] 53)) wr) (fun _ _ i _ => word.length - (intOf i).toNat)
  case atStart => exact ⟨n0, 0, [], hS2, by omega, rfl, rfl, by simp, by show _ = _; simp, OwnS.nil _ _ _ _ _ _, box_refl _ _⟩
  case round =>
    obtain ⟨n, k, out, hn, hk, rfl, rfl, hol, HE, hown, hb⟩ := hrel
    have d2 := box_cell hb 2
    simp at d2
    have hsz : w.heap.size < wr.heap.size := box_lt hb
    by_cases hlt : k < word.length
    · obtain ⟨x, hd, hx, _, b1, off1, rfl, _, c1⟩ := (hw.below intR_ok (below_box hb)).int_at hlt
      obtain ⟨hx0, hxL⟩ := letters_at hL.out hx
      obtain ⟨a, rfl⟩ := Int.eq_ofNat_of_zero_le hx0
      obtain ⟨row, _, hrow, b2, off2, oa3, c3, rfl, _, c2, _, _, hsr⟩ := (hs.below rowR_ok (below_box hb)).slc_at hn
      have hrl := valid_row hV.out hrow
      have ha : a < row.length := by simp at hrl; omega
      obtain ⟨nx, sent, _, hru, _, b4, off4, oa5, c5, rfl, _, c40, c41, _, _, hss⟩ := hsr.rule_at ha
      have hvr := valid_rule hV.out hrow hru
      obtain ⟨m, rfl⟩ := Int.eq_ofNat_of_zero_le hvr.1.1
      have hmlt : m < rs.length := by have h1 := hvr.1.2; have h2 := HL16.out; simp at h1; omega
      have hs16 : sent.length ≤ 16 := hvr.2.1
      have HE2 := hide (read_step HE.out hd hrow hru)
      have hfin : (out ++ sent).length ≤ 16 * (k + 1) := by simp; omega
      clear hd hx hrow hru hrl hvr hw hs hsr hx0 hxL HE
      go_wp2_with fail
      have l1 := World.block_lt_of_cell? _ _ c1
      have l2 := World.block_lt_of_cell? _ _ c2
      have l4 := World.block_lt_of_cell? _ _ c40
      simp only at l1 l2 l4
      go_region
      go_wp2_with (at_builtin; refine wpList_append_rep rfl (.tmp 30) (.tmp 32) 76 rfl (w.heap.size + 1) 75 _ 2 16 Try.underlying76 outInfo rfl (by decide) outR_ok Non F u8 out rfl ((hown.draw outR_ok).new outR_ok _) oa5 c5 sent rfl ((hss.keep (w' := wr.drew) outR_ok (fun _ _ _ => rfl)).below outR_ok (bnew (Below.refl _ _) _)) (fun _ _ h => h) (fun _ h => h.elim) (by omega) (by omega) (by simp; omega) ?_; intro v' w1 ho hb1 hg)
      go_roundw
      case rel => exact ⟨m, k + 1, out ++ sent, hmlt, by omega, rfl, by go_num, hfin, HE2, ho, (box_new hb.drew (by simp) _).trans hb1⟩
      case measure => simp [intOf]; omega
    · have HE3 := hide (read_end HE.out (by omega))
      clear HE
      go_wp2_with fail
      go_ret2
      exact ⟨u8, by rw [HE3.out]; rfl, by rw [HE3.out]; exact hown.rebase (by omega), below_box hb⟩

end Go.Proofs.Ytnigfddanoaonaa

set_option linter.unusedVariables false
namespace Go.Proofs.Ytnigfddanoaonaa
open Go.RowKit


end Go.Proofs.Ytnigfddanoaonaa

set_option linter.unusedVariables false
namespace Go.Proofs.Ytnigfddanoaonaa
open Go.RowKit

end Go.Proofs.Ytnigfddanoaonaa

namespace Go.Proofs.Ytnigfddanoaonaa
open Go.RowKit

def pick (l : List Out) (t a : Nat) : List Out := l.filter fun o => decide (o.dst = t) && decide (o.letter = a)
def pickRow (l : List Out) (t : Nat) (A : Nat) : List Out := (List.range A).flatMap (pick l t)
def picks (l : List Out) (T : Nat) : List Out := (List.range T).flatMap fun t => pickRow l t 8

theorem pick_mem {l : List Out} {t a : Nat} {o : Out} : o ∈ pick l t a ↔ o ∈ l ∧ o.dst = t ∧ o.letter = a := by simp [pick]
theorem pickRow_succ (l : List Out) (t A : Nat) : pickRow l t (A + 1) = pickRow l t A ++ pick l t A := by simp [pickRow, List.range_succ]
theorem picks_succ (l : List Out) (T : Nat) : picks l (T + 1) = picks l T ++ pickRow l T 8 := by simp [picks, List.range_succ]
theorem pickRow_mem {l : List Out} {t A : Nat} {o : Out} : o ∈ pickRow l t A ↔ o ∈ l ∧ o.dst = t ∧ ∃ a, a < A ∧ o.letter = (a : Nat) := by
  simp only [pickRow, List.mem_flatMap, List.mem_range, pick_mem]
  constructor
  · rintro ⟨a, ha, h1, h2, h3⟩; exact ⟨h1, h2, a, ha, h3⟩
  · rintro ⟨h1, h2, a, ha, h3⟩; exact ⟨a, ha, h1, h2, h3⟩
theorem picks_mem {l : List Out} {T : Nat} {o : Out} : o ∈ picks l T ↔ o ∈ l ∧ (∃ t, t < T ∧ o.dst = (t : Nat)) ∧ ∃ a, a < 8 ∧ o.letter = (a : Nat) := by
  simp only [picks, List.mem_flatMap, List.mem_range, pickRow_mem]
  constructor
  · rintro ⟨t, ht, h1, h2, h3⟩; exact ⟨h1, ⟨t, ht, h2⟩, h3⟩
  · rintro ⟨h1, ⟨t, ht, h2⟩, h3⟩; exact ⟨t, ht, h1, h2, h3⟩

theorem pick_srt (l : List Out) (t a : Nat) : Srt (pick l t a) := by
  refine List.pairwise_iff_forall_sublist.2 fun {x y} h => ?_
  have hx : x ∈ pick l t a := h.subset (by simp)
  have hy : y ∈ pick l t a := h.subset (by simp)
  have h1 := (pick_mem.1 hx).2
  have h2 := (pick_mem.1 hy).2
  unfold leO
  omega
theorem pickRow_srt (l : List Out) (t : Nat) : ∀ A, Srt (pickRow l t A)
  | 0 => by simp [pickRow]
  | A + 1 => by
    rw [pickRow_succ]
    refine List.pairwise_append.2 ⟨pickRow_srt l t A, pick_srt l t A, fun x hx y hy => ?_⟩
    obtain ⟨_, h1, a, ha, h2⟩ := pickRow_mem.1 hx
    have h3 := (pick_mem.1 hy).2
    unfold leO
    omega
theorem picks_srt (l : List Out) : ∀ T, Srt (picks l T)
  | 0 => by simp [picks]
  | T + 1 => by
    rw [picks_succ]
    refine List.pairwise_append.2 ⟨picks_srt l T, pickRow_srt l T 8, fun x hx y hy => ?_⟩
    obtain ⟨_, ⟨t, ht, h1⟩, _⟩ := picks_mem.1 hx
    have h3 := (pickRow_mem.1 hy).2.1
    unfold leO
    omega
theorem pickRow_cons (x : Out) (r : List Out) (t : Nat) : ∀ A, (pickRow (x :: r) t A).Perm ((if x.dst = t ∧ 0 ≤ x.letter ∧ x.letter < A then [x] else []) ++ pickRow r t A)
  | 0 => by
    have : ¬ (x.dst = t ∧ 0 ≤ x.letter ∧ x.letter < (0 : Nat)) := by omega
    rw [if_neg this]
    simp [pickRow]
  | A + 1 => by
    rw [pickRow_succ, pickRow_succ]
    have ih := pickRow_cons x r t A
    by_cases h : x.dst = t ∧ x.letter = A
    · have h1 : ¬ (x.dst = t ∧ 0 ≤ x.letter ∧ x.letter < (A : Nat)) := by omega
      have h2 : x.dst = t ∧ 0 ≤ x.letter ∧ x.letter < ((A + 1 : Nat) : Int) := by omega
      rw [if_neg h1] at ih
      rw [if_pos h2]
      have hp : pick (x :: r) t A = x :: pick r t A := by simp [pick, h.1, h.2]
      rw [hp]
      exact (ih.append_right _).trans (by simp)
    · have hp : pick (x :: r) t A = pick r t A := by
        unfold pick
        rw [List.filter_cons]
        rw [if_neg]
        simp only [Bool.and_eq_true, decide_eq_true_eq]
        exact h
      rw [hp]
      have he : (x.dst = t ∧ 0 ≤ x.letter ∧ x.letter < (A : Nat)) ↔ (x.dst = t ∧ 0 ≤ x.letter ∧ x.letter < ((A + 1 : Nat) : Int)) := by omega
      simp only [he] at ih
      rw [← List.append_assoc]
      exact ih.append_right _
theorem picks_cons (x : Out) (r : List Out) : ∀ T, (picks (x :: r) T).Perm ((if (0 ≤ x.dst ∧ x.dst < T) ∧ 0 ≤ x.letter ∧ x.letter < 8 then [x] else []) ++ picks r T)
  | 0 => by
    have : ¬ ((0 ≤ x.dst ∧ x.dst < (0 : Nat)) ∧ 0 ≤ x.letter ∧ x.letter < 8) := by omega
    rw [if_neg this]
    simp [picks]
  | T + 1 => by
    rw [picks_succ, picks_succ]
    have ih := picks_cons x r T
    have hr := pickRow_cons x r T 8
    by_cases h : x.dst = T ∧ 0 ≤ x.letter ∧ x.letter < 8
    · have h1 : ¬ ((0 ≤ x.dst ∧ x.dst < (T : Nat)) ∧ 0 ≤ x.letter ∧ x.letter < 8) := by omega
      have h2 : (0 ≤ x.dst ∧ x.dst < ((T + 1 : Nat) : Int)) ∧ 0 ≤ x.letter ∧ x.letter < 8 := by omega
      have h3 : x.dst = T ∧ 0 ≤ x.letter ∧ x.letter < ((8 : Nat) : Int) := by omega
      rw [if_neg h1] at ih
      rw [if_pos h2]
      rw [if_pos h3] at hr
      exact (ih.append hr).trans (by simp)
    · have h3 : ¬ (x.dst = T ∧ 0 ≤ x.letter ∧ x.letter < ((8 : Nat) : Int)) := by omega
      rw [if_neg h3] at hr
      have he : ((0 ≤ x.dst ∧ x.dst < (T : Nat)) ∧ 0 ≤ x.letter ∧ x.letter < 8) ↔ ((0 ≤ x.dst ∧ x.dst < ((T + 1 : Nat) : Int)) ∧ 0 ≤ x.letter ∧ x.letter < 8) := by omega
      simp only [he] at ih
      rw [← List.append_assoc]
      exact ih.append hr
/-- Right outputs: Order sorts them. -/
theorem picks_isort {l : List Out} (h : ∀ o ∈ l, (0 ≤ o.dst ∧ o.dst < 12) ∧ 0 ≤ o.letter ∧ o.letter < 8) : picks l 12 = isort l := by
  refine isort_of (picks_srt l 12) ?_
  induction l with
  | nil => simp [picks, pickRow, pick]
  | cons x r ih =>
    refine (picks_cons x r 12).trans ?_
    have hx := h x (by simp)
    rw [if_pos (by omega)]
    exact List.Perm.cons x (ih fun o ho => h o (by simp [ho]))

end Go.Proofs.Ytnigfddanoaonaa

set_option linter.unusedVariables false
namespace Go.Proofs.Ytnigfddanoaonaa
open Go.RowKit

theorem one_out {F : Foot} {w : World} {t l : Int} (h1 : I64 t) (h2 : I64 l) (hF : F w.heap.size) : SliceR outR 2 F (w.alloc (.cells #[.int .i64 t, .int .i64 l] 75)) (some ⟨w.heap.size, 0, none⟩) [⟨t, l⟩] := by
  intro i x hx
  match i, hx with
  | 0, hx =>
    simp at hx
    subst hx
    refine ⟨w.heap.size, 0, [.int .i64 t, .int .i64 l], rfl, hF, ⟨rfl, h1, h2⟩, fun j u hu => ?_⟩
    have hh := fun k => cell_of_row (w.alloc (.cells #[.int .i64 t, .int .i64 l] 75)) w.heap.size k _ _ _ (heap_alloc_new w _)
    rw [hh]
    simpa using hu

set_option maxHeartbeats 1000000 in
theorem order_any (l : List Out) (oa : Option Addr) (c : Nat) (F : Foot) (w : World) (hs : SliceR outR 2 F w oa l) (hc : l.length ≤ c) (hlen : l.length ≤ 1000000) :
    Calls Try.prog 71 #[.slice oa l.length c] w fun e w' => ∃ v, e = .returned v ∧ OwnS outR 2 w.heap.size 75 Non w' v (picks l 12) ∧ Below w.heap.size w w' := by
  go_enter Try.func71, Try.ntmps71
  go_wp2_with fail
  go_loopw [3, 4] (fun v i wr => ∃ (T : Nat) (out : List Out), T ≤ 12 ∧ i = .int .i64 T ∧ Hid (out = picks l T) ∧ out.length ≤ T * 8000000 ∧ OwnS outR 2 w.heap.size 75 Non wr v out ∧ Below w.heap.size w wr) (fun _ i _ => 12 - (intOf i).toNat)
  case atStart => exact ⟨0, [], by omega, rfl, rfl, by simp, OwnS.nil _ _ _ _ _ _, Below.refl _ _⟩
  case round =>
    obtain ⟨T, out, hT, rfl, HO, hol, hown, hb⟩ := hrel
    by_cases hT12 : T < 12
    · have hTb : decide ((T : Int) < 12) = true := by simp; omega
      go_wp2_with fail
      obtain ⟨w1, rfl⟩ : ∃ w1 : World, w1 = wr := ⟨_, rfl⟩
      go_loopw [3, 5] (fun v i wr => ∃ (A : Nat) (row : List Out), A ≤ 8 ∧ i = .int .i64 A ∧ Hid (row = pickRow l T A) ∧ row.length ≤ A * 1000000 ∧ OwnS outR 2 w.heap.size 75 Non wr v (out ++ row) ∧ Below w.heap.size w wr) (fun _ i _ => 8 - (intOf i).toNat)
      case atStart => exact ⟨0, [], by omega, rfl, by show _ = _; simp [pickRow], by simp, by simpa using hown, hb⟩
      case round =>
        clear hown hb
        obtain ⟨A, row, hA, rfl, HR, hrl, hown, hb⟩ := hrel
        by_cases hA8 : A < 8
        · have hAb : decide ((A : Int) < 8) = true := by simp; omega
          go_wp2_with fail
          obtain ⟨w2, rfl⟩ : ∃ w2 : World, w2 = wr := ⟨_, rfl⟩
          go_loopw [3, 6] (fun v i wr => ∃ (k : Nat) (part : List Out), k ≤ l.length ∧ i = .int .i64 k ∧ Hid (part = pick (l.take k) T A) ∧ part.length ≤ k ∧ OwnS outR 2 w.heap.size 75 Non wr v (out ++ row ++ part) ∧ Below w.heap.size w wr) (fun _ i _ => l.length - (intOf i).toNat)
          case atStart => exact ⟨0, [], by omega, rfl, by show _ = _; simp [pick], by simp, by simpa using hown, hb⟩
          case round =>
            clear hown hb
            obtain ⟨k, part, hk, rfl, HP, hpl, hown, hb⟩ := hrel
            by_cases hlt : k < l.length
            · obtain ⟨t, a, hd, hka, ht, ha, b, off, rfl, _, c0, c1⟩ := (hs.below outR_ok hb).out_at hlt
              have hsnoc : Hid (l.take (k + 1) = l.take k ++ [⟨t, a⟩]) := by
                show _ = _
                rw [List.take_add_one, hka]; rfl
              clear hd hka hs
              by_cases h1 : t = T
              · by_cases h2 : a = A
                · subst h1 h2
                  have HPK : Hid (part ++ [⟨(T : Int), (A : Int)⟩] = pick (l.take (k + 1)) T A) := by
                    show _ = _
                    rw [hsnoc.out, HP.out]; simp [pick]
                  go_wp2_with (at_builtin; refine wpList_append_rep rfl (.tmp 37) (.tmp 42) 76 rfl w.heap.size 75 _ 2 16 Try.underlying76 outInfo rfl (by decide) outR_ok Non All u3 (out ++ row ++ part) rfl (hown.new outR_ok _) (some ⟨wr.heap.size, 0, none⟩) 1 [⟨(T : Int), (A : Int)⟩] rfl (one_out ht ha trivial) (fun _ _ h => h) (fun _ h => h.elim) (by simp; omega) (by simp; omega) (by have := hb.size; simp; omega) ?_; intro v' w3 ho hb1 hg)
                  go_roundw
                  case rel =>
                    have ho2 : OwnS outR 2 w.heap.size 75 Non w3 v' (out ++ row ++ (part ++ [⟨(T : Int), (A : Int)⟩])) := by simpa using ho
                    have hb2 := (bnew hb (.cells #[.int .i64 (T : Int), .int .i64 (A : Int)] 75)).trans hb1
                    first
                      | exact ⟨k + 1, _, by omega, by go_num, HPK, by simp; omega, ho2, hb2⟩
                      | ((repeat apply Exists.intro); exact ⟨⟨k + 1, _, by omega, by go_num, HPK, by simp; omega, ho2, hb2⟩, rfl⟩)
                  case measure => simp [intOf]; omega
                · subst h1
                  have h2b : ((a : Int) == (A : Int)) = false := by simp [h2]
                  have HPK : Hid (part = pick (l.take (k + 1)) T A) := by
                    show _ = _
                    rw [hsnoc.out, HP.out]; simp [pick, h2]
                  clear h2
                  go_wp2_with fail
                  go_roundw
                  case rel => exact ⟨k + 1, _, by omega, by go_num, HPK, by omega, hown, hb⟩
                  case measure => simp [intOf]; omega
              · have h1b : ((t : Int) == (T : Int)) = false := by simp [h1]
                have HPK : Hid (part = pick (l.take (k + 1)) T A) := by
                  show _ = _
                  rw [hsnoc.out, HP.out]; simp [pick, h1]
                clear h1
                go_wp2_with fail
                go_roundw
                case rel => exact ⟨k + 1, _, by omega, by go_num, HPK, by omega, hown, hb⟩
                case measure => simp [intOf]; omega
            · go_wp2_with fail
              go_roundw
              case rel =>
                refine ⟨A + 1, row ++ part, by omega, by go_num, ?_, by simp; omega, by simpa using hown, hb⟩
                show _ = _
                rw [pickRow_succ, ← HR.out, HP.out, List.take_of_length_le (by omega)]
              case measure => simp [intOf]; omega
        · go_wp2_with fail
          go_roundw
          case rel =>
            refine ⟨T + 1, out ++ row, by omega, by go_num, ?_, by simp; omega, hown, hb⟩
            show _ = _
            have : A = 8 := by omega
            subst this
            rw [picks_succ, ← HO.out, ← HR.out]
          case measure => simp [intOf]; omega
    · have h12 : T = 12 := by omega
      subst h12
      go_wp2_with fail
      go_ret
      exact ⟨_, rfl, by rw [← HO.out]; exact hown, hb⟩

end Go.Proofs.Ytnigfddanoaonaa

set_option linter.unusedVariables false
namespace Go.Proofs.Ytnigfddanoaonaa
open Go.RowKit

theorem neqGuard_out (op : BinOp) (a b : Operand) (x y : Array Value) (w : World) : (eqGuard op 75 a b (.agg x) (.agg y)).run Try.prog w = .ok () w :=
  run_eqGuard_agg w op 75 a b x y (by kernel_rfl)
theorem neq_out (a b c d : Int) (w : World) : (binOp .neq 75 (.agg #[.int .i64 a, .int .i64 b]) (.agg #[.int .i64 c, .int .i64 d])).run Try.prog w = .ok (.bool (!(a == c && b == d))) w := by
  have u3 := Try.underlying3
  have a3 := Try.isAgg3
  have z3 := Try.sizeOf3
  have hS : Try.prog.underlying 75 = some (.struct (Try.prog.fieldsOf 75)) := by kernel_rfl
  have hp : Try.prog.stoodInHeld 75 = false := by kernel_rfl
  rw [run_neq_struct, show (10000 : Nat) = 9999 + 1 from rfl, run_equalIn_agg w 9999 75 _ _ hS hp]
  simp only [Program.fieldsOf, Try.underlying75]
  go_simp
  by_cases h1 : a = c <;> by_cases h2 : b = d <;> simp [h1, h2]

set_option maxHeartbeats 400000 in
theorem sameOutputs_any (l m : List Out) (oa ob : Option Addr) (c d : Nat) (F : Foot) (w : World) (hs : SliceR outR 2 F w oa l) (ht : SliceR outR 2 F w ob m) (hc : l.length ≤ c) (hc2 : l.length ≤ 9223372036854775807) :
    Calls Try.prog 53 #[.slice oa l.length c, .slice ob m.length d] w fun e w' => e = .returned (.bool (decide (l = m))) ∧ Below w.heap.size w w' := by
  by_cases hlen : l.length = m.length
  case neg =>
    have hl' : ((l.length : Int) != m.length) = true := by simp; omega
    have HL : Hid (decide (l = m) = false) := decide_eq_false fun h => hlen (by rw [h])
    clear hlen
    go_enter Try.func53, Try.ntmps53
    go_wp2_with fail
    go_ret; exact ⟨ret_bool HL.out.symm, Below.refl _ _⟩
  have hl' : ((l.length : Int) != m.length) = false := by simp [hlen]
  have HL := hide hlen
  clear hlen
  go_enter Try.func53, Try.ntmps53
  go_wp2_with fail
  go_loopw [5] (fun i wr => ∃ k : Nat, k ≤ l.length ∧ i = .int .i64 k ∧ Hid (l = m ↔ l.drop k = m.drop k) ∧ Below w.heap.size w wr) (fun i _ => l.length - (intOf i).toNat)
  case atStart => exact ⟨0, by omega, rfl, Iff.rfl, Below.refl _ _⟩
  case round =>
    obtain ⟨k, hk, rfl, HE, hb⟩ := hrel
    by_cases hlt : k < l.length
    · obtain ⟨x, y, hd, _, _, _, b, off, rfl, _, c0, c1⟩ := (hs.below outR_ok hb).out_at hlt
      have hlt2 : k < m.length := by rw [← HL.out]; exact hlt
      obtain ⟨x', y', hd', _, _, _, b', off', rfl, _, c0', c1'⟩ := (ht.below outR_ok hb).out_at hlt2
      have HD := hide hd
      have HD' := hide hd'
      clear hd hd' hs ht
      have q1 := neqGuard_out
      have q2 := neq_out
      by_cases hx : x = x' ∧ y = y'
      · obtain ⟨rfl, rfl⟩ := hx
        go_wp2_with fail
        go_quiet (fail)
        go_wp2_with fail
        go_roundw
        case rel =>
          refine ⟨k + 1, by omega, by go_num, ?_, below_drewN hb _⟩
          show _ ↔ _
          rw [HE.out, HD.out, HD'.out]; simp
        case measure => simp [intOf]; omega
      · have hne : (!x == x' || !y == y') = true := by
          by_cases h1 : x = x' <;> by_cases h2 : y = y' <;> simp_all
        have HX := hide hx
        clear hx
        go_wp2_with fail
        go_quiet (fail)
        go_wp2_with fail
        go_ret
        refine ⟨ret_bool ?_, below_drewN hb _⟩
        symm
        refine decide_eq_false fun h => HX.out ?_
        have h2 := HE.out.1 h
        rw [HD.out, HD'.out] at h2
        simp at h2
        exact h2.1
    · go_wp2_with fail
      go_ret
      refine ⟨ret_bool ?_, hb⟩
      symm
      refine decide_eq_true (HE.out.2 ?_)
      rw [List.drop_eq_nil_of_le (by omega), List.drop_eq_nil_of_le (by have := HL.out; omega)]

end Go.Proofs.Ytnigfddanoaonaa

set_option linter.unusedVariables false
set_option linter.unusedSimpArgs false
set_option linter.unnecessarySimpa false
namespace Go.Proofs.Ytnigfddanoaonaa
open Go.RowKit

end Go.Proofs.Ytnigfddanoaonaa

set_option linter.unusedVariables false
namespace Go.Proofs.Ytnigfddanoaonaa
open Go.RowKit

end Go.Proofs.Ytnigfddanoaonaa

set_option linter.unusedVariables false
namespace Go.Proofs.Ytnigfddanoaonaa
open Go.RowKit

theorem flatten_get {sz : Nat} : ∀ {css : List (List Value)}, (∀ cs ∈ css, cs.length = sz) → ∀ {i : Nat} {cs : List Value}, css[i]? = some cs → ∀ {j : Nat} {u : Value}, cs[j]? = some u → css.flatten[i * sz + j]? = some u
  | [], _, i, cs, h, _, _, _ => by simp at h
  | c :: r, hl, 0, cs, h, j, u, hj => by
    simp at h
    subst h
    have h1 : j < c.length := (List.getElem?_eq_some_iff.1 hj).1
    rw [List.flatten_cons, Nat.zero_mul, Nat.zero_add, List.getElem?_append_left h1]
    exact hj
  | c :: r, hl, i + 1, cs, h, j, u, hj => by
    have h1 := hl c (by simp)
    have h2 := flatten_get (css := r) (fun x hx => hl x (by simp [hx])) (i := i) (cs := cs) (by simpa using h) hj
    rw [List.flatten_cons, List.getElem?_append_right (by rw [h1, Nat.succ_mul]; omega), h1]
    rw [show (i + 1) * sz + j - sz = i * sz + j from by rw [Nat.succ_mul]; omega]
    exact h2

theorem SliceR.lit {α : Type} {R : Rep α} {sz : Nat} {F G : Foot} (ok : RepOk R sz) (w : World) (e : TypeId) (css : List (List Value)) (xs : List α)
    (h : ∀ (i : Nat) (x : α), xs[i]? = some x → ∃ cs, css[i]? = some cs ∧ R F w cs x) (hl : css.length = xs.length) (hFG : ∀ k, F k → G k) (hG : G w.heap.size) :
    SliceR R sz G (w.alloc (.cells css.flatten.toArray e)) (some ⟨w.heap.size, 0, none⟩) xs := by
  have hlen : ∀ cs ∈ css, cs.length = sz := by
    intro cs hcs
    obtain ⟨i, hi, rfl⟩ := List.getElem_of_mem hcs
    obtain ⟨cs, hc, hR⟩ := h i _ (List.getElem?_eq_getElem (by omega))
    rw [List.getElem?_eq_getElem hi] at hc
    injection hc with hc
    rw [hc]
    exact ok.len hR
  intro i x hx
  obtain ⟨cs, hcs, hR⟩ := h i x hx
  refine ⟨w.heap.size, 0, cs, rfl, hG, ok.keep (ok.wide hR fun k hk _ => hFG k hk) (SameOn.of_below (bnew (Below.refl _ _) _)), fun j u hu => ?_⟩
  rw [cell_of_row (w.alloc (.cells css.flatten.toArray e)) w.heap.size _ _ e (0, 0) (heap_alloc_new w _)]
  have := flatten_get hlen hcs hu
  rw [show 0 + i * sz + j = i * sz + j from by omega]
  simpa using this

theorem ints_lit {F G : Foot} (w : World) (e : TypeId) (xs : List Int) (h : ∀ x ∈ xs, I64 x) (hG : G w.heap.size) : SliceR intR 1 G (w.alloc (.cells (xs.map (Value.int .i64)).toArray e)) (some ⟨w.heap.size, 0, none⟩) xs := by
  have h1 : xs.map (Value.int .i64) = (xs.map fun x => [Value.int .i64 x]).flatten := by
    induction xs with
    | nil => rfl
    | cons x r ih => simp [ih fun y hy => h y (by simp [hy])]
  rw [h1]
  refine SliceR.lit (F := fun _ => False) intR_ok w e _ xs (fun i x hx => ⟨[.int .i64 x], by simp [hx], rfl, h x (List.mem_of_getElem? hx)⟩) (by simp) (fun _ h => h.elim) hG

/-- The list of ints that a literal lays, as the call's own. -/
theorem OwnS.ints (w : World) (e : TypeId) (xs : List Int) (h : ∀ x ∈ xs, I64 x) (hl : xs.length ≤ 1000000000000) :
    OwnS intR 1 w.heap.size e Non (w.alloc (.cells (xs.map (Value.int .i64)).toArray e)) (.slice (some ⟨w.heap.size, 0, none⟩) xs.length xs.length) xs := by
  have h1 := World.ownsRow_lit (base := w.heap.size) (e := e) (size := 1) w (xs.map (Value.int .i64)).toArray xs.length (Nat.le_refl _) (by unfold maxLen; omega) (by simp)
  refine ⟨xs.map (Value.int .i64), by simpa using h1, ?_, ?_⟩
  · intro u hu
    obtain ⟨x, _, rfl⟩ := List.mem_map.1 hu
    rfl
  · intro i x hx
    refine ⟨?_, h x (List.mem_of_getElem? hx)⟩
    apply List.ext_getElem?
    intro j
    unfold chunk
    rw [List.getElem?_take]
    split
    · have : j = 0 := by omega
      subst this
      simp [hx]
    · rw [List.getElem?_eq_none (by simp; omega)]

end Go.Proofs.Ytnigfddanoaonaa

set_option linter.unusedVariables false
namespace Go.Proofs.Ytnigfddanoaonaa
open Go.RowKit

end Go.Proofs.Ytnigfddanoaonaa

set_option linter.unusedVariables false
namespace Go.Proofs.Ytnigfddanoaonaa
open Go.RowKit

end Go.Proofs.Ytnigfddanoaonaa

set_option linter.unusedVariables false
namespace Go.Proofs.Ytnigfddanoaonaa
open Go.RowKit

def rlettersErr (L : Int) (l : List Int) : Int := if 256 < l.length then 5 else lettersErr L l

set_option maxHeartbeats 400000 in
theorem few_any (S L : Int) (rs : List (List Rul)) (oa : Option Addr) (c : Nat) (F : Foot) (w : World) (hs : SliceR (slcR ruleR 2) 1 F w oa rs) (hc : rs.length ≤ c) (hc2 : rs.length ≤ 9223372036854775807) :
    Calls Try.prog 30 #[.agg #[.int .i64 S, .int .i64 L, .slice oa rs.length c]] w (SomeBool w) := by
  go_enter Try.func30, Try.ntmps30
  go_wp2_with fail
  have hb0 := box_refl w (.cells #[.int .i64 S, .int .i64 L, .slice oa rs.length c] 53)
  have hsr := hs.below rowR_ok (below_box hb0)
  have d2 := box_cell hb0 2
  simp at d2
  go_loop [3] (fun i => ∃ k : Nat, k ≤ rs.length ∧ i = .int .i64 k) (fun i => rs.length - (intOf i).toNat)
  case atStart => exact ⟨0, by omega, rfl⟩
  case round =>
    obtain ⟨k, hk, rfl⟩ := hrel
    by_cases hlt : k < rs.length
    · obtain ⟨row, _, _, b, off, oa', c', rfl, _, c0, hcl, hcl2, hsr2⟩ := hsr.slc_at hlt
      by_cases h20 : k < 20
      · go_wp2_with fail
        go_loop [4] (fun i => ∃ j : Nat, j ≤ row.length ∧ i = .int .i64 j) (fun i => row.length - (intOf i).toNat)
        case atStart => exact ⟨0, by omega, rfl⟩
        case round =>
          obtain ⟨j, hj, rfl⟩ := hrel
          by_cases hlj : j < row.length
          · obtain ⟨nx, sent, _, _, _, b', off', oa2, c2, rfl, _, c20, c21, hl2, hl22, hss⟩ := hsr2.rule_at hlj
            by_cases h12 : j < 12
            · by_cases h40 : 40 < sent.length
              · go_wp2_with fail
                go_ret
                exact ⟨_, rfl, bnew (Below.refl _ _) _⟩
              · go_wp2_with fail
                go_round
                case rel => exact ⟨j + 1, by omega, by go_num⟩
                case measure => simp [intOf]; omega
            · have hbig : 12 < row.length := by omega
              go_wp2_with fail
              go_ret
              exact ⟨_, rfl, bnew (Below.refl _ _) _⟩
          · go_wp2_with fail
            all_goals first
              | (go_ret; exact ⟨_, rfl, bnew (Below.refl _ _) _⟩)
              | (go_round
                 case rel => exact ⟨k + 1, by omega, by go_num⟩
                 case measure => simp [intOf]; omega)
      · go_wp2_with fail
        go_ret
        exact ⟨_, rfl, bnew (Below.refl _ _) _⟩
    · go_wp2_with fail
      go_ret
      exact ⟨_, rfl, bnew (Below.refl _ _) _⟩

end Go.Proofs.Ytnigfddanoaonaa

set_option linter.unusedVariables false
namespace Go.Proofs.Ytnigfddanoaonaa
open Go.RowKit

def runRes (p : Prc) (s : Int) (word : List Int) : Int × List Out × Int :=
  if stateErr p s = 0 then (if rlettersErr p.letters word = 0 then ((readSpec p.rules s word).1, (readSpec p.rules s word).2, 0) else (0, [], rlettersErr p.letters word)) else (0, [], stateErr p s)
def stepRes (p : Prc) (s a : Int) : Int × List Out × Int :=
  if stateErr p s = 0 then (if belowB a p.letters then ((readSpec p.rules s [a]).1, (readSpec p.rules s [a]).2, 0) else (0, [], 2)) else (0, [], stateErr p s)

def OutsPost (w : World) (r : Int × List Out × Int) (e : Ending) (w' : World) : Prop :=
  ∃ v, e = .returned (.tuple #[.int .i64 r.1, v, .int .i64 r.2.2]) ∧ OwnS outR 2 w.heap.size 75 Non w' v r.2.1 ∧ Below w.heap.size w w'

end Go.Proofs.Ytnigfddanoaonaa

set_option linter.unusedVariables false
namespace Go.Proofs.Ytnigfddanoaonaa
open Go.RowKit

end Go.Proofs.Ytnigfddanoaonaa

set_option linter.unusedVariables false
namespace Go.Proofs.Ytnigfddanoaonaa
open Go.RowKit

def commB (rs : List (List Rul)) (s a b : Int) : Bool :=
  decide ((readSpec rs s [a, b]).1 = (readSpec rs s [b, a]).1) && decide (isort (readSpec rs s [a, b]).2 = isort (readSpec rs s [b, a]).2)

theorem letters_two {L a b : Int} (ha : belowB a L = true) (hb : belowB b L = true) : lettersErr L [a, b] = 0 := by simp [lettersErr, ha, hb]

theorem ruleAt_mem {p : Prc} {N : Int} (h : checkErr p N = 0) {s a : Int} (hs : 0 ≤ s ∧ s < p.states) (ha : 0 ≤ a ∧ a < p.letters) :
    (0 ≤ (ruleAt p.rules s a).next ∧ (ruleAt p.rules s a).next < p.states) ∧ (ruleAt p.rules s a).sent.length ≤ 16 ∧ ∀ o ∈ (ruleAt p.rules s a).sent, (0 ≤ o.dst ∧ o.dst < N) ∧ 0 ≤ o.letter ∧ o.letter < 8 := by
  obtain ⟨n, rfl⟩ := Int.eq_ofNat_of_zero_le hs.1
  obtain ⟨m, rfl⟩ := Int.eq_ofNat_of_zero_le ha.1
  have h1 := (check_zero h).2.2.2.1
  have hn : n < p.rules.length := by omega
  have hrow := List.getElem?_eq_getElem hn
  have hl := valid_row h hrow
  have hm : m < (p.rules[n]).length := by omega
  have hr := List.getElem?_eq_getElem hm
  rw [ruleAt_eq hrow hr]
  exact valid_rule h hrow hr
theorem readSpec_right {p : Prc} {N : Int} (h : checkErr p N = 0) : ∀ (word : List Int) (s : Int), 0 ≤ s ∧ s < p.states → lettersErr p.letters word = 0 →
    (0 ≤ (readSpec p.rules s word).1 ∧ (readSpec p.rules s word).1 < p.states) ∧ (readSpec p.rules s word).2.length ≤ 16 * word.length ∧ ∀ o ∈ (readSpec p.rules s word).2, (0 ≤ o.dst ∧ o.dst < N) ∧ 0 ≤ o.letter ∧ o.letter < 8
  | [], s, hs, _ => ⟨hs, by simp [readSpec], by simp [readSpec]⟩
  | a :: r, s, hs, hw => by
    have ha := letters_zero hw a (by simp)
    have hr : lettersErr p.letters r = 0 := by
      unfold lettersErr at hw
      split at hw
      · exact hw
      · cases hw
    obtain ⟨h1, h2, h3⟩ := ruleAt_mem h hs ha
    obtain ⟨h4, h5, h6⟩ := readSpec_right h r _ h1 hr
    refine ⟨h4, ?_, ?_⟩
    · simp only [readSpec, List.length_append, List.length_cons]; omega
    · intro o ho
      simp only [readSpec, List.mem_append] at ho
      rcases ho with ho | ho
      · exact h3 o ho
      · exact h6 o ho

theorem orderR_any (l : List Out) (oa : Option Addr) (c : Nat) (F : Foot) (w : World) (hs : SliceR outR 2 F w oa l) (hc : l.length ≤ c) (hlen : l.length ≤ 1000000) (h : ∀ o ∈ l, (0 ≤ o.dst ∧ o.dst < 12) ∧ 0 ≤ o.letter ∧ o.letter < 8) :
    Calls Try.prog 71 #[.slice oa l.length c] w fun e w' => ∃ v, e = .returned v ∧ OwnS outR 2 w.heap.size 75 Non w' v (isort l) ∧ Below w.heap.size w w' := by
  rw [← picks_isort h]
  exact order_any l oa c F w hs hc hlen

set_option maxRecDepth 100000 in
set_option maxHeartbeats 1000000 in
theorem commuting_any (S L s a b : Int) (rs : List (List Rul)) (oa : Option Addr) (c : Nat) (F : Foot) (w : World) (hs : SliceR (slcR ruleR 2) 1 F w oa rs)
    (hV : Hid (checkErr ⟨S, L, rs⟩ 12 = 0)) (hS : 0 ≤ s ∧ s < S) (hA : belowB a L = true) (hB : belowB b L = true) (ia : I64 a) (ib : I64 b) :
    Calls Try.prog 55 #[.agg #[.int .i64 S, .int .i64 L, .slice oa rs.length c], .int .i64 s, .int .i64 a, .int .i64 b] w fun e w' => e = .returned (.bool (commB rs s a b)) ∧ Below w.heap.size w w' := by
  have HL1 := hide (letters_two hA hB)
  have HL2 := hide (letters_two hB hA)
  have HR1 := hide (readSpec_right hV.out [a, b] s hS HL1.out)
  have HR2 := hide (readSpec_right hV.out [b, a] s hS HL2.out)
  have HC : Hid (commB rs s a b = (decide ((readSpec rs s [a, b]).1 = (readSpec rs s [b, a]).1) && decide (isort (readSpec rs s [a, b]).2 = isort (readSpec rs s [b, a]).2))) := rfl
  have HSS := hide hS
  have IA := hide ia
  have IB := hide ib
  clear hS hA hB ia ib
  go_enter Try.func55, Try.ntmps55
  go_wp2_with fail
  have hb0 := box_refl w (.cells #[.int .i64 S, .int .i64 L, .slice oa rs.length c] 53)
  have hb1 := bnew (below_box hb0) (.cells #[.int .i64 a, .int .i64 b] 3)
  refine (rread_any S L rs oa c s [a, b] (some ⟨w.heap.size + 1, 0, none⟩) 2 F All _ (hs.below rowR_ok hb1) ?hw hV HSS.out HL1 (by simp)).mono ?_
  case hw =>
    have := ints_lit (F := All) (G := All) (w.alloc (.cells #[.int .i64 S, .int .i64 L, .slice oa rs.length c] 53)) 3 [a, b] (by intro x hx; simp at hx; rcases hx with rfl | rfl; exact IA.out; exact IB.out) trivial
    simpa using this
  rintro e w2 ⟨v, rfl, ho, hb2⟩
  have hx2 := box_then (box_new hb0 (by simp) (.cells #[.int .i64 a, .int .i64 b] 3)) (by simp) hb2
  have d0 := box_cell hx2 0
  have d1 := box_cell hx2 1
  have d2 := box_cell hx2 2
  simp at d0 d1 d2
  obtain ⟨oa1, c1, rfl, hc1, hsl1⟩ := ho.slice outR_ok
  clear hb0 hb1 hb2 ho
  generalize readSpec rs s [a, b] = r1 at *
  obtain ⟨t1, l1⟩ := r1
  go_wp2_with fail
  have hxl := below_box hx2
  refine (rread_any S L rs oa c s [b, a] (some ⟨w2.heap.size, 0, none⟩) 2 F All _ (hs.below rowR_ok (bnew hxl _)) ?hw2 hV HSS.out HL2 (by simp)).mono ?_
  case hw2 =>
    have := ints_lit (F := All) (G := All) w2 3 [b, a] (by intro x hx; simp at hx; rcases hx with rfl | rfl; exact IB.out; exact IA.out) trivial
    simpa using this
  rintro e w3 ⟨v, rfl, ho, hb3⟩
  have hsl2 := (hsl1.below outR_ok (bnew (Below.refl _ _) _)).below outR_ok hb3
  have hx3 := below_then (bnew hxl _) hb3
  obtain ⟨oa2, c2, rfl, hc2, hsl3⟩ := ho.slice outR_ok
  clear hsl1 hb3 ho hxl hx2 d0 d1 d2
  generalize readSpec rs s [b, a] = r2 at *
  obtain ⟨t2, l2⟩ := r2
  have hN1 : l1.length ≤ 32 := by have := HR1.out.2.1; simpa using this
  have hN2 : l2.length ≤ 32 := by have := HR2.out.2.1; simpa using this
  by_cases ht : t1 = t2
  case neg =>
    have HC2 : Hid (commB rs s a b = false) := by show _ = _; rw [HC.out]; simp [ht]
    have hq : (t1 == t2) = false := by simp [ht]
    clear ht
    go_wp2_with fail
    go_ret
    exact ⟨ret_bool HC2.out.symm, hx3⟩
  subst ht
  have HC2 : Hid (commB rs s a b = decide (isort l1 = isort l2)) := by show _ = _; rw [HC.out]; simp
  go_wp2_with fail
  refine (orderR_any l1 oa1 c1 _ _ hsl2 hc1 (by omega) HR1.out.2.2).mono ?_
  rintro e w4 ⟨v4, rfl, ho4, hb4⟩
  obtain ⟨oa4, c4, rfl, hc4, hsl4⟩ := ho4.slice outR_ok
  have hsl5 := hsl3.below outR_ok hb4
  have hx4 := below_then hx3 hb4
  clear ho4 hsl2 hsl3 hb4 hx3
  go_wp2_with fail
  refine (orderR_any l2 oa2 c2 _ _ hsl5 hc2 (by omega) HR2.out.2.2).mono ?_
  rintro e w5 ⟨v5, rfl, ho5, hb5⟩
  obtain ⟨oa5, c5, rfl, hc5, hsl6⟩ := ho5.slice outR_ok
  have hsl7 := hsl4.below outR_ok hb5
  have hx5 := below_then hx4 hb5
  clear ho5 hsl4 hsl5 hb5 hx4
  go_wp2_with fail
  refine (sameOutputs_any (isort l1) (isort l2) oa4 oa5 c4 c5 (fun _ => True) _ (hsl7.all outR_ok (by omega)) (hsl6.all outR_ok (by omega)) hc4 (by rw [isort_length]; omega)).mono ?_
  rintro e w6 ⟨rfl, hb6⟩
  have hx6 := below_then hx5 hb6
  go_wp2_with fail
  go_ret
  exact ⟨ret_bool HC2.out.symm, hx6⟩

end Go.Proofs.Ytnigfddanoaonaa

set_option linter.unusedVariables false
namespace Go.Proofs.Ytnigfddanoaonaa
open Go.RowKit

/-- The first state and letters that do not commute. -/
def witB (f : Nat → Nat → Nat → Bool) (s a : Nat) : Nat → Nat → Option (Nat × Nat × Nat)
  | 0, _ => none
  | n + 1, b => if f s a b then witB f s a n (b + 1) else some (s, a, b)
def witA (f : Nat → Nat → Nat → Bool) (s L : Nat) : Nat → Nat → Option (Nat × Nat × Nat)
  | 0, _ => none
  | n + 1, a => (witB f s a L 0).or (witA f s L n (a + 1))
def witS (f : Nat → Nat → Nat → Bool) (L : Nat) : Nat → Nat → Option (Nat × Nat × Nat)
  | 0, _ => none
  | n + 1, s => (witA f s L L 0).or (witS f L n (s + 1))
def witL : Option (Nat × Nat × Nat) → List Int
  | none => []
  | some (s, a, b) => [(s : Int), (a : Int), (b : Int)]
theorem witB_good (f : Nat → Nat → Nat → Bool) (s a : Nat) {L b : Nat} (h : b < L) (hf : f s a b = true) : witB f s a (L - b) b = witB f s a (L - (b + 1)) (b + 1) := by
  rw [show L - b = (L - (b + 1)) + 1 from by omega, witB, if_pos hf]
theorem witB_bad (f : Nat → Nat → Nat → Bool) (s a : Nat) {L b : Nat} (h : b < L) (hf : f s a b = false) : witB f s a (L - b) b = some (s, a, b) := by
  rw [show L - b = (L - (b + 1)) + 1 from by omega, witB, if_neg (by simp [hf])]
theorem witA_step (f : Nat → Nat → Nat → Bool) (s : Nat) {L a : Nat} (h : a < L) : witA f s L (L - a) a = (witB f s a L 0).or (witA f s L (L - (a + 1)) (a + 1)) := by
  rw [show L - a = (L - (a + 1)) + 1 from by omega, witA]
theorem witS_step (f : Nat → Nat → Nat → Bool) (L : Nat) {S s : Nat} (h : s < S) : witS f L (S - s) s = (witA f s L (L - 0) 0).or (witS f L (S - (s + 1)) (s + 1)) := by
  rw [show S - s = (S - (s + 1)) + 1 from by omega, witS]
  rfl
def commN (rs : List (List Rul)) (s a b : Nat) : Bool := commB rs s a b
def abelRes (p : Prc) : Bool × List Int × Int :=
  if checkErr p 12 = 0 then ((witS (commN p.rules) p.letters.toNat p.states.toNat 0).isNone, witL (witS (commN p.rules) p.letters.toNat p.states.toNat 0), 0) else (false, [], checkErr p 12)
def AbelPost (w : World) (r : Bool × List Int × Int) (e : Ending) (w' : World) : Prop :=
  ∃ v, e = .returned (.tuple #[.bool r.1, v, .int .i64 r.2.2]) ∧ OwnS intR 1 w.heap.size 3 Non w' v r.2.1 ∧ Below w.heap.size w w'
def IntsPost (w : World) (r : List Int) (e : Ending) (w' : World) : Prop :=
  ∃ v, e = .returned v ∧ OwnS intR 1 w.heap.size 3 Non w' v r ∧ Below w.heap.size w w'
theorem belowN {k n : Nat} (h : k < n) : belowB (k : Int) (n : Int) = true := by simp [belowB]; omega
theorem i64_small {x : Int} (h : 0 ≤ x ∧ x ≤ 1000) : I64 x := by unfold I64; omega

set_option maxRecDepth 100000 in
set_option maxHeartbeats 1000000 in
theorem witness_any (S' L' : Nat) (rs : List (List Rul)) (oa : Option Addr) (c : Nat) (F : Foot) (w : World) (hs : SliceR (slcR ruleR 2) 1 F w oa rs) (HV : Hid (checkErr ⟨S', L', rs⟩ 12 = 0)) (hS16 : S' ≤ 16) (hL8 : L' ≤ 8) :
    Calls Try.prog 34 #[.agg #[.int .i64 S', .int .i64 L', .slice oa rs.length c]] w (IntsPost w (witL (witS (commN rs) L' S' 0))) := by
  generalize hW : witS (commN rs) L' S' 0 = W
  have HWW := hide hW
  clear hW
  go_enter Try.func34, Try.ntmps34
  go_wp2_with fail
  go_loopw [3] (fun i wr => ∃ k : Nat, k ≤ S' ∧ i = .int .i64 k ∧ Hid (W = witS (commN rs) L' (S' - k) k) ∧
      Below (w.heap.size + 1) (w.alloc (.cells #[.int .i64 S', .int .i64 L', .slice oa rs.length c] 53)) wr) (fun i _ => S' - (intOf i).toNat)
  case atStart => exact ⟨0, by omega, rfl, HWW.out.symm, box_refl _ _⟩
  case round =>
    obtain ⟨k, hk, rfl, HE, hb⟩ := hrel
    have d0 := box_cell hb 0
    have d1 := box_cell hb 1
    have d2 := box_cell hb 2
    simp at d0 d1 d2
    by_cases hlt : k < S'
    · have hltb : decide ((k : Int) < (S' : Int)) = true := by simp; omega
      have HE2 := hide (HE.out.trans (witS_step (commN rs) L' hlt))
      go_wp2_with fail
      obtain ⟨wo, rfl⟩ : ∃ wo : World, wo = wr := ⟨_, rfl⟩
      go_loopw [4] (fun i wr => ∃ j : Nat, j ≤ L' ∧ i = .int .i64 j ∧ Hid (W = (witA (commN rs) k L' (L' - j) j).or (witS (commN rs) L' (S' - (k + 1)) (k + 1))) ∧
        Below (w.heap.size + 1) (w.alloc (.cells #[.int .i64 S', .int .i64 L', .slice oa rs.length c] 53)) wr) (fun i _ => L' - (intOf i).toNat)
      case atStart => exact ⟨0, by omega, rfl, HE2, hb⟩
      case round =>
        clear hb d0 d1 d2
        obtain ⟨j, hj, rfl, HF, hb⟩ := hrel
        have d0 := box_cell hb 0
        have d1 := box_cell hb 1
        have d2 := box_cell hb 2
        simp at d0 d1 d2
        by_cases hlj : j < L'
        · have hljb : decide ((j : Int) < (L' : Int)) = true := by simp; omega
          have HF2 : Hid (W = ((witB (commN rs) k j (L' - 0) 0).or (witA (commN rs) k L' (L' - (j + 1)) (j + 1))).or (witS (commN rs) L' (S' - (k + 1)) (k + 1))) := by show _ = _; rw [HF.out, witA_step (commN rs) k hlj]; rfl
          go_wp2_with fail
          obtain ⟨wp, rfl⟩ : ∃ wp : World, wp = wr := ⟨_, rfl⟩
          go_loopw [5] (fun i wr => ∃ m : Nat, m ≤ L' ∧ i = .int .i64 m ∧ Hid (W = ((witB (commN rs) k j (L' - m) m).or (witA (commN rs) k L' (L' - (j + 1)) (j + 1))).or (witS (commN rs) L' (S' - (k + 1)) (k + 1))) ∧
            Below (w.heap.size + 1) (w.alloc (.cells #[.int .i64 S', .int .i64 L', .slice oa rs.length c] 53)) wr) (fun i _ => L' - (intOf i).toNat)
          case atStart => exact ⟨0, by omega, rfl, HF2, hb⟩
          case round =>
            clear hb d0 d1 d2
            obtain ⟨m, hm, rfl, HG, hb⟩ := hrel
            have d0 := box_cell hb 0
            have d1 := box_cell hb 1
            have d2 := box_cell hb 2
            simp at d0 d1 d2
            by_cases hlm : m < L'
            · have hlmb : decide ((m : Int) < (L' : Int)) = true := by simp; omega
              go_wp2_with fail
              refine (commuting_any S' L' k j m rs oa c F _ (hs.below rowR_ok (below_box hb)) HV (by omega) (belowN hlj) (belowN hlm) (i64_small (by omega)) (i64_small (by omega))).mono ?_
              rintro e w5 ⟨rfl, hb5⟩
              have hb6 := box_then hb (by simp) hb5
              clear hb5 d0 d1 d2
              cases hcm : commB rs k j m
              · have HR : Hid (W = some (k, j, m)) := by
                  show _ = _
                  rw [HG.out, witB_bad (commN rs) k j hlm hcm]; rfl
                go_wp2_with fail
                go_ret
                refine ⟨_, rfl, ?_, bnew (below_box hb6) _⟩
                rw [HR.out]
                have hI : ∀ x ∈ [(k : Int), (j : Int), (m : Int)], I64 x := by intro x hx; simp at hx; rcases hx with rfl | rfl | rfl <;> exact i64_small (by omega)
                exact (OwnS.ints w5 3 _ hI (by simp)).rebase (below_box hb6).size
              · go_wp2_with fail
                go_roundw
                case rel => exact ⟨m + 1, by omega, by go_num, by show _ = _; rw [HG.out, witB_good (commN rs) k j hlm hcm], hb6⟩
                case measure => simp [intOf]; omega
            · go_wp2_with fail
              go_roundw
              case rel =>
                refine ⟨j + 1, by omega, by go_num, ?_, hb⟩
                show _ = _
                have : L' - m = 0 := by omega
                rw [HG.out, this]; rfl
              case measure => simp [intOf]; omega
        · go_wp2_with fail
          go_roundw
          case rel =>
            refine ⟨k + 1, by omega, by go_num, ?_, hb⟩
            show _ = _
            have : L' - j = 0 := by omega
            rw [HF.out, this]; rfl
          case measure => simp [intOf]; omega
    · have HR : Hid (W = none) := by
        show _ = _
        have : S' - k = 0 := by omega
        rw [HE.out, this]; rfl
      go_wp2_with fail
      go_ret
      exact ⟨_, rfl, by rw [HR.out]; exact OwnS.nil _ _ _ _ _ _, below_box hb⟩

end Go.Proofs.Ytnigfddanoaonaa

set_option linter.unusedVariables false
set_option linter.unusedSimpArgs false
namespace Go.Proofs.Ytnigfddanoaonaa
open Go.RowKit

theorem tabR' : RepOk (slcR intR 1) 1 := slcR_ok intR_ok (by omega)
theorem checkErr_more {p : Prc} {N : Int} (h : checkErr p N = 0) : checkErr p 12 = 0 := by
  obtain ⟨h1, h2, h3, h4, h5⟩ := check_zero h
  have hs : ∀ l : List Out, sentErr N l = 0 → sentErr 12 l = 0 := fun l => by
    induction l with
    | nil => intro _; rfl
    | cons x r ih =>
      intro hl
      unfold sentErr at hl ⊢
      split at hl
      · rename_i hx
        simp [belowB] at hx
        rw [if_pos (by simp [belowB]; omega)]
        exact ih hl
      · cases hl
  have hr : ∀ r : Rul, ruleErr p.states N r = 0 → ruleErr p.states 12 r = 0 := fun r hr => by
    unfold ruleErr at hr ⊢
    split at hr
    · rename_i hx
      rw [if_pos hx]
      split at hr
      · rename_i hy
        rw [if_pos hy]
        exact hs _ hr
      · cases hr
    · cases hr
  have ho : ∀ l : List Rul, rowErr p.states N l = 0 → rowErr p.states 12 l = 0 := fun l => by
    induction l with
    | nil => intro _; rfl
    | cons x r ih =>
      intro hl
      unfold rowErr at hl ⊢
      split at hl
      · rename_i hx
        rw [if_pos (hr x hx)]
        exact ih hl
      · rename_i hx; exact absurd hl hx
  have hw : ∀ l : List (List Rul), rowsErr p.states p.letters N l = 0 → rowsErr p.states p.letters 12 l = 0 := fun l => by
    induction l with
    | nil => intro _; rfl
    | cons x r ih =>
      intro hl
      unfold rowsErr at hl ⊢
      split at hl
      · rename_i hx
        rw [if_pos hx]
        split at hl
        · rename_i hy
          rw [if_pos (ho x hy)]
          exact ih hl
        · rename_i hy; exact absurd hl hy
      · cases hl
  unfold checkErr
  rw [if_neg (by omega), if_neg (by omega), if_neg (by omega)]
  exact hw _ h5

/-- All processors are abelian. -/
def commP (procs : List Prc) : Bool := procs.all fun p => (witS (commN p.rules) p.letters.toNat p.states.toNat 0).isNone

set_option maxRecDepth 100000 in
set_option maxHeartbeats 2000000 in
theorem rcommutes_any (procs : List Prc) (op : Option Addr) (cp : Nat) (os : Option Addr) (ns cs : Nat) (ow : Option Addr) (nw cw : Nat) (F : Foot) (w : World) (hp : SliceR prcR 3 F w op procs) (hp2 : procs.length ≤ 12) {N : Int} (hv : ∀ (i : Nat) (p : Prc), procs[i]? = some p → checkErr p N = 0) :
    Calls Try.prog 14 #[.agg #[.slice op procs.length cp, .slice os ns cs, .slice ow nw cw]] w fun e w' => e = .returned (.bool (commP procs)) ∧ Below w.heap.size w w' := by
  have HP := hide hp
  have HV := hide hv
  clear hp hv
  obtain ⟨n, hn⟩ : ∃ n, n = procs.length := ⟨_, rfl⟩
  have HN := hide hn
  rw [← hn] at hp2 ⊢
  clear hn
  obtain ⟨W1, e1⟩ : ∃ W1, w.alloc (.cells #[.slice op n cp, .slice os ns cs, .slice ow nw cw] 26) = W1 := ⟨_, rfl⟩
  have bx1 : Box W1 w.heap.size [.slice op n cp, .slice os ns cs, .slice ow nw cw] 26 := by rw [← e1]; exact Box.new w [.slice op n cp, .slice os ns cs, .slice ow nw cw] 26
  have bb1 := bnew (Below.refl w.heap.size w) (.cells #[.slice op n cp, .slice os ns cs, .slice ow nw cw] 26)
  rw [e1] at bb1
  have HB := hide bb1
  have HX := hide bx1
  clear bx1 bb1
  go_enter Try.func14, Try.ntmps14
  go_wp2_with fail
  go_loopw [3] (fun iv wr => ∃ i : Nat, i ≤ n ∧ iv = .int .i64 i ∧ Hid (commP procs = commP (procs.drop i)) ∧ Hid (Below W1.heap.size W1 wr)) (fun iv _ => n - (intOf iv).toNat)
  case atStart => exact ⟨0, by omega, rfl, rfl, Below.refl _ _⟩
  case round =>
    obtain ⟨i, hi, rfl, HE, HBi⟩ := hrel
    have c0 := (HX.out.below HBi.out).cell 0
    simp only [List.getElem?_cons_zero, List.getElem?_cons_succ] at c0
    by_cases hlt : i < n
    · obtain ⟨S5, Le5, rs5, b7, off7, oa7, c7, hd7, hpr, rfl, _, y0, y1, y2, _, il5, hrc, hrc2, hrs⟩ := ((HP.out.below prcR_ok HB.out).below prcR_ok HBi.out).prc_at (i := i) (by have := HN.out; omega)
      have hz := check_zero (HV.out _ _ hpr)
      obtain ⟨Sn, rfl⟩ := Int.eq_ofNat_of_zero_le (show (0 : Int) ≤ S5 by have := hz.2.1.1; simp only at this; omega)
      obtain ⟨Ln, rfl⟩ := Int.eq_ofNat_of_zero_le (show (0 : Int) ≤ Le5 by have := hz.2.2.1.1; simp only at this; omega)
      have HC := hide (witness_any Sn Ln rs5 oa7 c7 _ wr hrs (checkErr_more (HV.out _ _ hpr)) (by have := hz.2.1.2; simp only at this; omega) (by have := hz.2.2.1.2; simp only at this; omega))
      have HD : Hid (commP (procs.drop i) = ((witS (commN rs5) Ln Sn 0).isNone && commP (procs.drop (i + 1)))) := by show _ = _; rw [hd7]; rfl
      clear hd7 hrs hrc hrc2 hpr hz
      obtain ⟨wo, hwo⟩ : ∃ wo, wo = witS (commN rs5) Ln Sn 0 := ⟨_, rfl⟩
      rw [← hwo] at HC HD
      clear hwo
      cases wo with
      | none =>
        go_wp2_with (go_at_call 34; refine HC.out.mono ?_; rintro e w5 ⟨v, rfl, ho, h5⟩; obtain ⟨o5, c5, rfl, _, _⟩ := ho.slice intR_ok; have HB5 := hide (HBi.out.trans (h5.mono HBi.out.size)); clear h5 ho; simp only [witL, List.length_nil])
        go_roundw
        case rel => exact ⟨i + 1, by omega, by go_num, by show _ = _; rw [HE.out, HD.out]; rfl, HB5⟩
        case measure => simp [intOf]; omega
      | some t =>
        obtain ⟨t1, t2, t3⟩ := t
        go_wp2_with (go_at_call 34; refine HC.out.mono ?_; rintro e w5 ⟨v, rfl, ho, h5⟩; obtain ⟨o5, c5, rfl, _, _⟩ := ho.slice intR_ok; have HB5 := hide (HBi.out.trans (h5.mono HBi.out.size)); clear h5 ho; simp only [witL, List.length_cons, List.length_nil])
        go_ret
        exact ⟨ret_bool (by rw [HE.out, HD.out]; rfl), HB.out.trans (HB5.out.mono HB.out.size)⟩
    · go_wp2_with fail
      go_ret
      exact ⟨ret_bool (by rw [HE.out, List.drop_eq_nil_of_le (by have := HN.out; omega)]; rfl), HB.out.trans (HBi.out.mono HB.out.size)⟩

set_option maxRecDepth 100000 in
set_option maxHeartbeats 2000000 in
theorem rfew55_any (procs : List Prc) (op : Option Addr) (cp : Nat) (os : Option Addr) (ns cs : Nat) (wt : List (List Int)) (ow : Option Addr) (cw : Nat) (F : Foot) (w : World) (hp : SliceR prcR 3 F w op procs) (hp2 : procs.length ≤ 9223372036854775807) (ht : SliceR (slcR intR 1) 1 F w ow wt) (ht2 : wt.length ≤ 9223372036854775807) :
    Calls Try.prog 11 #[.agg #[.slice op procs.length cp, .slice os ns cs, .slice ow wt.length cw]] w (SomeBool w) := by
  have HP := hide hp
  have HT := hide ht
  clear hp ht
  obtain ⟨n, hn⟩ : ∃ n, n = procs.length := ⟨_, rfl⟩
  obtain ⟨tl, htl⟩ : ∃ n, n = wt.length := ⟨_, rfl⟩
  have HN := hide hn
  have HTL := hide htl
  rw [← hn] at hp2 ⊢
  rw [← htl] at ht2 ⊢
  clear hn htl
  obtain ⟨W1, e1⟩ : ∃ W1, w.alloc (.cells #[.slice op n cp, .slice os ns cs, .slice ow tl cw] 26) = W1 := ⟨_, rfl⟩
  have bx1 : Box W1 w.heap.size [.slice op n cp, .slice os ns cs, .slice ow tl cw] 26 := by rw [← e1]; exact Box.new w [.slice op n cp, .slice os ns cs, .slice ow tl cw] 26
  have bb1 := bnew (Below.refl w.heap.size w) (.cells #[.slice op n cp, .slice os ns cs, .slice ow tl cw] 26)
  rw [e1] at bb1
  have z0 := bx1.cell 0
  have z1 := bx1.cell 1
  have z2 := bx1.cell 2
  simp only [List.getElem?_cons_zero, List.getElem?_cons_succ] at z0 z1 z2
  have HB := hide bb1
  have HX := hide bx1
  clear bx1 bb1
  by_cases h1 : 14 < n
  · have k1 : (14 : Int) < n := by omega
    go_enter Try.func11, Try.ntmps11
    go_wp2_with fail
    go_ret
    exact ⟨_, rfl, HB.out⟩
  have k1 : ¬ (14 : Int) < n := by omega
  by_cases h2 : 30 < ns
  · have k2 : (30 : Int) < ns := by omega
    go_enter Try.func11, Try.ntmps11
    go_wp2_with fail
    go_ret
    exact ⟨_, rfl, HB.out⟩
  have k2 : ¬ (30 : Int) < ns := by omega
  by_cases h3 : 30 < tl
  · have k3 : (30 : Int) < tl := by omega
    go_enter Try.func11, Try.ntmps11
    go_wp2_with fail
    go_ret
    exact ⟨_, rfl, HB.out⟩
  have k3 : ¬ (30 : Int) < tl := by omega
  go_enter Try.func11, Try.ntmps11
  go_wp2_with fail
  clear z0 z1 z2
  go_loopw [3] (fun iv wr => ∃ i : Nat, i ≤ n ∧ iv = .int .i64 i ∧ Hid (Below W1.heap.size W1 wr)) (fun iv _ => n - (intOf iv).toNat)
  case atStart => exact ⟨0, by omega, rfl, Below.refl _ _⟩
  case round =>
    obtain ⟨i, hi, rfl, HBi⟩ := hrel
    have c0 := (HX.out.below HBi.out).cell 0
    have c2 := (HX.out.below HBi.out).cell 2
    simp only [List.getElem?_cons_zero, List.getElem?_cons_succ] at c0 c2
    by_cases hlt : i < n
    · obtain ⟨S5, Le5, rs5, b7, off7, oa7, c7, hd7, hpr, rfl, _, y0, y1, y2, _, il5, hrc, hrc2, hrs⟩ := ((HP.out.below prcR_ok HB.out).below prcR_ok HBi.out).prc_at (i := i) (by have := HN.out; omega)
      have HC := hide (few_any S5 Le5 rs5 oa7 c7 _ wr hrs hrc hrc2)
      clear hd7 hrs hrc hrc2 hpr
      go_wp2_with fail
      refine HC.out.mono ?_
      rintro e w5 ⟨b, rfl, h5⟩
      have HB5 := hide (HBi.out.trans (h5.mono HBi.out.size))
      clear h5
      cases b
      · go_wp2_with fail
        go_ret
        exact ⟨_, rfl, HB.out.trans (HB5.out.mono HB.out.size)⟩
      · go_wp2_with fail
        go_roundw
        case rel => exact ⟨i + 1, by omega, by go_num, HB5⟩
        case measure => simp [intOf]; omega
    · have HT5 := hide ((HT.out.below tabR' HB.out).below tabR' HBi.out)
      go_wp2_with fail
      go_loopw [4] (fun iv wr2 => wr2 = wr ∧ ∃ i : Nat, i ≤ tl ∧ iv = .int .i64 i) (fun iv _ => tl - (intOf iv).toNat)
      case atStart => exact ⟨by first | rfl | trivial, 0, by omega, rfl⟩
      case round =>
        obtain ⟨rfl, i4, hi4, rfl⟩ := hrel
        by_cases hlt4 : i4 < tl
        · obtain ⟨l, _, _, b9, off9, oa9, c9, rfl, _, y9, _, hcl2, _⟩ := HT5.out.slc_at (i := i4) (by have := HTL.out; omega)
          by_cases hl30 : 30 < l.length
          · have q : (30 : Int) < l.length := by omega
            go_wp2_with fail
            go_ret
            exact ⟨_, rfl, HB.out.trans (HBi.out.mono HB.out.size)⟩
          · have q : ¬ (30 : Int) < l.length := by omega
            go_wp2_with fail
            go_roundw
            case rel => exact ⟨by first | rfl | trivial, i4 + 1, by omega, by go_num⟩
            case measure => simp [intOf]; omega
        · go_wp2_with fail
          go_ret
          exact ⟨_, rfl, HB.out.trans (HBi.out.mono HB.out.size)⟩

set_option maxRecDepth 100000 in
set_option maxHeartbeats 2000000 in
theorem rsmall_any (np cp : Nat) (op : Option Addr) (os : Option Addr) (ns cs : Nat) (wt : List (List Int)) (ow : Option Addr) (cw : Nat) (F : Foot) (w : World) (ht : SliceR (slcR intR 1) 1 F w ow wt) (ht2 : wt.length ≤ 12) (hr : ∀ t ∈ wt, t.length ≤ 8 ∧ ∀ k ∈ t, 0 ≤ k) :
    Calls Try.prog 13 #[.agg #[.slice op np cp, .slice os ns cs, .slice ow wt.length cw]] w fun e w' => ∃ b, e = .returned (.bool b) ∧ (b = true → ∀ t ∈ wt, ∀ k ∈ t, k ≤ 40) ∧ Below w.heap.size w w' := by
  have HT := hide ht
  have HRR := hide hr
  clear ht hr
  obtain ⟨tl, htl⟩ : ∃ n, n = wt.length := ⟨_, rfl⟩
  have HTL := hide htl
  rw [← htl] at ht2 ⊢
  clear htl
  obtain ⟨W1, e1⟩ : ∃ W1, w.alloc (.cells #[.slice op np cp, .slice os ns cs, .slice ow tl cw] 26) = W1 := ⟨_, rfl⟩
  have bx1 : Box W1 w.heap.size [.slice op np cp, .slice os ns cs, .slice ow tl cw] 26 := by rw [← e1]; exact Box.new w [.slice op np cp, .slice os ns cs, .slice ow tl cw] 26
  have bb1 := bnew (Below.refl w.heap.size w) (.cells #[.slice op np cp, .slice os ns cs, .slice ow tl cw] 26)
  rw [e1] at bb1
  have c2 := bx1.cell 2
  simp only [List.getElem?_cons_zero, List.getElem?_cons_succ] at c2
  have HB := hide bb1
  have HT5 := hide (HT.out.below tabR' bb1)
  clear bx1 bb1
  go_enter Try.func13, Try.ntmps13
  go_wp2_with fail
  go_loopw [3, 4] (fun sv iv wr => wr = W1 ∧ ∃ i a : Nat, i ≤ tl ∧ a ≤ 320 * i ∧ sv = .int .i64 a ∧ iv = .int .i64 i ∧ Hid (∀ t ∈ wt.take i, ∀ k ∈ t, k ≤ 40)) (fun _ iv _ => tl - (intOf iv).toNat)
  case atStart => exact ⟨rfl, 0, 0, by omega, by omega, rfl, rfl, fun t ht => by simp at ht⟩
  case round =>
    obtain ⟨rfl, i, a, hi, ha, rfl, rfl, HE⟩ := hrel
    by_cases hlt : i < tl
    · obtain ⟨l, hd, hxl, b9, off9, oa9, c9, rfl, _, y9, _, hcl2, hsl⟩ := HT5.out.slc_at (i := i) (by have := HTL.out; omega)
      have HL8 := hide (HRR.out l (List.mem_of_getElem? hxl))
      have HS9 := hide hsl
      obtain ⟨ll, hll⟩ : ∃ n, n = l.length := ⟨_, rfl⟩
      have h8 : ll ≤ 8 := by rw [hll]; exact HL8.out.1
      rw [← hll] at y9 hcl2
      have HLL := hide hll
      have HTK : Hid (wt.take (i + 1) = wt.take i ++ [l]) := by show _ = _; rw [List.take_add_one, hxl]; rfl
      clear hd hxl hsl hll
      go_wp2_with fail
      go_loopw [3, 5] (fun sv iv wr2 => wr2 = wr ∧ ∃ j a' : Nat, j ≤ ll ∧ a' ≤ 320 * i + 40 * j ∧ sv = .int .i64 a' ∧ iv = .int .i64 j ∧ Hid (∀ k ∈ l.take j, k ≤ 40)) (fun _ iv _ => ll - (intOf iv).toNat)
      case atStart => exact ⟨by first | rfl | trivial, 0, a, by omega, by omega, rfl, rfl, fun t ht => by simp at ht⟩
      case round =>
        obtain ⟨rfl, j, a', hj, ha', rfl, rfl, HF⟩ := hrel
        by_cases hlj : j < ll
        · obtain ⟨k, _, hxk, _, b2, off2, rfl, _, c3⟩ := HS9.out.int_at (i := j) (by have := HLL.out; omega)
          have hk0 := HL8.out.2 k (List.mem_of_getElem? hxk)
          by_cases hk40 : k ≤ 40
          · obtain ⟨kn, rfl⟩ := Int.eq_ofNat_of_zero_le hk0
            have HF2 : Hid (∀ x ∈ l.take (j + 1), x ≤ 40) := fun x hx => by
              rw [List.take_add_one, hxk] at hx
              rcases List.mem_append.1 hx with hx | hx
              · exact HF.out x hx
              · simp at hx; rw [hx]; exact hk40
            have q1 : ¬ (40 : Int) < kn := by omega
            clear hxk hk0
            go_wp2_with fail
            go_roundw
            case rel => exact ⟨by first | rfl | trivial, j + 1, a' + kn, by omega, by omega, by go_num, by go_num, HF2⟩
            case measure => simp [intOf]; omega
          · have q1 : (40 : Int) < k := by omega
            clear hk40 hxk
            go_wp2_with fail
            go_ret
            exact ⟨_, rfl, (fun h => by cases h), HB.out⟩
        · have HTN : Hid (∀ t ∈ wt.take (i + 1), ∀ k ∈ t, k ≤ 40) := fun t ht k hk => by
            rw [HTK.out] at ht
            rcases List.mem_append.1 ht with ht | ht
            · exact HE.out t ht k hk
            · simp at ht
              subst ht
              have := HF.out k
              rw [List.take_of_length_le (by have := HLL.out; omega)] at this
              exact this hk
          go_wp2_with fail
          go_roundw
          case rel => exact ⟨by first | rfl | trivial, i + 1, a', by omega, by omega, by first | rfl | trivial, by go_num, HTN⟩
          case measure => simp [intOf]; omega
    · have HA : Hid (∀ t ∈ wt, ∀ k ∈ t, k ≤ 40) := by
        have := HE.out
        rw [List.take_of_length_le (by have := HTL.out; omega)] at this
        exact this
      go_wp2_with fail
      go_ret
      exact ⟨_, rfl, fun _ => HA.out, HB.out⟩

end Go.Proofs.Ytnigfddanoaonaa

set_option linter.unusedVariables false
set_option linter.unusedSimpArgs false
set_option linter.unnecessarySimpa false
namespace Go.Proofs.Ytnigfddanoaonaa
open Go.RowKit

def FewB (n m : Nat) (w : World) (e : Ending) (w' : World) : Prop := ∃ b, e = .returned (.bool b) ∧ (b = true → n ≤ m) ∧ w = w'
theorem any_more {l : List Int} {k : Nat} {x : Int} {q : Int → Bool} (h : l.any q = (l.drop k).any q) (hd : l.drop k = x :: l.drop (k + 1)) (hx : q x = false) : l.any q = (l.drop (k + 1)).any q := by
  rw [h, hd, List.any_cons, hx, Bool.false_or]
theorem rcheck56_any (l : List Int) (oa : Option Addr) (c : Nat) (F : Foot) (w : World) (hs : SliceR intR 1 F w oa l) (hc2 : l.length ≤ 9223372036854775807) :
    Calls Try.prog 16 #[.slice oa l.length c] w fun e w' => e = .returned (.int .i64 (fateErr l)) ∧ w = w' := by
  by_cases hl : 4096 < l.length
  · have HR : Hid (fateErr l = 5) := if_pos hl
    clear hs
    go_enter Try.func16, Try.ntmps16
    go_wp2_with fail
    go_ret
    exact ⟨ret_int (by rw [HR.out]), rfl⟩
  · have HR : Hid (fateErr l = if l.any badFate then 1 else 0) := if_neg hl
    have HS := hide hs
    clear hs
    go_enter Try.func16, Try.ntmps16
    go_wp2_with fail
    go_loop [3] (fun i => ∃ k : Nat, k ≤ l.length ∧ i = .int .i64 k ∧ Hid (l.any badFate = (l.drop k).any badFate)) (fun i => l.length - (intOf i).toNat)
    case atStart => exact ⟨0, by omega, rfl, rfl⟩
    case round =>
      obtain ⟨k, hk, rfl, HE⟩ := hrel
      by_cases hlt : k < l.length
      · obtain ⟨x, hd, hxx, _, b, off, rfl, _, c0⟩ := HS.out.int_at hlt
        by_cases h0 : x < 0
        · have HB : Hid (fateErr l = 1) := by
            show _ = _
            have hb : badFate x = true := by unfold badFate; simp [h0]
            rw [HR.out, HE.out, hd, List.any_cons, hb]
            rfl
          clear hd hxx
          go_wp2_with fail
          go_ret
          exact ⟨ret_int (by rw [HB.out]), rfl⟩
        · by_cases h3 : 3 < x
          · have HB : Hid (fateErr l = 1) := by
              show _ = _
              have hb : badFate x = true := by unfold badFate; simp [h3]
              rw [HR.out, HE.out, hd, List.any_cons, hb]
              rfl
            clear hd hxx
            go_wp2_with fail
            go_ret
            exact ⟨ret_int (by rw [HB.out]), rfl⟩
          · have HD := hide (any_more HE.out hd (by unfold badFate; simp; omega))
            clear hd hxx
            go_wp2_with fail
            go_round
            case rel => exact ⟨k + 1, by omega, by go_num, HD.out⟩
            case measure => simp [intOf]; omega
      · go_wp2_with fail
        go_ret
        exact ⟨ret_int (by rw [HR.out, HE.out, List.drop_eq_nil_of_le (by omega)]; rfl), rfl⟩

end Go.Proofs.Ytnigfddanoaonaa

set_option linter.unusedVariables false
set_option linter.unusedSimpArgs false
namespace Go.Proofs.Ytnigfddanoaonaa
open Go.RowKit

/-- Few fates: at most 80 where they are right. -/
def FewF (P : Prop) (n : Nat) (w : World) (e : Ending) (w' : World) : Prop := ∃ b, e = .returned (.bool b) ∧ (b = true → P → n ≤ 80) ∧ w = w'
theorem few80_any (l : List Int) (oa : Option Addr) (c : Nat) (w : World) (hc2 : l.length ≤ 9223372036854775807) : Calls Try.prog 15 #[.slice oa l.length c] w (FewF (fateErr l = 0) l.length w) := by
  have HZ : Hid (fateErr l = 0 → l.length ≤ 4096) := fun h => by
    unfold fateErr at h
    split at h
    · cases h
    · omega
  generalize (fateErr l = 0) = P at HZ ⊢
  obtain ⟨n, hn⟩ : ∃ n, n = l.length := ⟨_, rfl⟩
  rw [← hn] at hc2 HZ ⊢
  clear hn
  by_cases h1 : n ≤ 80
  · have k1 : (n : Int) ≤ 80 := by omega
    go_enter Try.func15, Try.ntmps15
    go_wp2_with fail
    go_ret
    exact ⟨_, rfl, (fun _ _ => h1), rfl⟩
  · have k1 : ¬ (n : Int) ≤ 80 := by omega
    by_cases h2 : 4096 < n
    · have k2 : (4096 : Int) < n := by omega
      by_cases h3 : n ≤ 8192
      · go_enter Try.func15, Try.ntmps15
        go_wp2_with fail
        go_ret
        exact ⟨_, rfl, (fun _ h => by have := HZ.out h; omega), rfl⟩
      · have k3 : ¬ (n : Int) ≤ 8192 := by omega
        go_enter Try.func15, Try.ntmps15
        go_wp2_with fail
        go_ret
        exact ⟨_, rfl, (fun h _ => by first | omega | cases h), rfl⟩
    · have k2 : ¬ (4096 : Int) < n := by omega
      go_enter Try.func15, Try.ntmps15
      go_wp2_with fail
      go_ret
      exact ⟨_, rfl, (fun h _ => by first | omega | cases h), rfl⟩

structure SmallIn (x : Nwk) (fs : List Int) : Prop where
  net : netErr x = 0
  fate : fateErr fs = 0
  few : ∀ t ∈ x.waiting, ∀ k ∈ t, k ≤ 40
  comm : commP x.procs = true
  f80 : fs.length ≤ 80

set_option maxRecDepth 100000 in
set_option maxHeartbeats 4000000 in
theorem small56_any (w : World) (ps : List Prc) (st : List Int) (wt : List (List Int)) (oa : Option Addr) (c : Nat) (ob : Option Addr) (e : Nat) (oc : Option Addr) (g : Nat) (hn : NetIn w ps st wt oa c ob e oc g)
    (fs : List Int) (oF : Option Addr) (cF : Nat) (hF2 : fs.length ≤ 9223372036854775807) (hF : SliceR intR 1 All w oF fs) :
    Calls Try.prog 4 #[.agg #[.slice oa ps.length c, .slice ob st.length e, .slice oc wt.length g], .slice oF fs.length cF] w fun r w' => ∃ b, r = .returned (.bool b) ∧ (b = true → SmallIn ⟨ps, st, wt⟩ fs) ∧ Below w.heap.size w w' := by
  have HNI := hide hn
  have HF := hide hF
  have hb := bnew (Below.refl w.heap.size w) (.cells #[.slice oa ps.length c, .slice ob st.length e, .slice oc wt.length g] 26)
  have bxx := Box.new w [.slice oa ps.length c, .slice ob st.length e, .slice oc wt.length g] 26
  obtain ⟨np, hnp⟩ : ∃ n, n = ps.length := ⟨_, rfl⟩
  obtain ⟨ns, hns⟩ : ∃ n, n = st.length := ⟨_, rfl⟩
  obtain ⟨nw, hnw⟩ : ∃ n, n = wt.length := ⟨_, rfl⟩
  obtain ⟨nf, hnf⟩ : ∃ n, n = fs.length := ⟨_, rfl⟩
  have HC1 : Hid (∀ u, Below w.heap.size w u → Calls Try.prog 11 #[.agg #[.slice oa ps.length c, .slice ob st.length e, .slice oc wt.length g]] u (SomeBool u)) := fun u h => rfew55_any ps oa c ob st.length e wt oc g All u (HNI.out.p.below prcR_ok h) HNI.out.pl (HNI.out.t.below tabR' h) HNI.out.wl
  have HC2 : Hid (∀ u, Below w.heap.size w u → Calls Try.prog 12 #[.agg #[.slice oa ps.length c, .slice ob st.length e, .slice oc wt.length g]] u fun r w' => r = .returned (.int .i64 (netErr ⟨ps, st, wt⟩)) ∧ Below u.heap.size u w') := fun u h => rnetCheck_any ps oa c st ob e wt oc g All u (HNI.out.p.below prcR_ok h) HNI.out.pl (HNI.out.s.below intR_ok h) HNI.out.sl (HNI.out.t.below tabR' h) HNI.out.wl
  have HC3 : Hid (netErr ⟨ps, st, wt⟩ = 0 → ∀ u, Below w.heap.size w u → Calls Try.prog 13 #[.agg #[.slice oa ps.length c, .slice ob st.length e, .slice oc wt.length g]] u fun r w' => ∃ b, r = .returned (.bool b) ∧ (b = true → ∀ t ∈ wt, ∀ k ∈ t, k ≤ 40) ∧ Below u.heap.size u w') := fun hz u h => by
    have hr := netErr_zero hz
    have h12 := hr.n.2
    have hwl := hr.nwt
    try simp only at h12 hwl
    refine rsmall_any ps.length c oa ob st.length e wt oc g All u (HNI.out.t.below tabR' h) (by omega) fun t ht => ⟨?_, fun k hk => (hr.wb t ht k hk).1⟩
    obtain ⟨i, hi, rfl⟩ := List.mem_iff_getElem.1 ht
    have hip : i < ps.length := by omega
    have h1 := hr.wl i _ _ (List.getElem?_eq_getElem hi) (List.getElem?_eq_getElem hip)
    have h2 := (check_zero (hr.proc i _ (List.getElem?_eq_getElem hip))).2.2.1
    try simp only at h1 h2
    omega
  have HC4 : Hid (netErr ⟨ps, st, wt⟩ = 0 → ∀ u, Below w.heap.size w u → Calls Try.prog 14 #[.agg #[.slice oa ps.length c, .slice ob st.length e, .slice oc wt.length g]] u fun r w' => r = .returned (.bool (commP ps)) ∧ Below u.heap.size u w') := fun hz u h =>
    rcommutes_any ps oa c ob st.length e oc wt.length g All u (HNI.out.p.below prcR_ok h) (netErr_zero hz).n.2 (netErr_zero hz).proc
  have HC5 : Hid (∀ u, Calls Try.prog 15 #[.slice oF fs.length cF] u (FewF (fateErr fs = 0) fs.length u)) := fun u => few80_any fs oF cF u hF2
  have HC6 : Hid (∀ u, Below w.heap.size w u → Calls Try.prog 16 #[.slice oF fs.length cF] u fun r w' => r = .returned (.int .i64 (fateErr fs)) ∧ u = w') := fun u h => rcheck56_any fs oF cF All u (HF.out.below intR_ok h) hF2
  rw [← hnp, ← hns, ← hnw] at HC1 HC2 HC3 HC4 hb bxx
  rw [← hnf] at HC5 HC6
  rw [← hnp, ← hns, ← hnw, ← hnf]
  have HNF := hide hnf
  clear hn hF hF2 hnp hns hnw hnf
  go_enter Try.func4, Try.ntmps4
  go_wp2_with fail
  refine (HC1.out _ hb).mono ?_
  rintro r w2 ⟨b, rfl, h2⟩
  have bxx := bxx.below h2
  have hb := below_then hb h2
  clear h2
  have d0 := bxx.cell 0
  have d1 := bxx.cell 1
  have d2 := bxx.cell 2
  simp only [List.getElem?_cons_zero, List.getElem?_cons_succ] at d0 d1 d2
  cases b
  · go_wp2_with fail
    go_ret
    exact ⟨_, rfl, (fun h => by cases h), hb⟩
  go_wp2_with fail
  refine (HC2.out _ hb).mono ?_
  rintro r w3 ⟨rfl, h3⟩
  have bxx := bxx.below h3
  have hb := below_then hb h3
  clear h3 d0 d1 d2
  have d0 := bxx.cell 0
  have d1 := bxx.cell 1
  have d2 := bxx.cell 2
  simp only [List.getElem?_cons_zero, List.getElem?_cons_succ] at d0 d1 d2
  by_cases hz : netErr ⟨ps, st, wt⟩ = 0
  case neg =>
    have q1 : (netErr ⟨ps, st, wt⟩ == 0) = false := by simp [hz]
    clear hz
    go_wp2_with fail
    go_ret
    exact ⟨_, rfl, (fun h => by cases h), hb⟩
  have q1 : (netErr ⟨ps, st, wt⟩ == 0) = true := by simp [hz]
  have HC3 := hide (HC3.out hz)
  have HC4 := hide (HC4.out hz)
  have HZ := hide hz
  clear hz
  go_wp2_with fail
  refine (HC3.out _ hb).mono ?_
  rintro r w4 ⟨b, rfl, h40, h4⟩
  have bxx := bxx.below h4
  have hb := below_then hb h4
  clear h4 d0 d1 d2
  have d0 := bxx.cell 0
  have d1 := bxx.cell 1
  have d2 := bxx.cell 2
  simp only [List.getElem?_cons_zero, List.getElem?_cons_succ] at d0 d1 d2
  cases b
  · clear h40
    go_wp2_with fail
    go_ret
    exact ⟨_, rfl, (fun h => by cases h), hb⟩
  have H40 := hide (h40 rfl)
  clear h40
  go_wp2_with fail
  refine (HC4.out _ hb).mono ?_
  rintro r w5 ⟨rfl, h5⟩
  have hb := below_then hb h5
  clear h5 d0 d1 d2 bxx
  obtain ⟨bc, hbc⟩ : ∃ b, b = commP ps := ⟨_, rfl⟩
  rw [← hbc]
  have HBC := hide hbc
  clear hbc
  cases bc
  · go_wp2_with fail
    go_ret
    exact ⟨_, rfl, (fun h => by cases h), hb⟩
  go_wp2_with fail
  refine (HC5.out _).mono ?_
  rintro r w6 ⟨b, rfl, h80, rfl⟩
  cases b
  · clear h80
    go_wp2_with fail
    go_ret
    exact ⟨_, rfl, (fun h => by cases h), hb⟩
  have H80 := hide (h80 rfl)
  clear h80
  go_wp2_with fail
  refine (HC6.out _ hb).mono ?_
  rintro r w6 ⟨rfl, rfl⟩
  by_cases hf : fateErr fs = 0
  · have q2 : (fateErr fs == 0) = true := by simp [hf]
    have HFZ := hide hf
    clear hf
    go_wp2_with fail
    go_ret
    exact ⟨_, rfl, fun _ => ⟨HZ.out, HFZ.out, H40.out, HBC.out.symm, by have := H80.out HFZ.out; have := HNF.out; omega⟩, hb⟩
  · have q2 : (fateErr fs == 0) = false := by simp [hf]
    clear hf
    go_wp2_with fail
    go_ret
    exact ⟨_, rfl, (fun h => by cases h), hb⟩

end Go.Proofs.Ytnigfddanoaonaa

set_option linter.unusedVariables false
namespace Go.Proofs.Ytnigfddanoaonaa
open Go.RowKit

def QuietB (b : Bool) (w : World) (e : Ending) (w' : World) : Prop := e = .returned (.bool b) ∧ ∃ m, w' = w.drewN m
theorem QuietB.below {b : Bool} {w : World} {e : Ending} {w' : World} (h : QuietB b w e w') : e = .returned (.bool b) ∧ Below w.heap.size w w' := by
  obtain ⟨rfl, m, rfl⟩ := h
  exact ⟨rfl, below_drewN (Below.refl _ _) _⟩
theorem drawn_more {w wr : World} (h : Hid (∃ n, wr = w.drewN n)) (k : Nat) : ∃ n, wr.drewN k = w.drewN n := by
  obtain ⟨n, rfl⟩ := h.out
  exact ⟨n + k, by rw [World.drewN_drewN]⟩
theorem drawn_slice {α : Type} {R : Rep α} {sz : Nat} {F : Foot} {oa : Option Addr} {xs : List α} {w wr : World} (h : Hid (∃ n, wr = w.drewN n)) (ok : RepOk R sz) (hs : SliceR R sz F w oa xs) : SliceR R sz F wr oa xs := by
  obtain ⟨n, rfl⟩ := h.out
  exact hs.drewN ok n
theorem tabR_ok : RepOk (slcR intR 1) 1 := slcR_ok intR_ok (by omega)

set_option maxHeartbeats 400000 in
theorem sameInts08_any (l m : List Int) (oa ob : Option Addr) (c d : Nat) (F G : Foot) (w : World) (hs : SliceR intR 1 F w oa l) (ht : SliceR intR 1 G w ob m) (hc2 : l.length ≤ 9223372036854775807) :
    Calls Try.prog 28 #[.slice oa l.length c, .slice ob m.length d] w (QuietB (decide (l = m)) w) := by
  by_cases hlen : l.length = m.length
  case neg =>
    have hl' : ((l.length : Int) != m.length) = true := by simp; omega
    have HL : Hid (decide (l = m) = false) := decide_eq_false fun h => hlen (by rw [h])
    clear hlen
    go_enter Try.func28, Try.ntmps28
    go_wp2_with fail
    go_ret; exact ⟨ret_bool HL.out.symm, 0, rfl⟩
  have hl' : ((l.length : Int) != m.length) = false := by simp [hlen]
  have HL := hide hlen
  clear hlen
  go_enter Try.func28, Try.ntmps28
  go_wp2_with fail
  go_loopw [5] (fun i wr => ∃ k : Nat, k ≤ l.length ∧ i = .int .i64 k ∧ Hid (l = m ↔ l.drop k = m.drop k) ∧ Hid (∃ n, wr = w.drewN n)) (fun i _ => l.length - (intOf i).toNat)
  case atStart => exact ⟨0, by omega, rfl, Iff.rfl, 0, rfl⟩
  case round =>
    obtain ⟨k, hk, rfl, HE, HW⟩ := hrel
    by_cases hlt : k < l.length
    · obtain ⟨x, hd, _, _, b, off, rfl, _, c0⟩ := (drawn_slice HW intR_ok hs).int_at hlt
      have hlt2 : k < m.length := by rw [← HL.out]; exact hlt
      obtain ⟨x', hd', _, _, b', off', rfl, _, c0'⟩ := (drawn_slice HW intR_ok ht).int_at hlt2
      have HD := hide hd
      have HD' := hide hd'
      clear hd hd' hs ht
      by_cases hx : x = x'
      · obtain rfl := hx
        go_wp2_with fail
        go_quiet (fail)
        go_wp2_with fail
        go_roundw
        case rel =>
          refine ⟨k + 1, by omega, by go_num, ?_, drawn_more HW nq⟩
          show _ ↔ _
          rw [HE.out, HD.out, HD'.out]; simp
        case measure => simp [intOf]; omega
      · have hne : (x != x') = true := by simp [hx]
        have HX := hide hx
        clear hx
        go_wp2_with fail
        go_quiet (fail)
        go_wp2_with fail
        go_ret
        refine ⟨ret_bool ?_, drawn_more HW nq⟩
        symm
        refine decide_eq_false fun h => HX.out ?_
        have h2 := HE.out.1 h
        rw [HD.out, HD'.out] at h2
        simp at h2
        exact h2.1
    · go_wp2_with fail
      go_ret
      refine ⟨ret_bool ?_, HW.out⟩
      symm
      refine decide_eq_true (HE.out.2 ?_)
      rw [List.drop_eq_nil_of_le (by omega), List.drop_eq_nil_of_le (by have := HL.out; omega)]

set_option maxHeartbeats 400000 in
theorem sameTables_any (l m : List (List Int)) (oa ob : Option Addr) (c d : Nat) (F G : Foot) (w : World) (hs : SliceR (slcR intR 1) 1 F w oa l) (ht : SliceR (slcR intR 1) 1 G w ob m) (hc2 : l.length ≤ 9223372036854775807) :
    Calls Try.prog 10 #[.slice oa l.length c, .slice ob m.length d] w (QuietB (decide (l = m)) w) := by
  by_cases hlen : l.length = m.length
  case neg =>
    have hl' : ((l.length : Int) != m.length) = true := by simp; omega
    have HL : Hid (decide (l = m) = false) := decide_eq_false fun h => hlen (by rw [h])
    clear hlen
    go_enter Try.func10, Try.ntmps10
    go_wp2_with fail
    go_ret; exact ⟨ret_bool HL.out.symm, 0, rfl⟩
  have hl' : ((l.length : Int) != m.length) = false := by simp [hlen]
  have HL := hide hlen
  clear hlen
  go_enter Try.func10, Try.ntmps10
  go_wp2_with fail
  go_loopw [5] (fun i wr => ∃ k : Nat, k ≤ l.length ∧ i = .int .i64 k ∧ Hid (l = m ↔ l.drop k = m.drop k) ∧ Hid (∃ n, wr = w.drewN n)) (fun i _ => l.length - (intOf i).toNat)
  case atStart => exact ⟨0, by omega, rfl, Iff.rfl, 0, rfl⟩
  case round =>
    obtain ⟨k, hk, rfl, HE, HW⟩ := hrel
    by_cases hlt : k < l.length
    · obtain ⟨x, hd, _, b, off, oa', c', rfl, _, c0, _, hl2, hsx⟩ := (drawn_slice HW tabR_ok hs).slc_at hlt
      have hlt2 : k < m.length := by rw [← HL.out]; exact hlt
      obtain ⟨x', hd', _, b', off', ob', d', rfl, _, c0', _, _, hsx'⟩ := (drawn_slice HW tabR_ok ht).slc_at hlt2
      have HD := hide hd
      have HD' := hide hd'
      have HC : Hid (∀ k, Calls Try.prog 28 #[.slice oa' x.length c', .slice ob' x'.length d'] (wr.drewN k) (QuietB (decide (x = x')) (wr.drewN k))) := fun k => sameInts08_any x x' oa' ob' c' d' F G _ (hsx.drewN intR_ok k) (hsx'.drewN intR_ok k) hl2
      clear hd hd' hs ht hsx hsx'
      by_cases hx : x = x'
      · rw [decide_eq_true hx] at HC
        obtain ⟨lx, hlx⟩ : ∃ n, n = x.length := ⟨_, rfl⟩
        obtain ⟨ly, hly⟩ : ∃ n, n = x'.length := ⟨_, rfl⟩
        have HX := hide hx
        rw [← hlx] at c0 HC
        rw [← hly] at c0' HC
        clear hx hlx hly
        go_wp2_with fail
        go_quiet ((go_at_call 28; exact Calls.quiet_of (HC.out _)))
        go_wp2_with fail
        go_roundw
        case rel =>
          refine ⟨k + 1, by omega, by go_num, ?_, drawn_more HW nq⟩
          show _ ↔ _
          rw [HE.out, HD.out, HD'.out, HX.out]; simp
        case measure => simp [intOf]; omega
      · rw [decide_eq_false hx] at HC
        obtain ⟨lx, hlx⟩ : ∃ n, n = x.length := ⟨_, rfl⟩
        obtain ⟨ly, hly⟩ : ∃ n, n = x'.length := ⟨_, rfl⟩
        have HX := hide hx
        rw [← hlx] at c0 HC
        rw [← hly] at c0' HC
        clear hx hlx hly
        go_wp2_with fail
        go_quiet ((go_at_call 28; exact Calls.quiet_of (HC.out _)))
        go_wp2_with fail
        go_ret
        refine ⟨ret_bool ?_, drawn_more HW nq⟩
        symm
        refine decide_eq_false fun h => HX.out ?_
        have h2 := HE.out.1 h
        rw [HD.out, HD'.out] at h2
        simp at h2
        exact h2.1
    · go_wp2_with fail
      go_ret
      refine ⟨ret_bool ?_, HW.out⟩
      symm
      refine decide_eq_true (HE.out.2 ?_)
      rw [List.drop_eq_nil_of_le (by omega), List.drop_eq_nil_of_le (by have := HL.out; omega)]

end Go.Proofs.Ytnigfddanoaonaa

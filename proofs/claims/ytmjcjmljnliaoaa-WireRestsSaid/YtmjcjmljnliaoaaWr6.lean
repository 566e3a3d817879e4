/-
  WireRests returns true for every network, list of fates and number of ticks more: what is quiet remains so, and not earlier. No condition.
  The walk of WireRests.
  awake: the examples of chapter 56 hold.
  The network of the chapter's examples: Pair; awake.
  The examples of chapter 54: Vertex, Rotor, Setter.
  Snapshots: wire.Quiet and Quiet of the reference.
  The wire machine in plain Lean: what is quiet remains so, and not earlier; the law of WireRests.
  Two networks: Same of chapter 55.
  Two processors: sameProcessors of chapter 55.
  Two lists of ints, two tables: SameInts of chapter 08, SameTables of chapter 55.
  The guard of the statements on the wire: small.
  The reference of the wire machine: the check of the fates, quiet snapshots, few fates; tables that are the same.
-/
import Derived.Test.YtmjcjmljnliaoaaWr5
import Derived.Test.YtmjcjmljnliaoaaProg
import Derived.Deep.QuietTactic
import Derived.BigQuiet
import Derived.Deep.LoopGhost
import Derived.Deep.DeepCutAuto
import Derived.StillTailTactics
import Derived.Deep.RegionWith
import Derived.Test.YtmjcjmljnliaoaaRows

set_option linter.unusedVariables false
set_option linter.unusedSimpArgs false
set_option linter.unnecessarySimpa false
namespace Go.Proofs.Ytmjcjmljnliaoaa
open Go.RowKit

def FewB (n m : Nat) (w : World) (e : Ending) (w' : World) : Prop := ∃ b, e = .returned (.bool b) ∧ (b = true → n ≤ m) ∧ w = w'
theorem few56_any (l : List Int) (oa : Option Addr) (c : Nat) (w : World) (hc2 : l.length ≤ 9223372036854775807) :
    Calls Try.prog 15 #[.slice oa l.length c] w (FewB l.length 8192 w) := by
  obtain ⟨n, hn⟩ : ∃ n, n = l.length := ⟨_, rfl⟩
  rw [← hn] at hc2 ⊢
  clear hn
  by_cases h1 : n ≤ 80
  · have k1 : (n : Int) ≤ 80 := by omega
    go_enter Try.func15, Try.ntmps15
    go_wp2_with fail
    go_ret
    exact ⟨_, rfl, (fun _ => by omega), rfl⟩
  · have k1 : ¬ (n : Int) ≤ 80 := by omega
    by_cases h2 : 4096 < n
    · have k2 : (4096 : Int) < n := by omega
      by_cases h3 : n ≤ 8192
      · go_enter Try.func15, Try.ntmps15
        go_wp2_with fail
        go_ret
        exact ⟨_, rfl, (fun _ => by omega), rfl⟩
      · have k3 : ¬ (n : Int) ≤ 8192 := by omega
        go_enter Try.func15, Try.ntmps15
        go_wp2_with fail
        go_ret
        exact ⟨_, rfl, (fun h => by first | omega | cases h), rfl⟩
    · have k2 : ¬ (4096 : Int) < n := by omega
      go_enter Try.func15, Try.ntmps15
      go_wp2_with fail
      go_ret
      exact ⟨_, rfl, (fun h => by first | omega | cases h), rfl⟩

theorem any_more {l : List Int} {k : Nat} {x : Int} {q : Int → Bool} (h : l.any q = (l.drop k).any q) (hd : l.drop k = x :: l.drop (k + 1)) (hx : q x = false) : l.any q = (l.drop (k + 1)).any q := by
  rw [h, hd, List.any_cons, hx, Bool.false_or]
theorem rcheck56_any (l : List Int) (oa : Option Addr) (c : Nat) (F : Foot) (w : World) (hs : SliceR intR 1 F w oa l) (hc2 : l.length ≤ 9223372036854775807) :
    Calls Try.prog 19 #[.slice oa l.length c] w fun e w' => e = .returned (.int .i64 (fateErr l)) ∧ w = w' := by
  by_cases hl : 4096 < l.length
  · have HR : Hid (fateErr l = 5) := if_pos hl
    clear hs
    go_enter Try.func19, Try.ntmps19
    go_wp2_with fail
    go_ret
    exact ⟨ret_int (by rw [HR.out]), rfl⟩
  · have HR : Hid (fateErr l = if l.any badFate then 1 else 0) := if_neg hl
    have HS := hide hs
    clear hs
    go_enter Try.func19, Try.ntmps19
    go_wp2_with fail
    go_loop [3] (fun i => ∃ k : Nat, k ≤ l.length ∧ i = .int .i64 k ∧ Hid (l.any badFate = (l.drop k).any badFate)) (fun i => l.length - (intOf i).toNat)
    case atStart => exact ⟨0, by omega, rfl, rfl⟩
    case round =>
      obtain ⟨k, hk, rfl, HE⟩ := hrel
      by_cases hlt : k < l.length
      · obtain ⟨x, hd, hxx, _, b, off, rfl, _, c0⟩ := HS.out.int_at hlt
        by_cases h0 : x < 0
        · have HB : Hid (fateErr l = 1) := by
            show _ = _
            have hb : badFate x = true := by unfold badFate; simp [h0]
            rw [HR.out, HE.out, hd, List.any_cons, hb]
            rfl
          clear hd hxx
          go_wp2_with fail
          go_ret
          exact ⟨ret_int (by rw [HB.out]), rfl⟩
        · by_cases h3 : 3 < x
          · have HB : Hid (fateErr l = 1) := by
              show _ = _
              have hb : badFate x = true := by unfold badFate; simp [h3]
              rw [HR.out, HE.out, hd, List.any_cons, hb]
              rfl
            clear hd hxx
            go_wp2_with fail
            go_ret
            exact ⟨ret_int (by rw [HB.out]), rfl⟩
          · have HD := hide (any_more HE.out hd (by unfold badFate; simp; omega))
            clear hd hxx
            go_wp2_with fail
            go_round
            case rel => exact ⟨k + 1, by omega, by go_num, HD.out⟩
            case measure => simp [intOf]; omega
      · go_wp2_with fail
        go_ret
        exact ⟨ret_int (by rw [HR.out, HE.out, List.drop_eq_nil_of_le (by omega)]; rfl), rfl⟩

theorem fewCounts_any (l : List (List Int)) (oa : Option Addr) (c : Nat) (w : World) (hs : RowsAt w oa l) (hc2 : l.length ≤ 9223372036854775807) :
    Calls Try.prog 16 #[.slice oa l.length c] w (FewB l.length 30 w) := by
  by_cases h30 : 30 < l.length
  · go_enter Try.func16, Try.ntmps16
    go_wp2_with fail
    go_ret
    exact ⟨_, rfl, (fun h => by first | omega | cases h), rfl⟩
  · go_enter Try.func16, Try.ntmps16
    go_wp2_with fail
    go_loop [3] (fun i => ∃ k : Nat, k ≤ l.length ∧ i = .int .i64 k) (fun i => l.length - (intOf i).toNat)
    case atStart => exact ⟨0, by omega, rfl⟩
    case round =>
      obtain ⟨k, hk, rfl⟩ := hrel
      by_cases hlt : k < l.length
      · obtain ⟨row, b, off, oa', c', hxx, rfl, c0, hrl, hrs⟩ := hs.at hlt
        clear hxx hrs
        by_cases hr : 30 < row.length
        · go_wp2_with fail
          go_ret
          exact ⟨_, rfl, (fun h => by first | omega | cases h), rfl⟩
        · go_wp2_with fail
          go_round
          case rel => exact ⟨k + 1, by omega, by go_num⟩
          case measure => simp [intOf]; omega
      · go_wp2_with fail
        go_ret
        exact ⟨_, rfl, (fun h => by first | omega | cases h), rfl⟩

end Go.Proofs.Ytmjcjmljnliaoaa

set_option linter.unusedVariables false
set_option linter.unusedSimpArgs false
namespace Go.Proofs.Ytmjcjmljnliaoaa
open Go.RowKit

/-- Few fates: at most 80 where they are right. -/
def FewF (P : Prop) (n : Nat) (w : World) (e : Ending) (w' : World) : Prop := ∃ b, e = .returned (.bool b) ∧ (b = true → P → n ≤ 80) ∧ w = w'
theorem few80_any (l : List Int) (oa : Option Addr) (c : Nat) (w : World) (hc2 : l.length ≤ 9223372036854775807) : Calls Try.prog 15 #[.slice oa l.length c] w (FewF (fateErr l = 0) l.length w) := by
  have HZ : Hid (fateErr l = 0 → l.length ≤ 4096) := fun h => by
    unfold fateErr at h
    split at h
    · cases h
    · omega
  generalize (fateErr l = 0) = P at HZ ⊢
  obtain ⟨n, hn⟩ : ∃ n, n = l.length := ⟨_, rfl⟩
  rw [← hn] at hc2 HZ ⊢
  clear hn
  by_cases h1 : n ≤ 80
  · have k1 : (n : Int) ≤ 80 := by omega
    go_enter Try.func15, Try.ntmps15
    go_wp2_with fail
    go_ret
    exact ⟨_, rfl, (fun _ _ => h1), rfl⟩
  · have k1 : ¬ (n : Int) ≤ 80 := by omega
    by_cases h2 : 4096 < n
    · have k2 : (4096 : Int) < n := by omega
      by_cases h3 : n ≤ 8192
      · go_enter Try.func15, Try.ntmps15
        go_wp2_with fail
        go_ret
        exact ⟨_, rfl, (fun _ h => by have := HZ.out h; omega), rfl⟩
      · have k3 : ¬ (n : Int) ≤ 8192 := by omega
        go_enter Try.func15, Try.ntmps15
        go_wp2_with fail
        go_ret
        exact ⟨_, rfl, (fun h _ => by first | omega | cases h), rfl⟩
    · have k2 : ¬ (4096 : Int) < n := by omega
      go_enter Try.func15, Try.ntmps15
      go_wp2_with fail
      go_ret
      exact ⟨_, rfl, (fun h _ => by first | omega | cases h), rfl⟩

structure SmallIn (x : Nwk) (fs : List Int) : Prop where
  net : netErr x = 0
  fate : fateErr fs = 0
  few : ∀ t ∈ x.waiting, ∀ k ∈ t, k ≤ 40
  comm : commP x.procs = true
  f80 : fs.length ≤ 80

set_option maxRecDepth 100000 in
set_option maxHeartbeats 4000000 in
theorem small56_any (w : World) (ps : List Prc) (st : List Int) (wt : List (List Int)) (oa : Option Addr) (c : Nat) (ob : Option Addr) (e : Nat) (oc : Option Addr) (g : Nat) (hn : NetIn w ps st wt oa c ob e oc g)
    (fs : List Int) (oF : Option Addr) (cF : Nat) (hF2 : fs.length ≤ 9223372036854775807) (hF : SliceR intR 1 All w oF fs) :
    Calls Try.prog 22 #[.agg #[.slice oa ps.length c, .slice ob st.length e, .slice oc wt.length g], .slice oF fs.length cF] w fun r w' => ∃ b, r = .returned (.bool b) ∧ (b = true → SmallIn ⟨ps, st, wt⟩ fs) ∧ Below w.heap.size w w' := by
  have HNI := hide hn
  have HF := hide hF
  have hb := bnew (Below.refl w.heap.size w) (.cells #[.slice oa ps.length c, .slice ob st.length e, .slice oc wt.length g] 26)
  have bxx := Box.new w [.slice oa ps.length c, .slice ob st.length e, .slice oc wt.length g] 26
  obtain ⟨np, hnp⟩ : ∃ n, n = ps.length := ⟨_, rfl⟩
  obtain ⟨ns, hns⟩ : ∃ n, n = st.length := ⟨_, rfl⟩
  obtain ⟨nw, hnw⟩ : ∃ n, n = wt.length := ⟨_, rfl⟩
  obtain ⟨nf, hnf⟩ : ∃ n, n = fs.length := ⟨_, rfl⟩
  have HC1 : Hid (∀ u, Below w.heap.size w u → Calls Try.prog 65 #[.agg #[.slice oa ps.length c, .slice ob st.length e, .slice oc wt.length g]] u (SomeBool u)) := fun u h => rfew55_any ps oa c ob st.length e wt oc g All u (HNI.out.p.below prcR_ok h) HNI.out.pl (HNI.out.t.below tabR' h) HNI.out.wl
  have HC2 : Hid (∀ u, Below w.heap.size w u → Calls Try.prog 66 #[.agg #[.slice oa ps.length c, .slice ob st.length e, .slice oc wt.length g]] u fun r w' => r = .returned (.int .i64 (netErr ⟨ps, st, wt⟩)) ∧ Below u.heap.size u w') := fun u h => rnetCheck_any ps oa c st ob e wt oc g All u (HNI.out.p.below prcR_ok h) HNI.out.pl (HNI.out.s.below intR_ok h) HNI.out.sl (HNI.out.t.below tabR' h) HNI.out.wl
  have HC3 : Hid (netErr ⟨ps, st, wt⟩ = 0 → ∀ u, Below w.heap.size w u → Calls Try.prog 67 #[.agg #[.slice oa ps.length c, .slice ob st.length e, .slice oc wt.length g]] u fun r w' => ∃ b, r = .returned (.bool b) ∧ (b = true → ∀ t ∈ wt, ∀ k ∈ t, k ≤ 40) ∧ Below u.heap.size u w') := fun hz u h => by
    have hr := netErr_zero hz
    have h12 := hr.n.2
    have hwl := hr.nwt
    try simp only at h12 hwl
    refine rsmall_any ps.length c oa ob st.length e wt oc g All u (HNI.out.t.below tabR' h) (by omega) fun t ht => ⟨?_, fun k hk => (hr.wb t ht k hk).1⟩
    obtain ⟨i, hi, rfl⟩ := List.mem_iff_getElem.1 ht
    have hip : i < ps.length := by omega
    have h1 := hr.wl i _ _ (List.getElem?_eq_getElem hi) (List.getElem?_eq_getElem hip)
    have h2 := (check_zero (hr.proc i _ (List.getElem?_eq_getElem hip))).2.2.1
    try simp only at h1 h2
    omega
  have HC4 : Hid (netErr ⟨ps, st, wt⟩ = 0 → ∀ u, Below w.heap.size w u → Calls Try.prog 68 #[.agg #[.slice oa ps.length c, .slice ob st.length e, .slice oc wt.length g]] u fun r w' => r = .returned (.bool (commP ps)) ∧ Below u.heap.size u w') := fun hz u h =>
    rcommutes_any ps oa c ob st.length e oc wt.length g All u (HNI.out.p.below prcR_ok h) (netErr_zero hz).n.2 (netErr_zero hz).proc
  have HC5 : Hid (∀ u, Calls Try.prog 15 #[.slice oF fs.length cF] u (FewF (fateErr fs = 0) fs.length u)) := fun u => few80_any fs oF cF u hF2
  have HC6 : Hid (∀ u, Below w.heap.size w u → Calls Try.prog 19 #[.slice oF fs.length cF] u fun r w' => r = .returned (.int .i64 (fateErr fs)) ∧ u = w') := fun u h => rcheck56_any fs oF cF All u (HF.out.below intR_ok h) hF2
  rw [← hnp, ← hns, ← hnw] at HC1 HC2 HC3 HC4 hb bxx
  rw [← hnf] at HC5 HC6
  rw [← hnp, ← hns, ← hnw, ← hnf]
  have HNF := hide hnf
  clear hn hF hF2 hnp hns hnw hnf
  go_enter Try.func22, Try.ntmps22
  go_wp2_with fail
  refine (HC1.out _ hb).mono ?_
  rintro r w2 ⟨b, rfl, h2⟩
  have bxx := bxx.below h2
  have hb := below_then hb h2
  clear h2
  have d0 := bxx.cell 0
  have d1 := bxx.cell 1
  have d2 := bxx.cell 2
  simp only [List.getElem?_cons_zero, List.getElem?_cons_succ] at d0 d1 d2
  cases b
  · go_wp2_with fail
    go_ret
    exact ⟨_, rfl, (fun h => by cases h), hb⟩
  go_wp2_with fail
  refine (HC2.out _ hb).mono ?_
  rintro r w3 ⟨rfl, h3⟩
  have bxx := bxx.below h3
  have hb := below_then hb h3
  clear h3 d0 d1 d2
  have d0 := bxx.cell 0
  have d1 := bxx.cell 1
  have d2 := bxx.cell 2
  simp only [List.getElem?_cons_zero, List.getElem?_cons_succ] at d0 d1 d2
  by_cases hz : netErr ⟨ps, st, wt⟩ = 0
  case neg =>
    have q1 : (netErr ⟨ps, st, wt⟩ == 0) = false := by simp [hz]
    clear hz
    go_wp2_with fail
    go_ret
    exact ⟨_, rfl, (fun h => by cases h), hb⟩
  have q1 : (netErr ⟨ps, st, wt⟩ == 0) = true := by simp [hz]
  have HC3 := hide (HC3.out hz)
  have HC4 := hide (HC4.out hz)
  have HZ := hide hz
  clear hz
  go_wp2_with fail
  refine (HC3.out _ hb).mono ?_
  rintro r w4 ⟨b, rfl, h40, h4⟩
  have bxx := bxx.below h4
  have hb := below_then hb h4
  clear h4 d0 d1 d2
  have d0 := bxx.cell 0
  have d1 := bxx.cell 1
  have d2 := bxx.cell 2
  simp only [List.getElem?_cons_zero, List.getElem?_cons_succ] at d0 d1 d2
  cases b
  · clear h40
    go_wp2_with fail
    go_ret
    exact ⟨_, rfl, (fun h => by cases h), hb⟩
  have H40 := hide (h40 rfl)
  clear h40
  go_wp2_with fail
  refine (HC4.out _ hb).mono ?_
  rintro r w5 ⟨rfl, h5⟩
  have hb := below_then hb h5
  clear h5 d0 d1 d2 bxx
  obtain ⟨bc, hbc⟩ : ∃ b, b = commP ps := ⟨_, rfl⟩
  rw [← hbc]
  have HBC := hide hbc
  clear hbc
  cases bc
  · go_wp2_with fail
    go_ret
    exact ⟨_, rfl, (fun h => by cases h), hb⟩
  go_wp2_with fail
  refine (HC5.out _).mono ?_
  rintro r w6 ⟨b, rfl, h80, rfl⟩
  cases b
  · clear h80
    go_wp2_with fail
    go_ret
    exact ⟨_, rfl, (fun h => by cases h), hb⟩
  have H80 := hide (h80 rfl)
  clear h80
  go_wp2_with fail
  refine (HC6.out _ hb).mono ?_
  rintro r w6 ⟨rfl, rfl⟩
  by_cases hf : fateErr fs = 0
  · have q2 : (fateErr fs == 0) = true := by simp [hf]
    have HFZ := hide hf
    clear hf
    go_wp2_with fail
    go_ret
    exact ⟨_, rfl, fun _ => ⟨HZ.out, HFZ.out, H40.out, HBC.out.symm, by have := H80.out HFZ.out; have := HNF.out; omega⟩, hb⟩
  · have q2 : (fateErr fs == 0) = false := by simp [hf]
    clear hf
    go_wp2_with fail
    go_ret
    exact ⟨_, rfl, (fun h => by cases h), hb⟩

end Go.Proofs.Ytmjcjmljnliaoaa

set_option linter.unusedVariables false
namespace Go.Proofs.Ytmjcjmljnliaoaa
open Go.RowKit

def QuietB (b : Bool) (w : World) (e : Ending) (w' : World) : Prop := e = .returned (.bool b) ∧ ∃ m, w' = w.drewN m
theorem QuietB.below {b : Bool} {w : World} {e : Ending} {w' : World} (h : QuietB b w e w') : e = .returned (.bool b) ∧ Below w.heap.size w w' := by
  obtain ⟨rfl, m, rfl⟩ := h
  exact ⟨rfl, below_drewN (Below.refl _ _) _⟩
theorem drawn_more {w wr : World} (h : Hid (∃ n, wr = w.drewN n)) (k : Nat) : ∃ n, wr.drewN k = w.drewN n := by
  obtain ⟨n, rfl⟩ := h.out
  exact ⟨n + k, by rw [World.drewN_drewN]⟩
theorem drawn_slice {α : Type} {R : Rep α} {sz : Nat} {F : Foot} {oa : Option Addr} {xs : List α} {w wr : World} (h : Hid (∃ n, wr = w.drewN n)) (ok : RepOk R sz) (hs : SliceR R sz F w oa xs) : SliceR R sz F wr oa xs := by
  obtain ⟨n, rfl⟩ := h.out
  exact hs.drewN ok n
theorem tabR_ok : RepOk (slcR intR 1) 1 := slcR_ok intR_ok (by omega)

set_option maxHeartbeats 400000 in
theorem sameInts08_any (l m : List Int) (oa ob : Option Addr) (c d : Nat) (F G : Foot) (w : World) (hs : SliceR intR 1 F w oa l) (ht : SliceR intR 1 G w ob m) (hc2 : l.length ≤ 9223372036854775807) :
    Calls Try.prog 73 #[.slice oa l.length c, .slice ob m.length d] w (QuietB (decide (l = m)) w) := by
  by_cases hlen : l.length = m.length
  case neg =>
    have hl' : ((l.length : Int) != m.length) = true := by simp; omega
    have HL : Hid (decide (l = m) = false) := decide_eq_false fun h => hlen (by rw [h])
    clear hlen
    go_enter Try.func73, Try.ntmps73
    go_wp2_with fail
    go_ret; exact ⟨ret_bool HL.out.symm, 0, rfl⟩
  have hl' : ((l.length : Int) != m.length) = false := by simp [hlen]
  have HL := hide hlen
  clear hlen
  go_enter Try.func73, Try.ntmps73
  go_wp2_with fail
  go_loopw [5] (fun i wr => ∃ k : Nat, k ≤ l.length ∧ i = .int .i64 k ∧ Hid (l = m ↔ l.drop k = m.drop k) ∧ Hid (∃ n, wr = w.drewN n)) (fun i _ => l.length - (intOf i).toNat)
  case atStart => exact ⟨0, by omega, rfl, Iff.rfl, 0, rfl⟩
  case round =>
    obtain ⟨k, hk, rfl, HE, HW⟩ := hrel
    by_cases hlt : k < l.length
    · obtain ⟨x, hd, _, _, b, off, rfl, _, c0⟩ := (drawn_slice HW intR_ok hs).int_at hlt
      have hlt2 : k < m.length := by rw [← HL.out]; exact hlt
      obtain ⟨x', hd', _, _, b', off', rfl, _, c0'⟩ := (drawn_slice HW intR_ok ht).int_at hlt2
      have HD := hide hd
      have HD' := hide hd'
      clear hd hd' hs ht
      by_cases hx : x = x'
      · obtain rfl := hx
        go_wp2_with fail
        go_quiet (fail)
        go_wp2_with fail
        go_roundw
        case rel =>
          refine ⟨k + 1, by omega, by go_num, ?_, drawn_more HW nq⟩
          show _ ↔ _
          rw [HE.out, HD.out, HD'.out]; simp
        case measure => simp [intOf]; omega
      · have hne : (x != x') = true := by simp [hx]
        have HX := hide hx
        clear hx
        go_wp2_with fail
        go_quiet (fail)
        go_wp2_with fail
        go_ret
        refine ⟨ret_bool ?_, drawn_more HW nq⟩
        symm
        refine decide_eq_false fun h => HX.out ?_
        have h2 := HE.out.1 h
        rw [HD.out, HD'.out] at h2
        simp at h2
        exact h2.1
    · go_wp2_with fail
      go_ret
      refine ⟨ret_bool ?_, HW.out⟩
      symm
      refine decide_eq_true (HE.out.2 ?_)
      rw [List.drop_eq_nil_of_le (by omega), List.drop_eq_nil_of_le (by have := HL.out; omega)]

set_option maxHeartbeats 400000 in
theorem sameTables_any (l m : List (List Int)) (oa ob : Option Addr) (c d : Nat) (F G : Foot) (w : World) (hs : SliceR (slcR intR 1) 1 F w oa l) (ht : SliceR (slcR intR 1) 1 G w ob m) (hc2 : l.length ≤ 9223372036854775807) :
    Calls Try.prog 26 #[.slice oa l.length c, .slice ob m.length d] w (QuietB (decide (l = m)) w) := by
  by_cases hlen : l.length = m.length
  case neg =>
    have hl' : ((l.length : Int) != m.length) = true := by simp; omega
    have HL : Hid (decide (l = m) = false) := decide_eq_false fun h => hlen (by rw [h])
    clear hlen
    go_enter Try.func26, Try.ntmps26
    go_wp2_with fail
    go_ret; exact ⟨ret_bool HL.out.symm, 0, rfl⟩
  have hl' : ((l.length : Int) != m.length) = false := by simp [hlen]
  have HL := hide hlen
  clear hlen
  go_enter Try.func26, Try.ntmps26
  go_wp2_with fail
  go_loopw [5] (fun i wr => ∃ k : Nat, k ≤ l.length ∧ i = .int .i64 k ∧ Hid (l = m ↔ l.drop k = m.drop k) ∧ Hid (∃ n, wr = w.drewN n)) (fun i _ => l.length - (intOf i).toNat)
  case atStart => exact ⟨0, by omega, rfl, Iff.rfl, 0, rfl⟩
  case round =>
    obtain ⟨k, hk, rfl, HE, HW⟩ := hrel
    by_cases hlt : k < l.length
    · obtain ⟨x, hd, _, b, off, oa', c', rfl, _, c0, _, hl2, hsx⟩ := (drawn_slice HW tabR_ok hs).slc_at hlt
      have hlt2 : k < m.length := by rw [← HL.out]; exact hlt
      obtain ⟨x', hd', _, b', off', ob', d', rfl, _, c0', _, _, hsx'⟩ := (drawn_slice HW tabR_ok ht).slc_at hlt2
      have HD := hide hd
      have HD' := hide hd'
      have HC : Hid (∀ k, Calls Try.prog 73 #[.slice oa' x.length c', .slice ob' x'.length d'] (wr.drewN k) (QuietB (decide (x = x')) (wr.drewN k))) := fun k => sameInts08_any x x' oa' ob' c' d' F G _ (hsx.drewN intR_ok k) (hsx'.drewN intR_ok k) hl2
      clear hd hd' hs ht hsx hsx'
      by_cases hx : x = x'
      · rw [decide_eq_true hx] at HC
        obtain ⟨lx, hlx⟩ : ∃ n, n = x.length := ⟨_, rfl⟩
        obtain ⟨ly, hly⟩ : ∃ n, n = x'.length := ⟨_, rfl⟩
        have HX := hide hx
        rw [← hlx] at c0 HC
        rw [← hly] at c0' HC
        clear hx hlx hly
        go_wp2_with fail
        go_quiet ((go_at_call 73; exact Calls.quiet_of (HC.out _)))
        go_wp2_with fail
        go_roundw
        case rel =>
          refine ⟨k + 1, by omega, by go_num, ?_, drawn_more HW nq⟩
          show _ ↔ _
          rw [HE.out, HD.out, HD'.out, HX.out]; simp
        case measure => simp [intOf]; omega
      · rw [decide_eq_false hx] at HC
        obtain ⟨lx, hlx⟩ : ∃ n, n = x.length := ⟨_, rfl⟩
        obtain ⟨ly, hly⟩ : ∃ n, n = x'.length := ⟨_, rfl⟩
        have HX := hide hx
        rw [← hlx] at c0 HC
        rw [← hly] at c0' HC
        clear hx hlx hly
        go_wp2_with fail
        go_quiet ((go_at_call 73; exact Calls.quiet_of (HC.out _)))
        go_wp2_with fail
        go_ret
        refine ⟨ret_bool ?_, drawn_more HW nq⟩
        symm
        refine decide_eq_false fun h => HX.out ?_
        have h2 := HE.out.1 h
        rw [HD.out, HD'.out] at h2
        simp at h2
        exact h2.1
    · go_wp2_with fail
      go_ret
      refine ⟨ret_bool ?_, HW.out⟩
      symm
      refine decide_eq_true (HE.out.2 ?_)
      rw [List.drop_eq_nil_of_le (by omega), List.drop_eq_nil_of_le (by have := HL.out; omega)]

end Go.Proofs.Ytmjcjmljnliaoaa

set_option linter.unusedVariables false
namespace Go.Proofs.Ytmjcjmljnliaoaa
open Go.RowKit

def SameB (b : Bool) (w : World) (e : Ending) (w' : World) : Prop := e = .returned (.bool b) ∧ Below w.heap.size w w'

set_option maxRecDepth 100000 in
set_option maxHeartbeats 2000000 in
theorem sameProcs_any (S L S' L' : Int) (rs rs' : List (List Rul)) (oa ob : Option Addr) (c d : Nat) (F G : Foot) (w : World) (hs : SliceR (slcR ruleR 2) 1 F w oa rs) (ht : SliceR (slcR ruleR 2) 1 G w ob rs') (hc2 : rs.length ≤ 9223372036854775807) :
    Calls Try.prog 74 #[.agg #[.int .i64 S, .int .i64 L, .slice oa rs.length c], .agg #[.int .i64 S', .int .i64 L', .slice ob rs'.length d]] w (SameB (decide ((⟨S, L, rs⟩ : Prc) = ⟨S', L', rs'⟩)) w) := by
  obtain ⟨W1, e1⟩ : ∃ W1, w.alloc (.cells #[.int .i64 S, .int .i64 L, .slice oa rs.length c] 47) = W1 := ⟨_, rfl⟩
  have bx1 : Box W1 w.heap.size [.int .i64 S, .int .i64 L, .slice oa rs.length c] 47 := by rw [← e1]; exact Box.new w [.int .i64 S, .int .i64 L, .slice oa rs.length c] 47
  have bb1 := bnew (Below.refl w.heap.size w) (.cells #[.int .i64 S, .int .i64 L, .slice oa rs.length c] 47)
  rw [e1] at bb1
  obtain ⟨W2, e2⟩ : ∃ W2, W1.alloc (.cells #[.int .i64 S', .int .i64 L', .slice ob rs'.length d] 47) = W2 := ⟨_, rfl⟩
  have bx2 : Box W2 W1.heap.size [.int .i64 S', .int .i64 L', .slice ob rs'.length d] 47 := by rw [← e2]; exact Box.new W1 [.int .i64 S', .int .i64 L', .slice ob rs'.length d] 47
  have bb2 := bnew (Below.refl W1.heap.size W1) (.cells #[.int .i64 S', .int .i64 L', .slice ob rs'.length d] 47)
  rw [e2] at bb2
  have bx1' := bx1.below bb2
  have hb0 := bb1.trans (bb2.mono bb1.size)
  have d0 := bx1'.cell 0
  have d1 := bx1'.cell 1
  have d2 := bx1'.cell 2
  have f0 := bx2.cell 0
  have f1 := bx2.cell 1
  have f2 := bx2.cell 2
  simp only [List.getElem?_cons_zero, List.getElem?_cons_succ] at d0 d1 d2 f0 f1 f2
  have HX1 := hide bx1'
  have HX2 := hide bx2
  have HB := hide hb0
  have HS := hide (hs.below rowR_ok hb0)
  have HT := hide (ht.below rowR_ok hb0)
  clear bx1 bx1' bx2 bb1 bb2 hb0 hs ht
  by_cases hS : S = S'
  case neg =>
    have q1 : (S != S') = true := by simp [hS]
    have HR : Hid (decide ((⟨S, L, rs⟩ : Prc) = ⟨S', L', rs'⟩) = false) := decide_eq_false fun h => hS (by injection h)
    clear hS
    go_enter Try.func74, Try.ntmps74
    go_wp2_with fail
    go_ret
    exact ⟨ret_bool HR.out.symm, HB.out⟩
  have q1 : (S != S') = false := by simp [hS]
  have HSS := hide hS
  clear hS
  by_cases hL : L = L'
  case neg =>
    have q2 : (L != L') = true := by simp [hL]
    have HR : Hid (decide ((⟨S, L, rs⟩ : Prc) = ⟨S', L', rs'⟩) = false) := decide_eq_false fun h => hL (by injection h)
    clear hL
    go_enter Try.func74, Try.ntmps74
    go_wp2_with fail
    go_ret
    exact ⟨ret_bool HR.out.symm, HB.out⟩
  have q2 : (L != L') = false := by simp [hL]
  have HLL := hide hL
  clear hL
  by_cases hlen : rs.length = rs'.length
  case neg =>
    have q3 : ((rs.length : Int) != rs'.length) = true := by simp; omega
    have HR : Hid (decide ((⟨S, L, rs⟩ : Prc) = ⟨S', L', rs'⟩) = false) := decide_eq_false fun h => hlen (by injection h with _ _ h; rw [h])
    clear hlen
    go_enter Try.func74, Try.ntmps74
    go_wp2_with fail
    go_ret
    exact ⟨ret_bool HR.out.symm, HB.out⟩
  have q3 : ((rs.length : Int) != rs'.length) = false := by simp [hlen]
  have HL := hide hlen
  have HR : Hid (decide ((⟨S, L, rs⟩ : Prc) = ⟨S', L', rs'⟩) = decide (rs = rs')) := by
    show _ = _
    rw [HSS.out, HLL.out]
    by_cases h : rs = rs'
    · simp [h]
    · rw [decide_eq_false h]; exact decide_eq_false fun g => h (by injection g)
  clear hlen
  go_enter Try.func74, Try.ntmps74
  go_wp2_with fail
  go_loopw [5] (fun i wr => ∃ k : Nat, k ≤ rs.length ∧ i = .int .i64 k ∧ Hid (rs = rs' ↔ rs.drop k = rs'.drop k) ∧ Hid (Below W2.heap.size W2 wr)) (fun i _ => rs.length - (intOf i).toNat)
  case atStart => exact ⟨0, by omega, rfl, Iff.rfl, Below.refl _ _⟩
  case round =>
    obtain ⟨k, hk, rfl, HE, HBk⟩ := hrel
    have d2 := (HX1.out.below HBk.out).cell 2
    have f2 := (HX2.out.below HBk.out).cell 2
    simp only [List.getElem?_cons_zero, List.getElem?_cons_succ] at d2 f2
    by_cases hlt : k < rs.length
    · obtain ⟨row, hd, _, b, off, oa', c', rfl, _, c0, _, hl2, hsx⟩ := (HS.out.below rowR_ok HBk.out).slc_at hlt
      have hlt2 : k < rs'.length := by rw [← HL.out]; exact hlt
      obtain ⟨row', hd', _, b', off', ob', d', rfl, _, c0', _, _, hsx'⟩ := (HT.out.below rowR_ok HBk.out).slc_at hlt2
      have HD := hide hd
      have HD' := hide hd'
      have HSX := hide hsx
      have HSX' := hide hsx'
      obtain ⟨n, hn⟩ : ∃ n, n = row.length := ⟨_, rfl⟩
      obtain ⟨n', hn'⟩ : ∃ n, n = row'.length := ⟨_, rfl⟩
      rw [← hn] at c0 hl2
      rw [← hn'] at c0'
      have HN := hide hn
      have HN' := hide hn'
      clear hd hd' hsx hsx' hn hn'
      by_cases hnn : n = n'
      · have q4 : ((n : Int) != n') = false := by simp [hnn]
        have HNN := hide hnn
        clear hnn
        go_wp2_with fail
        go_quiet (fail)
        have HBq := hide (below_drewN HBk.out nq)
        have HSq := hide (HSX.out.drewN ruleR_ok nq)
        have HSq' := hide (HSX'.out.drewN ruleR_ok nq)
        have c0 : (wr.drewN nq).cell? ⟨b, off + k, none⟩ = some (.slice oa' n c') := c0
        have c0' : (wr.drewN nq).cell? ⟨b', off' + k, none⟩ = some (.slice ob' n' d') := c0'
        generalize wr.drewN nq = wo at *
        go_wp2_with fail
        go_loopg [6] n (fun g i wr => ∃ j : Nat, j ≤ n ∧ g = n - j ∧ i = .int .i64 j ∧ Hid (row = row' ↔ row.drop j = row'.drop j) ∧ Hid (Below wo.heap.size wo wr))
        case atStart => exact ⟨0, by omega, by omega, rfl, Iff.rfl, Below.refl _ _⟩
        case round =>
          obtain ⟨j, hj, hg, rfl, HF, HBj⟩ := hrel
          have HG := hide hg
          clear hg
          have HB2 : Hid (Below W2.heap.size W2 wr) := HBq.out.trans (HBj.out.mono HBq.out.size)
          have d2 := (HX1.out.below HB2.out).cell 2
          have f2 := (HX2.out.below HB2.out).cell 2
          simp only [List.getElem?_cons_zero, List.getElem?_cons_succ] at d2 f2
          have c0 := (HBj.out.cell (World.block_lt_of_cell? _ _ c0)).trans c0
          have c0' := (HBj.out.cell (World.block_lt_of_cell? _ _ c0')).trans c0'
          by_cases hlj : j < n
          · obtain ⟨nx, st, hd, _, _, b2, off2, oa2, c2, rfl, _, c20, c21, hcl, hl22, hss⟩ := (HSq.out.below ruleR_ok HBj.out).rule_at (i := j) (by rw [← HN.out]; exact hlj)
            obtain ⟨nx', st', hd', _, _, b3, off3, ob2, d2', rfl, _, c30, c31, _, _, hss'⟩ := (HSq'.out.below ruleR_ok HBj.out).rule_at (i := j) (by rw [← HN'.out, ← HNN.out]; exact hlj)
            have hlj' : j < n' := by rw [← HNN.out]; exact hlj
            have l0 := World.block_lt_of_cell? _ _ c0
            have l0' := World.block_lt_of_cell? _ _ c0'
            have l2 := World.block_lt_of_cell? _ _ c20
            have l3 := World.block_lt_of_cell? _ _ c30
            simp only at l0 l0' l2 l3
            have HD2 := hide hd
            have HD2' := hide hd'
            have HST := hide hss
            have HST' := hide hss'
            clear hd hd' hss hss'
            go_wp2_with fail
            have l4 : w.heap.size < wr.heap.size := (HX1.out.below HB2.out).lt
            have l5 : W1.heap.size < wr.heap.size := (HX2.out.below HB2.out).lt
            have HBN : Hid (∀ A B, Below wr.heap.size wr ((wr.alloc A).alloc B).drew) := fun A B => below_drewN (bnew (bnew (Below.refl _ _) A) B) 1
            have HCL := hide hcl
            clear hcl
            go_upto_region 11 with fail
            go_cut [6, 7, 8] (fun s6 s7 s8 wx => s6 = .int .i64 (j : Nat) ∧ ∃ b7 b8, s7 = .pointer (some ⟨b7, 0, none⟩) ∧ s8 = .pointer (some ⟨b8, 0, none⟩) ∧ wx.cell? ⟨b7, 0, none⟩ = some (.int .i64 nx) ∧ wx.cell? ⟨b7, 1, none⟩ = some (.slice oa2 st.length c2) ∧ wx.cell? ⟨b8, 0, none⟩ = some (.int .i64 nx') ∧ wx.cell? ⟨b8, 1, none⟩ = some (.slice ob2 st'.length d2') ∧ Hid (Below wr.heap.size wr wx))
            case first =>
              go_wp2_with fail
              go_region
              all_goals (go_wp2_with fail; go_meet; exact ⟨rfl, _, _, rfl, rfl, by simp [go_sem], by simp [go_sem], by simp [go_sem], by simp [go_sem], HBN.out _ _⟩)
            case rest =>
              obtain ⟨rfl, b7, b8, rfl, rfl, x0, x1, y0, y1, HBX⟩ := hcut
              have HC := hide (sameOutputs_any st st' oa2 ob2 c2 d2' All wc ((HST.out.all outR_ok (by omega)).below outR_ok HBX.out) ((HST'.out.all outR_ok (by omega)).below outR_ok HBX.out) HCL.out hl22)
              have HB6 : Hid (Below wo.heap.size wo wc) := HBj.out.trans (HBX.out.mono HBj.out.size)
              by_cases hx : nx = nx'
              · have q5 : (nx != nx') = false := by simp [hx]
                have HXX := hide hx
                clear hx
                by_cases hst : st = st'
                · rw [decide_eq_true hst] at HC
                  have HYY := hide hst
                  clear hst
                  go_wp2_with (go_at_call 35; refine HC.out.mono ?_; rintro e w5 ⟨rfl, h5⟩; have H6 : Hid (Below wo.heap.size wo w5) := HB6.out.trans (h5.mono HB6.out.size); clear h5)
                  go_roundg (n - (j + 1))
                  case measure => have := HG.out; omega
                  case rel =>
                    refine ⟨j + 1, by omega, rfl, by go_num, ?_, H6⟩
                    show _ ↔ _
                    rw [HF.out, HD2.out, HD2'.out, HXX.out, HYY.out]; simp
                · rw [decide_eq_false hst] at HC
                  have HYY := hide hst
                  clear hst
                  go_wp2_with (go_at_call 35; refine HC.out.mono ?_; rintro e w5 ⟨rfl, h5⟩; have H6 : Hid (Below wo.heap.size wo w5) := HB6.out.trans (h5.mono HB6.out.size); clear h5)
                  go_ret
                  refine ⟨ret_bool ?_, HB.out.trans ((HBq.out.trans (H6.out.mono HBq.out.size)).mono HB.out.size)⟩
                  rw [HR.out]
                  symm
                  refine decide_eq_false fun h => HYY.out ?_
                  have h2 := HE.out.1 h
                  rw [HD.out, HD'.out] at h2
                  injection h2 with h2
                  have h3 := HF.out.1 h2
                  rw [HD2.out, HD2'.out] at h3
                  injection h3 with h3
                  injection h3
              · have q5 : (nx != nx') = true := by simp [hx]
                have HXX := hide hx
                clear hx
                go_wp2_with fail
                go_ret
                refine ⟨ret_bool ?_, HB.out.trans ((HBq.out.trans (HB6.out.mono HBq.out.size)).mono HB.out.size)⟩
                rw [HR.out]
                symm
                refine decide_eq_false fun h => HXX.out ?_
                have h2 := HE.out.1 h
                rw [HD.out, HD'.out] at h2
                injection h2 with h2
                have h3 := HF.out.1 h2
                rw [HD2.out, HD2'.out] at h3
                injection h3 with h3
                injection h3
          · go_wp2_with fail
            go_roundw
            case rel =>
              refine ⟨k + 1, by omega, by go_num, ?_, HB2⟩
              show _ ↔ _
              have hr : row = row' := HF.out.2 (by rw [List.drop_eq_nil_of_le (by have := HN.out; omega), List.drop_eq_nil_of_le (by have := HN'.out; have := HNN.out; omega)])
              rw [HE.out, HD.out, HD'.out, hr]; simp
            case measure => simp [intOf]; omega
      · have q4 : ((n : Int) != n') = true := by simp; omega
        have HNN := hide hnn
        clear hnn
        go_wp2_with fail
        go_quiet (fail)
        go_wp2_with fail
        go_ret
        refine ⟨ret_bool ?_, HB.out.trans ((below_drewN HBk.out _).mono HB.out.size)⟩
        rw [HR.out]
        symm
        refine decide_eq_false fun h => HNN.out ?_
        have h2 := HE.out.1 h
        rw [HD.out, HD'.out] at h2
        injection h2 with h2
        rw [HN.out, HN'.out, h2]
    · go_wp2_with fail
      go_ret
      refine ⟨ret_bool ?_, HB.out.trans (HBk.out.mono HB.out.size)⟩
      rw [HR.out]
      symm
      refine decide_eq_true (HE.out.2 ?_)
      rw [List.drop_eq_nil_of_le (by omega), List.drop_eq_nil_of_le (by have := HL.out; omega)]

end Go.Proofs.Ytmjcjmljnliaoaa

set_option linter.unusedVariables false
set_option linter.unusedSimpArgs false
namespace Go.Proofs.Ytmjcjmljnliaoaa
open Go.RowKit

set_option maxRecDepth 100000 in
set_option maxHeartbeats 2000000 in
theorem rsame55_any (x y : Nwk) (op os ow oq ot ov : Option Addr) (cp cs cw cq ct cv : Nat) (F G : Foot) (w : World)
    (hp : SliceR prcR 3 F w op x.procs) (hs : SliceR intR 1 F w os x.state) (ht : SliceR (slcR intR 1) 1 F w ow x.waiting) (hq : SliceR prcR 3 G w oq y.procs) (hu : SliceR intR 1 G w ot y.state) (hv : SliceR (slcR intR 1) 1 G w ov y.waiting)
    (hp2 : x.procs.length ≤ 9223372036854775807) (hs2 : x.state.length ≤ 9223372036854775807) (ht2 : x.waiting.length ≤ 9223372036854775807) :
    Calls Try.prog 25 #[.agg #[.slice op x.procs.length cp, .slice os x.state.length cs, .slice ow x.waiting.length cw], .agg #[.slice oq y.procs.length cq, .slice ot y.state.length ct, .slice ov y.waiting.length cv]] w (SameB (decide (x = y)) w) := by
  obtain ⟨ps, st, wt⟩ := x
  obtain ⟨ps', st', wt'⟩ := y
  simp only at hp hs ht hq hu hv hp2 hs2 ht2 ⊢
  obtain ⟨n, hn⟩ : ∃ n, n = ps.length := ⟨_, rfl⟩
  obtain ⟨m, hm⟩ : ∃ n, n = ps'.length := ⟨_, rfl⟩
  have HN := hide hn
  have HM := hide hm
  have HC1 : Hid (∀ W, Below w.heap.size w W → Calls Try.prog 73 #[.slice os st.length cs, .slice ot st'.length ct] W (SameB (decide (st = st')) W)) := fun W h => (sameInts08_any st st' os ot cs ct F G W (hs.below intR_ok h) (hu.below intR_ok h) hs2).mono fun e w' h => h.below
  have HC2 : Hid (∀ W, Below w.heap.size w W → Calls Try.prog 26 #[.slice ow wt.length cw, .slice ov wt'.length cv] W (SameB (decide (wt = wt')) W)) := fun W h => (sameTables_any wt wt' ow ov cw cv F G W (ht.below tabR_ok h) (hv.below tabR_ok h) ht2).mono fun e w' h => h.below
  obtain ⟨ns, hns⟩ : ∃ n, n = st.length := ⟨_, rfl⟩
  obtain ⟨ns', hns'⟩ : ∃ n, n = st'.length := ⟨_, rfl⟩
  obtain ⟨nw, hnw⟩ : ∃ n, n = wt.length := ⟨_, rfl⟩
  obtain ⟨nw', hnw'⟩ : ∃ n, n = wt'.length := ⟨_, rfl⟩
  rw [← hns, ← hns'] at HC1
  rw [← hnw, ← hnw'] at HC2
  rw [← hn] at hp2 ⊢
  rw [← hm, ← hns, ← hns', ← hnw, ← hnw']
  clear hn hm hns hns' hnw hnw'
  obtain ⟨W1, e1⟩ : ∃ W1, w.alloc (.cells #[.slice op n cp, .slice os ns cs, .slice ow nw cw] 26) = W1 := ⟨_, rfl⟩
  have bx1 : Box W1 w.heap.size [.slice op n cp, .slice os ns cs, .slice ow nw cw] 26 := by rw [← e1]; exact Box.new w [.slice op n cp, .slice os ns cs, .slice ow nw cw] 26
  have bb1 := bnew (Below.refl w.heap.size w) (.cells #[.slice op n cp, .slice os ns cs, .slice ow nw cw] 26)
  rw [e1] at bb1
  obtain ⟨W2, e2⟩ : ∃ W2, W1.alloc (.cells #[.slice oq m cq, .slice ot ns' ct, .slice ov nw' cv] 26) = W2 := ⟨_, rfl⟩
  have bx2 : Box W2 W1.heap.size [.slice oq m cq, .slice ot ns' ct, .slice ov nw' cv] 26 := by rw [← e2]; exact Box.new W1 [.slice oq m cq, .slice ot ns' ct, .slice ov nw' cv] 26
  have bb2 := bnew (Below.refl W1.heap.size W1) (.cells #[.slice oq m cq, .slice ot ns' ct, .slice ov nw' cv] 26)
  rw [e2] at bb2
  have hb0 := bb1.trans (bb2.mono bb1.size)
  have HB := hide hb0
  have HX1 := hide (bx1.below bb2)
  have HX2 := hide bx2
  have HP := hide (hp.below prcR_ok hb0)
  have HQ := hide (hq.below prcR_ok hb0)
  have d0 := HX1.out.cell 0
  have d1 := HX1.out.cell 1
  have d2 := HX1.out.cell 2
  have f0 := HX2.out.cell 0
  have f1 := HX2.out.cell 1
  have f2 := HX2.out.cell 2
  simp only [List.getElem?_cons_zero, List.getElem?_cons_succ] at d0 d1 d2 f0 f1 f2
  clear bx1 bx2 bb1 bb2 hb0 hp hq hs hu ht hv hs2 ht2
  by_cases hl : n = m
  case neg =>
    have q1 : ((n : Int) != m) = true := by simp; omega
    have HR : Hid (decide ((⟨ps, st, wt⟩ : Nwk) = ⟨ps', st', wt'⟩) = false) := decide_eq_false fun h => hl (by injection h with h1; rw [HN.out, HM.out, h1])
    clear hl
    go_enter Try.func25, Try.ntmps25
    go_wp2_with fail
    go_ret
    exact ⟨ret_bool HR.out.symm, HB.out⟩
  have q1 : ((n : Int) != m) = false := by simp; omega
  have HL := hide hl
  clear hl
  by_cases hst : st = st'
  case neg =>
    rw [decide_eq_false hst] at HC1
    have HR : Hid (decide ((⟨ps, st, wt⟩ : Nwk) = ⟨ps', st', wt'⟩) = false) := decide_eq_false fun h => hst (by injection h)
    clear hst
    go_enter Try.func25, Try.ntmps25
    go_wp2_with (go_at_call 73; refine (HC1.out _ HB.out).mono ?_; rintro e w5 ⟨rfl, h5⟩)
    go_ret
    exact ⟨ret_bool HR.out.symm, HB.out.trans (h5.mono HB.out.size)⟩
  rw [decide_eq_true hst] at HC1
  have HST := hide hst
  clear hst
  by_cases hwt : wt = wt'
  case neg =>
    rw [decide_eq_false hwt] at HC2
    have HR : Hid (decide ((⟨ps, st, wt⟩ : Nwk) = ⟨ps', st', wt'⟩) = false) := decide_eq_false fun h => hwt (by injection h)
    clear hwt
    go_enter Try.func25, Try.ntmps25
    go_wp2_with (first
      | (go_at_call 73; refine (HC1.out _ HB.out).mono ?_; rintro e w5 ⟨rfl, h5⟩; have d2 := (HX1.out.below h5).cell 2; have f2 := (HX2.out.below h5).cell 2; simp only [List.getElem?_cons_zero, List.getElem?_cons_succ] at d2 f2; have HB5 := hide (HB.out.trans (h5.mono HB.out.size)); clear h5)
      | (go_at_call 26; refine (HC2.out _ HB5.out).mono ?_; rintro e w6 ⟨rfl, h6⟩))
    go_ret
    exact ⟨ret_bool HR.out.symm, HB5.out.trans (h6.mono HB5.out.size)⟩
  rw [decide_eq_true hwt] at HC2
  have HWT := hide hwt
  clear hwt
  have HR : Hid (decide ((⟨ps, st, wt⟩ : Nwk) = ⟨ps', st', wt'⟩) = decide (ps = ps')) := by
    show _ = _
    rw [HST.out, HWT.out]
    by_cases h : ps = ps'
    · simp [h]
    · rw [decide_eq_false h]; exact decide_eq_false fun g => h (by injection g)
  go_enter Try.func25, Try.ntmps25
  go_wp2_with (first
    | (go_at_call 73; refine (HC1.out _ HB.out).mono ?_; rintro e w5 ⟨rfl, h5⟩; have d2 := (HX1.out.below h5).cell 2; have f2 := (HX2.out.below h5).cell 2; simp only [List.getElem?_cons_zero, List.getElem?_cons_succ] at d2 f2; have HB5 := hide (HB.out.trans (h5.mono HB.out.size)); have HB25 := hide h5; clear h5)
    | (go_at_call 26; refine (HC2.out _ HB5.out).mono ?_; rintro e w6 ⟨rfl, h6⟩; have HB6 : Hid (Below W2.heap.size W2 w6) := HB25.out.trans (h6.mono HB25.out.size); clear h6))
  clear d0 d1 d2 f0 f1 f2
  go_loopw [5] (fun i wr => ∃ k : Nat, k ≤ n ∧ i = .int .i64 k ∧ Hid (ps = ps' ↔ ps.drop k = ps'.drop k) ∧ Hid (Below W2.heap.size W2 wr)) (fun i _ => n - (intOf i).toNat)
  case atStart => exact ⟨0, by omega, rfl, Iff.rfl, HB6⟩
  case round =>
    obtain ⟨k, hk, rfl, HE, HBk⟩ := hrel
    have d0 := (HX1.out.below HBk.out).cell 0
    have f0 := (HX2.out.below HBk.out).cell 0
    simp only [List.getElem?_cons_zero, List.getElem?_cons_succ] at d0 f0
    by_cases hlt : k < n
    · obtain ⟨S5, Le5, rs5, b7, off7, oa7, c7, hd7, _, rfl, _, y0, y1, y2, _, _, hrc, hrc2, hrs⟩ := (HP.out.below prcR_ok HBk.out).prc_at (i := k) (by have := HN.out; omega)
      have hlt2 : k < m := by have := HL.out; omega
      obtain ⟨S6, Le6, rs6, b8, off8, oa8, c8, hd8, _, rfl, _, z0, z1, z2, _, _, _, _, hrs8⟩ := (HQ.out.below prcR_ok HBk.out).prc_at (i := k) (by have := HM.out; omega)
      have HC := hide (sameProcs_any S5 Le5 S6 Le6 rs5 rs6 oa7 oa8 c7 c8 F G wr.drew (hrs.keep (w' := wr.drew) rowR_ok (fun _ _ _ => rfl)) (hrs8.keep (w' := wr.drew) rowR_ok (fun _ _ _ => rfl)) hrc2)
      have HD := hide hd7
      have HD' := hide hd8
      clear hd7 hd8 hrs hrs8 hrc hrc2
      by_cases hx : (⟨S5, Le5, rs5⟩ : Prc) = ⟨S6, Le6, rs6⟩
      · rw [decide_eq_true hx] at HC
        have HXX := hide hx
        clear hx
        go_wp2_with fail
        go_still_tail 10, (by kernel_rfl)
        change wpList _ _ _ _ _ wr.drew
        go_wp2_with (go_at_call 74; refine HC.out.mono ?_; rintro e w5 ⟨rfl, h5⟩; have HB7 := hide (HBk.out.trans ((Below.refl _ _).drew.trans h5 |>.mono HBk.out.size)); clear h5)
        go_roundw
        case rel =>
          refine ⟨k + 1, by omega, by go_num, ?_, HB7⟩
          show _ ↔ _
          rw [HE.out, HD.out, HD'.out, HXX.out]; simp
        case measure => simp [intOf]; omega
      · rw [decide_eq_false hx] at HC
        have HXX := hide hx
        clear hx
        go_wp2_with fail
        go_still_tail 10, (by kernel_rfl)
        change wpList _ _ _ _ _ wr.drew
        go_wp2_with (go_at_call 74; refine HC.out.mono ?_; rintro e w5 ⟨rfl, h5⟩; have HB7 := hide (HBk.out.trans ((Below.refl _ _).drew.trans h5 |>.mono HBk.out.size)); clear h5)
        go_ret
        refine ⟨ret_bool ?_, HB.out.trans (HB7.out.mono HB.out.size)⟩
        rw [HR.out]
        symm
        refine decide_eq_false fun h => HXX.out ?_
        have h2 := HE.out.1 h
        rw [HD.out, HD'.out] at h2
        injection h2
    · go_wp2_with fail
      go_ret
      refine ⟨ret_bool ?_, HB.out.trans (HBk.out.mono HB.out.size)⟩
      rw [HR.out]
      symm
      refine decide_eq_true (HE.out.2 ?_)
      rw [List.drop_eq_nil_of_le (by have := HN.out; omega), List.drop_eq_nil_of_le (by have := HM.out; have := HL.out; omega)]

end Go.Proofs.Ytmjcjmljnliaoaa

set_option linter.unusedVariables false
set_option linter.unusedSimpArgs false
namespace Go.Proofs.Ytmjcjmljnliaoaa
open Go.RowKit

/-- Few letters: it does not become large within 2000 ticks. -/
theorem wireAt_never {x : Nwk} (h : Right x) (fates : List Int) (hs : ∀ t ∈ x.waiting, ∀ k ∈ t, k ≤ 40) {t : Nat} (ht : t ≤ 2000) : (wireAt x fates t).lg = false := by
  obtain ⟨n, hn⟩ : ∃ n, n = x.procs.length := ⟨_, rfl⟩
  have h1 := h.n.1
  have h12 := h.n.2
  have hb := h.begin_ (M := 40) (X := 1048576) hs (by omega)
  have hok := h.ok
  unfold wireAt
  rw [← hn] at h1 h12 hb hok ⊢
  have hnn : n * n ≤ 144 := Nat.le_trans (Nat.mul_le_mul h12 h12) (by omega)
  exact WInv.never hok fates (by omega) hb (n := 2000) (by omega) ht
theorem wireAt_more {x : Nwk} {fates : List Int} {T : Nat} (h : busyS (wireAt x fates T) = false) (i : Nat) : wireAt x fates (T + i) = { wireAt x fates T with tk := T + i } := by
  have h1 := ticksS_quiet x.procs.length (nextP x.procs) (sentP x.procs) fates h i
  have h2 := wireAt_tk x fates T
  unfold wireAt at h1 h2 ⊢
  rw [h1, h2]
/-- What the snapshot is later on. -/
theorem seen_more {x : Nwk} {fates : List Int} {T : Nat} (h : busyS (wireAt x fates T) = false) (i : Nat) :
    seenS x.procs (wireAt x fates (T + i)) = { seenS x.procs (wireAt x fates T) with ticks := ((T + i : Nat) : Int) } := by
  rw [wireAt_more h i]
  rfl
theorem quiet_later {x : Nwk} {fates : List Int} {T : Nat} (h : busyS (wireAt x fates T) = false) (i : Nat) : quietS (seenS x.procs (wireAt x fates (T + i))) = true := by
  rw [quietS_seen, wireAt_more h i]
  have : busyS { wireAt x fates T with tk := T + i } = busyS (wireAt x fates T) := rfl
  rw [this, h]
  rfl

end Go.Proofs.Ytmjcjmljnliaoaa

set_option linter.unusedVariables false
set_option linter.unusedSimpArgs false
namespace Go.Proofs.Ytmjcjmljnliaoaa
open Go.RowKit

theorem drop_get {α : Type} {l : List α} {k : Nat} {x : α} (h : l[k]? = some x) : l.drop k = x :: l.drop (k + 1) := by
  obtain ⟨hk, rfl⟩ := List.getElem?_eq_some_iff.1 h
  exact List.drop_eq_getElem_cons hk
theorem quiet_eq (ps : List Prc) (st : List Int) (wt ct : List (List Int)) (n2 n3 n4 n5 : Int) : quietS ⟨⟨ps, st, wt⟩, ct, n2, n3, n4, n5⟩ = ((!wt.any nzRow) && (n4 == 0) && (n5 == 0)) := rfl

set_option maxHeartbeats 1000000 in
theorem quiet_any (v : Value) (s : Snp) (w : World) (h : SnapAt w v s) (hl : s.net.waiting.length ≤ 9223372036854775807) :
    Calls Try.prog 20 #[v] w fun e w' => e = .returned (.bool (quietS s)) ∧ Below w.heap.size w w' := by
  obtain ⟨⟨ps, st, wt⟩, ct, n2, n3, n4, n5⟩ := s
  obtain ⟨oq, cq, os, cs, ow, cw, oc, cc, rfl, -, -, -, -, -, -, hw, -⟩ := h
  simp only at hl hw ⊢
  have HC : Hid (∀ o, Calls Try.prog 64 #[.slice ow wt.length cw] (w.alloc o) fun e w' => e = .returned (.bool (wt.any nzRow)) ∧ w.alloc o = w') := fun o =>
    waiting_any wt ow cw _ (SliceR.rowsAt (hw.below tabR_ok (bnew (Below.refl _ _) _))) hl
  have HQ := hide (quiet_eq ps st wt ct n2 n3 n4 n5)
  obtain ⟨nw, hnw⟩ : ∃ n, n = wt.length := ⟨_, rfl⟩
  rw [← hnw] at HC ⊢
  generalize wt.any nzRow = b at HC HQ
  generalize ps.length = np at *
  generalize st.length = ns at *
  generalize ct.length = nc at *
  clear hnw hw hl
  rcases hb4 : (n4 == 0) with _ | _ <;> rcases hb5 : (n5 == 0) with _ | _ <;> rw [hb4, hb5] at HQ <;> cases b <;>
    (go_enter Try.func20, Try.ntmps20
     go_wp2_with (go_at_call 64; refine (HC.out _).mono ?_; rintro e w' ⟨rfl, rfl⟩)
     go_ret
     exact ⟨ret_bool (by rw [HQ.out]; rfl), bnew (Below.refl _ _) _⟩)

set_option maxRecDepth 100000 in
set_option maxHeartbeats 1000000 in
theorem rquiet_any (v : Value) (s : Snp) (w : World) (h : SnapAt w v s) (hl : s.net.waiting.length ≤ 9223372036854775807) :
    Calls Try.prog 21 #[v] w fun e w' => e = .returned (.bool (quietS s)) ∧ Below w.heap.size w w' := by
  obtain ⟨⟨ps, st, wt⟩, ct, n2, n3, n4, n5⟩ := s
  obtain ⟨oq, cq, os, cs, ow, cw, oc, cc, rfl, -, -, -, -, -, -, hw, -⟩ := h
  simp only at hl hw ⊢
  have HQ := hide (quiet_eq ps st wt ct n2 n3 n4 n5)
  generalize ps.length = np at *
  generalize st.length = ns at *
  generalize ct.length = nc at *
  obtain ⟨W1, e1⟩ : ∃ W1, w.alloc (.cells #[.slice oq np cq, .slice os ns cs, .slice ow wt.length cw, .slice oc nc cc, .int .i64 n2, .int .i64 n3, .int .i64 n4, .int .i64 n5] 37) = W1 := ⟨_, rfl⟩
  have bx1 : Box W1 w.heap.size [.slice oq np cq, .slice os ns cs, .slice ow wt.length cw, .slice oc nc cc, .int .i64 n2, .int .i64 n3, .int .i64 n4, .int .i64 n5] 37 := by rw [← e1]; exact Box.new w [.slice oq np cq, .slice os ns cs, .slice ow wt.length cw, .slice oc nc cc, .int .i64 n2, .int .i64 n3, .int .i64 n4, .int .i64 n5] 37
  have bb1 := bnew (Below.refl w.heap.size w) (.cells #[.slice oq np cq, .slice os ns cs, .slice ow wt.length cw, .slice oc nc cc, .int .i64 n2, .int .i64 n3, .int .i64 n4, .int .i64 n5] 37)
  rw [e1] at bb1
  have HR : Hid (RowsAt W1 ow wt) := SliceR.rowsAt (hw.below tabR_ok bb1)
  have c2 := bx1.cell 2
  have c6 := bx1.cell 6
  have c7 := bx1.cell 7
  simp only [List.getElem?_cons_zero, List.getElem?_cons_succ] at c2 c6 c7
  have HB := hide bb1
  clear bx1 bb1 hw
  obtain ⟨nw, hnw⟩ : ∃ n, n = wt.length := ⟨_, rfl⟩
  rw [← hnw] at c2 e1 hl ⊢
  have HNW := hide hnw
  clear hnw
  go_enter Try.func21, Try.ntmps21
  go_wp2_with fail
  go_loop [3] (fun i => ∃ k : Nat, k ≤ nw ∧ i = .int .i64 k ∧ Hid (wt.any nzRow = (wt.drop k).any nzRow)) (fun i => nw - (intOf i).toNat)
  case atStart => exact ⟨0, by omega, rfl, rfl⟩
  case round =>
    obtain ⟨k, hk, rfl, HE⟩ := hrel
    by_cases hlt : k < nw
    · obtain ⟨row, b, off, oa', c', hxx, rfl, c0, hrl, hrs⟩ := HR.out.at (k := k) (by rw [← HNW.out]; exact hlt)
      have HD : Hid (wt.drop k = row :: wt.drop (k + 1)) := drop_get hxx
      have HRS := hide hrs
      obtain ⟨nr, hnr⟩ : ∃ n, n = row.length := ⟨_, rfl⟩
      rw [← hnr] at c0 hrl
      have HNR := hide hnr
      clear hxx hrs hnr
      go_wp2_with fail
      go_loop [4] (fun i => ∃ j : Nat, j ≤ nr ∧ i = .int .i64 j ∧ Hid (nzRow row = nzRow (row.drop j))) (fun i => nr - (intOf i).toNat)
      case atStart => exact ⟨0, by omega, rfl, rfl⟩
      case round =>
        obtain ⟨j, hj, rfl, HF⟩ := hrel
        by_cases hlj : j < nr
        · obtain ⟨x, hdx, _, _, b2, off2, rfl, _, c3⟩ := HRS.out.int_at (i := j) (by rw [← HNR.out]; exact hlj)
          have HDX := hide hdx
          clear hdx
          by_cases hx : x = 0
          · have q1 : (x != 0) = false := by simp [hx]
            have HX := hide hx
            clear hx
            go_wp2_with fail
            go_round
            case rel => exact ⟨j + 1, by omega, by go_num, by show _ = _; rw [HF.out, HDX.out, HX.out]; rfl⟩
            case measure => simp [intOf]; omega
          · have q1 : (x != 0) = true := by simp [hx]
            have HX := hide q1
            clear hx
            have HS : Hid (wt.any nzRow = true) := by
              show _ = _
              rw [HE.out, HD.out, List.any_cons, HF.out, HDX.out]
              unfold nzRow
              rw [List.any_cons, HX.out]
              rfl
            go_wp2_with fail
            go_ret
            exact ⟨ret_bool (by rw [HQ.out, HS.out]; rfl), HB.out⟩
        · have HZ : Hid (nzRow row = false) := by show _ = _; rw [HF.out, List.drop_eq_nil_of_le (by have := HNR.out; omega)]; rfl
          go_wp2_with fail
          go_round
          case rel => exact ⟨k + 1, by omega, by go_num, by show _ = _; rw [HE.out, HD.out, List.any_cons, HZ.out, Bool.false_or]⟩
          case measure => simp [intOf]; omega
    · have HZ : Hid (wt.any nzRow = false) := by show _ = _; rw [HE.out, List.drop_eq_nil_of_le (by have := HNW.out; omega)]; rfl
      rcases hb4 : (n4 == 0) with _ | _
      · go_wp2_with fail
        go_ret
        exact ⟨ret_bool (by rw [HQ.out, HZ.out, hb4]; rfl), HB.out⟩
      · rcases hb5 : (n5 == 0) with _ | _
        · go_wp2_with fail
          go_ret
          exact ⟨ret_bool (by rw [HQ.out, HZ.out, hb4, hb5]; rfl), HB.out⟩
        · go_wp2_with fail
          go_ret
          exact ⟨ret_bool (by rw [HQ.out, HZ.out, hb4, hb5]; rfl), HB.out⟩

end Go.Proofs.Ytmjcjmljnliaoaa

set_option linter.unusedVariables false
namespace Go.Proofs.Ytmjcjmljnliaoaa
open Go.RowKit

theorem one_any (t : Int) (w : World) : Calls Try.prog 78 #[.int .i64 t] w fun e w' => e = .returned (.agg #[.int .i64 t, .int .i64 0]) ∧ Below w.heap.size w w' := by
  go_enter Try.func78, Try.ntmps78
  go_wp2_with fail
  refine bodyPost_ret (v := .agg #[.int .i64 t, .int .i64 0]) (by simp [results, Try.results78, go_sem]) rfl ⟨rfl, ?_⟩
  exact bnew (Below.refl _ _) _

def vertexRs : List (List Rul) := [[⟨1, []⟩], [⟨0, [⟨1, 0⟩, ⟨2, 0⟩]⟩]]
def rotorRs : List (List Rul) := [[⟨1, [⟨1, 0⟩]⟩], [⟨0, [⟨2, 0⟩]⟩]]
def setterRs : List (List Rul) := [[⟨0, []⟩, ⟨1, []⟩], [⟨0, []⟩, ⟨1, []⟩]]
def PrcPost (w : World) (S L : Int) (rs : List (List Rul)) (e : Ending) (w' : World) : Prop :=
  ∃ oa c, e = .returned (.agg #[.int .i64 S, .int .i64 L, .slice oa rs.length c]) ∧ rs.length ≤ c ∧ SliceR (slcR ruleR 2) 1 All w' oa rs ∧ Below w.heap.size w w'

theorem i64_0 : I64 0 := by unfold I64; omega
theorem i64_1 : I64 1 := by unfold I64; omega
theorem i64_2 : I64 2 := by unfold I64; omega
theorem i64_4 {x : Int} (h : 0 ≤ x ∧ x ≤ 1000) : I64 x := by unfold I64; omega

theorem rule_lit {F : Foot} {w : World} {nx : Int} {oa : Option Addr} {c : Nat} {st : List Out} (h : I64 nx) (hc : st.length ≤ c) (hl : st.length ≤ 1000) (hs : SliceR outR 2 F w oa st) : ruleR F w [.int .i64 nx, .slice oa st.length c] ⟨nx, st⟩ :=
  ⟨oa, c, rfl, h, hc, by show st.length ≤ _; omega, hs⟩
theorem row_lit {F : Foot} {w : World} {oa : Option Addr} {c : Nat} {row : List Rul} (hc : row.length ≤ c) (hl : row.length ≤ 1000) (hs : SliceR ruleR 2 F w oa row) : slcR ruleR 2 F w [.slice oa row.length c] row :=
  ⟨oa, c, rfl, hc, by omega, hs⟩
theorem lit1 {α : Type} {R : Rep α} {sz : Nat} {F G : Foot} (ok : RepOk R sz) (w : World) (e : TypeId) (cs : List Value) (x : α) (h : R F w cs x) (hFG : ∀ k, F k → G k) (hG : G w.heap.size) :
    SliceR R sz G (w.alloc (.cells [cs].flatten.toArray e)) (some ⟨w.heap.size, 0, none⟩) [x] :=
  SliceR.lit ok w e [cs] [x] (fun i y hy => by match i, hy with | 0, hy => simp at hy; subst hy; exact ⟨cs, rfl, h⟩) rfl hFG hG
theorem lit2 {α : Type} {R : Rep α} {sz : Nat} {F G : Foot} (ok : RepOk R sz) (w : World) (e : TypeId) (cs cs' : List Value) (x x' : α) (h : R F w cs x) (h' : R F w cs' x') (hFG : ∀ k, F k → G k) (hG : G w.heap.size) :
    SliceR R sz G (w.alloc (.cells [cs, cs'].flatten.toArray e)) (some ⟨w.heap.size, 0, none⟩) [x, x'] :=
  SliceR.lit ok w e [cs, cs'] [x, x'] (fun i y hy => by match i, hy with | 0, hy => simp at hy; subst hy; exact ⟨cs, rfl, h⟩ | 1, hy => simp at hy; subst hy; exact ⟨cs', rfl, h'⟩) rfl hFG hG

/-- A block that is written alone: other blocks read as they did. -/
theorem set3 (w3 : World) (B : Nat) (x y z x' y' z' : Value) (t : TypeId) (h : w3.heap[B]? = some (.cells #[x', y', z'] t (0, 0))) :
    (((w3.setCell ⟨B, 0, none⟩ x).setCell ⟨B, 1, none⟩ y).setCell ⟨B, 2, none⟩ z).heap.size = w3.heap.size ∧ w3.grownBy (((w3.setCell ⟨B, 0, none⟩ x).setCell ⟨B, 1, none⟩ y).setCell ⟨B, 2, none⟩ z) (some B) ∧
    (((w3.setCell ⟨B, 0, none⟩ x).setCell ⟨B, 1, none⟩ y).setCell ⟨B, 2, none⟩ z).heap[B]? = some (.cells #[x, y, z] t (0, 0)) := by
  have h1 := heap_setCell_same w3 B 0 _ _ x h
  have h2 := heap_setCell_same _ B 1 _ _ y h1
  have h3 := heap_setCell_same _ B 2 _ _ z h2
  refine ⟨by simp [World.setCell], ⟨rfl, rfl, rfl, by simp [World.setCell], fun k _ hne => ?_⟩, by rw [h3]; rfl⟩
  have hk : k ≠ B := fun e => hne (by rw [e])
  rw [Below.heap_setCell _ _ _ _ hk, Below.heap_setCell _ _ _ _ hk, Below.heap_setCell _ _ _ _ hk]
theorem same_of_grown {w w' : World} {B : Nat} (h : w.grownBy w' (some B)) : SameOn (Ge (B + 1)) w w' := fun k hk hl => h.block k hl fun e => by injection e with e; unfold Ge at hk; omega

set_option maxHeartbeats 1000000 in
theorem setter_any (w : World) : Calls Try.prog 77 #[] w (PrcPost w 2 2 setterRs) := by
  go_enter Try.func77, Try.ntmps77
  go_wp2_with fail
  let Z : Obj := .cells #[.int .i64 2, .int .i64 2, .slice (some ⟨w.heap.size + 1 + 1 + 1, 0, none⟩) 2 2] 47
  let R : Obj := .cells #[.int .i64 0, .slice none 0 0, .int .i64 1, .slice none 0 0] 115
  have z : ∀ (nx : Int) (wx : World), I64 nx → ruleR All wx [.int .i64 nx, .slice none 0 0] ⟨nx, []⟩ := fun nx wx h => rule_lit h (by simp) (by simp) (SliceR.nil _ _ _ _ _)
  have s1 := lit2 (F := All) (G := All) ruleR_ok (w.alloc Z) 115 _ _ _ _ (z 0 _ i64_0) (z 1 _ i64_1) (fun _ h => h) trivial
  have s2 := lit2 (F := All) (G := All) ruleR_ok ((w.alloc Z).alloc R) 115 _ _ _ _ (z 0 _ i64_0) (z 1 _ i64_1) (fun _ h => h) trivial
  have s1' : SliceR ruleR 2 All (((w.alloc Z).alloc R).alloc R) (some ⟨w.heap.size + 1, 0, none⟩) [⟨0, []⟩, ⟨1, []⟩] := by simpa using s1.below ruleR_ok (bnew (Below.refl _ _) R)
  have s2' : SliceR ruleR 2 All (((w.alloc Z).alloc R).alloc R) (some ⟨w.heap.size + 1 + 1, 0, none⟩) [⟨0, []⟩, ⟨1, []⟩] := by simpa using s2
  have s3 := lit2 (F := All) (G := All) rowR_ok (((w.alloc Z).alloc R).alloc R) 113 _ _ _ _ (row_lit (c := 2) (by decide) (by decide) s1') (row_lit (c := 2) (by decide) (by decide) s2') (fun _ h => h) trivial
  refine bodyPost_ret (v := .agg #[.int .i64 2, .int .i64 2, .slice (some ⟨w.heap.size + 1 + 1 + 1, 0, none⟩) 2 2]) (by simp [results, Try.results77, go_sem]) rfl ⟨_, 2, rfl, by decide, ?_, bnew (bnew (bnew (bnew (Below.refl _ _) _) _) _) _⟩
  unfold setterRs
  simpa [Z, R] using s3

set_option maxHeartbeats 1000000 in
theorem vertex_any (w : World) : Calls Try.prog 75 #[] w (PrcPost w 2 1 vertexRs) := by
  go_enter Try.func75, Try.ntmps75
  go_wp2_with fail
  refine (one_any _ _).mono ?_
  rintro e w2 ⟨rfl, hb2⟩
  have s1 := lit1 (F := Ge (w.heap.size + 1)) (G := Ge (w.heap.size + 1)) ruleR_ok (w.alloc (.cells #[.int .i64 0, .int .i64 0, .slice none 0 0] 47)) 115 _ _ (rule_lit (nx := 1) (c := 0) (oa := none) (st := []) i64_1 (by simp) (by simp) (SliceR.nil _ _ _ _ _)) (fun _ h => h) (by simp [Ge])
  have hx2 := box_then (box_new (box_refl w (.cells #[.int .i64 0, .int .i64 0, .slice none 0 0] 47)) (by simp) (.cells #[.int .i64 1, .slice none 0 0] 115)) (by simp) hb2
  have s1 := s1.below ruleR_ok hb2
  go_wp2_with fail
  refine (one_any _ _).mono ?_
  rintro e w3 ⟨rfl, hb3⟩
  have hx3 := box_then hx2 (by simp) hb3
  have s1 := s1.below ruleR_ok hb3
  have d0 := box_cell hx3 0
  have d1 := box_cell hx3 1
  have d2 := box_cell hx3 2
  simp at d0 d1 d2
  have f0 := box_free hx3 0
  have f1 := box_free hx3 1
  have f2 := box_free hx3 2
  have hsz := box_lt hx3
  have hsz1 : w.heap.size < w3.heap.size + 1 := by omega
  have hsz2 : w.heap.size < w3.heap.size + 1 + 1 := by omega
  have HB := hide ((hx3.block w.heap.size (by omega)).trans (heap_alloc_new w _))
  have S1 := hide s1
  clear s1
  go_wp2_with fail
  have hs3 := set3 w3 w.heap.size (.int .i64 2) (.int .i64 1) (.slice (some ⟨w3.heap.size + 1 + 1, 0, none⟩) 2 2) _ _ _ _ HB.out
  have s1 := S1.out.keep ruleR_ok (same_of_grown hs3.2.1)
  have hbw : Below w.heap.size w (((w3.setCell ⟨w.heap.size, 0, none⟩ (.int .i64 2)).setCell ⟨w.heap.size, 1, none⟩ (.int .i64 1)).setCell ⟨w.heap.size, 2, none⟩ (.slice (some ⟨w3.heap.size + 1 + 1, 0, none⟩) 2 2)) :=
    (below_box hx3).grown hs3.2.1 (below_box hx3).size (fun k hk => by injection hk with hk; omega)
  obtain ⟨h4, _, hB⟩ := hs3
  generalize ((w3.setCell ⟨w.heap.size, 0, none⟩ (.int .i64 2)).setCell ⟨w.heap.size, 1, none⟩ (.int .i64 1)).setCell ⟨w.heap.size, 2, none⟩ (.slice (some ⟨w3.heap.size + 1 + 1, 0, none⟩) 2 2) = w4 at *
  have G4 : Ge (w.heap.size + 1) w4.heap.size := by unfold Ge; omega
  rw [← h4] at hsz hsz1 hsz2 hB ⊢
  have s2 := lit2 (F := Ge (w.heap.size + 1)) (G := Ge (w.heap.size + 1)) outR_ok w4 80 _ _ ⟨1, 0⟩ ⟨2, 0⟩ ⟨rfl, i64_1, i64_0⟩ ⟨rfl, i64_2, i64_0⟩ (fun _ h => h) G4
  have s3 := lit1 (F := Ge (w.heap.size + 1)) (G := Ge (w.heap.size + 1)) ruleR_ok _ 115 _ _ (rule_lit (nx := 0) (c := 2) i64_0 (by decide) (by decide) s2) (fun _ h => h) (by unfold Ge; simp; omega)
  have s1 := (s1.below ruleR_ok (bnew (Below.refl _ _) (.cells #[.int .i64 1, .int .i64 0, .int .i64 2, .int .i64 0] 80))).below ruleR_ok (bnew (Below.refl _ _) (.cells #[.int .i64 0, .slice (some ⟨w4.heap.size, 0, none⟩) 2 2] 115))
  have s4 := lit2 (F := Ge (w.heap.size + 1)) (G := All) rowR_ok _ 113 _ _ _ _ (row_lit (c := 1) (by decide) (by decide) s1) (row_lit (c := 1) (by decide) (by decide) s3) (fun _ _ => trivial) trivial
  have q := fun i => cell_of_row w4 w.heap.size i _ _ _ hB
  have q0 := q 0
  have q1 := q 1
  have q2 := q 2
  simp at q0 q1 q2
  have l0 : w.heap.size < w4.heap.size := hsz
  have S4 := hide s4
  clear s4 s1 s2 s3 q
  refine bodyPost_ret (v := .agg #[.int .i64 2, .int .i64 1, .slice (some ⟨w4.heap.size + 1 + 1, 0, none⟩) 2 2]) (by simp [results, Try.results75, go_sem, q0, q1, q2, hsz, hsz1, hsz2]) rfl ⟨_, 2, rfl, by decide, ?_, bnew (bnew (bnew hbw _) _) _⟩
  have := S4.out
  first | unfold vertexRs | unfold rotorRs
  simpa using this

set_option maxHeartbeats 1000000 in
theorem rotor_any (w : World) : Calls Try.prog 76 #[] w (PrcPost w 2 1 rotorRs) := by
  go_enter Try.func76, Try.ntmps76
  go_wp2_with fail
  refine (one_any _ _).mono ?_
  rintro e w2 ⟨rfl, hb2⟩
  have hx2 := box_then (box_refl w (.cells #[.int .i64 0, .int .i64 0, .slice none 0 0] 47)) (by simp) hb2
  have hsz0 := box_lt hx2
  have s0 := lit1 (F := Ge (w.heap.size + 1)) (G := Ge (w.heap.size + 1)) outR_ok w2 80 _ ⟨1, 0⟩ ⟨rfl, i64_1, i64_0⟩ (fun _ h => h) (by unfold Ge; omega)
  have s1 := lit1 (F := Ge (w.heap.size + 1)) (G := Ge (w.heap.size + 1)) ruleR_ok _ 115 _ _ (rule_lit (nx := 1) (c := 1) i64_1 (by decide) (by decide) s0) (fun _ h => h) (by unfold Ge; simp; omega)
  go_wp2_with fail
  refine (one_any _ _).mono ?_
  rintro e w3 ⟨rfl, hb3⟩
  have s1 := s1.below ruleR_ok hb3
  have hx2 := box_new (box_new hx2 (by simp) (.cells #[.int .i64 1, .int .i64 0] 80)) (by simp) (.cells #[.int .i64 1, .slice (some ⟨w2.heap.size, 0, none⟩) 1 1] 115)
  have hx3 := box_then hx2 (by simp) hb3
  have d0 := box_cell hx3 0
  have d1 := box_cell hx3 1
  have d2 := box_cell hx3 2
  simp at d0 d1 d2
  have f0 := box_free hx3 0
  have f1 := box_free hx3 1
  have f2 := box_free hx3 2
  have hsz := box_lt hx3
  have hsz1 : w.heap.size < w3.heap.size + 1 := by omega
  have hsz2 : w.heap.size < w3.heap.size + 1 + 1 := by omega
  have HB := hide ((hx3.block w.heap.size (by omega)).trans (heap_alloc_new w _))
  have S1 := hide s1
  clear s1
  go_wp2_with fail
  have hs3 := set3 w3 w.heap.size (.int .i64 2) (.int .i64 1) (.slice (some ⟨w3.heap.size + 1 + 1, 0, none⟩) 2 2) _ _ _ _ HB.out
  have s1 := S1.out.keep ruleR_ok (same_of_grown hs3.2.1)
  have hbw : Below w.heap.size w (((w3.setCell ⟨w.heap.size, 0, none⟩ (.int .i64 2)).setCell ⟨w.heap.size, 1, none⟩ (.int .i64 1)).setCell ⟨w.heap.size, 2, none⟩ (.slice (some ⟨w3.heap.size + 1 + 1, 0, none⟩) 2 2)) :=
    (below_box hx3).grown hs3.2.1 (below_box hx3).size (fun k hk => by injection hk with hk; omega)
  obtain ⟨h4, _, hB⟩ := hs3
  generalize ((w3.setCell ⟨w.heap.size, 0, none⟩ (.int .i64 2)).setCell ⟨w.heap.size, 1, none⟩ (.int .i64 1)).setCell ⟨w.heap.size, 2, none⟩ (.slice (some ⟨w3.heap.size + 1 + 1, 0, none⟩) 2 2) = w4 at *
  have G4 : Ge (w.heap.size + 1) w4.heap.size := by unfold Ge; omega
  rw [← h4] at hsz hsz1 hsz2 hB ⊢
  have s2 := lit1 (F := Ge (w.heap.size + 1)) (G := Ge (w.heap.size + 1)) outR_ok w4 80 _ ⟨2, 0⟩ ⟨rfl, i64_2, i64_0⟩ (fun _ h => h) G4
  have s3 := lit1 (F := Ge (w.heap.size + 1)) (G := Ge (w.heap.size + 1)) ruleR_ok _ 115 _ _ (rule_lit (nx := 0) (c := 1) i64_0 (by decide) (by decide) s2) (fun _ h => h) (by unfold Ge; simp; omega)
  have s1 := (s1.below ruleR_ok (bnew (Below.refl _ _) (.cells #[.int .i64 2, .int .i64 0] 80))).below ruleR_ok (bnew (Below.refl _ _) (.cells #[.int .i64 0, .slice (some ⟨w4.heap.size, 0, none⟩) 1 1] 115))
  have s4 := lit2 (F := Ge (w.heap.size + 1)) (G := All) rowR_ok _ 113 _ _ _ _ (row_lit (c := 1) (by decide) (by decide) s1) (row_lit (c := 1) (by decide) (by decide) s3) (fun _ _ => trivial) trivial
  have q := fun i => cell_of_row w4 w.heap.size i _ _ _ hB
  have q0 := q 0
  have q1 := q 1
  have q2 := q 2
  simp at q0 q1 q2
  have l0 : w.heap.size < w4.heap.size := hsz
  have S4 := hide s4
  clear s4 s1 s2 s3 q
  refine bodyPost_ret (v := .agg #[.int .i64 2, .int .i64 1, .slice (some ⟨w4.heap.size + 1 + 1, 0, none⟩) 2 2]) (by simp [results, Try.results76, go_sem, q0, q1, q2, hsz, hsz1, hsz2]) rfl ⟨_, 2, rfl, by decide, ?_, bnew (bnew (bnew hbw _) _) _⟩
  have := S4.out
  first | unfold vertexRs | unfold rotorRs
  simpa using this

end Go.Proofs.Ytmjcjmljnliaoaa

set_option linter.unusedVariables false
set_option linter.unusedSimpArgs false
namespace Go.Proofs.Ytmjcjmljnliaoaa
open Go.RowKit

theorem up {α : Type} {R : Rep α} {sz : Nat} {F : Foot} {w : World} {oa : Option Addr} {xs : List α} (ok : RepOk R sz) (o : Obj) (h : SliceR R sz F w oa xs) : SliceR R sz F (w.alloc o) oa xs := h.below ok (bnew (Below.refl _ _) o)
theorem prc_lit {F : Foot} {w : World} {S L : Int} {oa : Option Addr} {c : Nat} {rs : List (List Rul)} (h : I64 S) (h' : I64 L) (hc : rs.length ≤ c) (hl : rs.length ≤ 1000) (hs : SliceR (slcR ruleR 2) 1 F w oa rs) : prcR F w [.int .i64 S, .int .i64 L, .slice oa rs.length c] ⟨S, L, rs⟩ :=
  ⟨oa, c, rfl, h, h', hc, by show rs.length ≤ _; omega, hs⟩
theorem ints_row {F : Foot} {w : World} {oa : Option Addr} {c : Nat} {row : List Int} (hc : row.length ≤ c) (hl : row.length ≤ 1000) (hs : SliceR intR 1 F w oa row) : slcR intR 1 F w [.slice oa row.length c] row :=
  ⟨oa, c, rfl, hc, by omega, hs⟩
def pairPs : List Prc := [⟨1, 1, [[⟨0, [⟨1, 0⟩]⟩]]⟩, ⟨1, 1, [[⟨0, []⟩]]⟩]
def pairX : Nwk := ⟨pairPs, [0, 0], [[1], [0]]⟩
set_option maxHeartbeats 1000000 in
theorem pair_any (w : World) : Calls Try.prog 61 #[] w fun e w' => ∃ op os ow, e = .returned (.agg #[.slice op 2 2, .slice os 2 2, .slice ow 2 2]) ∧
    SliceR prcR 3 (Ge w.heap.size) w' op pairPs ∧ SliceR intR 1 (Ge w.heap.size) w' os [0, 0] ∧ SliceR (slcR intR 1) 1 (Ge w.heap.size) w' ow [[1], [0]] ∧ Below w.heap.size w w' := by
  go_enter Try.func61, Try.ntmps61
  go_wp2_with fail
  let o0 : Obj := .cells #[.slice (some ⟨w.heap.size + 1 + 1 + 1 + 1 + 1 + 1 + 1 + 1, 0, none⟩) 2 2, .slice (some ⟨w.heap.size + 1 + 1 + 1 + 1 + 1 + 1 + 1 + 1 + 1, 0, none⟩) 2 2, .slice (some ⟨w.heap.size + 1 + 1 + 1 + 1 + 1 + 1 + 1 + 1 + 1 + 1 + 1 + 1, 0, none⟩) 2 2] 26
  let o1 : Obj := .cells #[.int .i64 1, .int .i64 0] 80
  let o2 : Obj := .cells #[.int .i64 0, .slice (some ⟨w.heap.size + 1, 0, none⟩) 1 1] 115
  let o3 : Obj := .cells #[.slice (some ⟨w.heap.size + 1 + 1, 0, none⟩) 1 1] 113
  let o4 : Obj := .cells #[.int .i64 1, .int .i64 1, .slice (some ⟨w.heap.size + 1 + 1 + 1, 0, none⟩) 1 1] 47
  let o5 : Obj := .cells #[.int .i64 0, .slice none 0 0] 115
  let o6 : Obj := .cells #[.slice (some ⟨w.heap.size + 1 + 1 + 1 + 1 + 1, 0, none⟩) 1 1] 113
  let o7 : Obj := .cells #[.int .i64 1, .int .i64 1, .slice (some ⟨w.heap.size + 1 + 1 + 1 + 1 + 1 + 1, 0, none⟩) 1 1] 47
  let o8 : Obj := .cells #[.int .i64 1, .int .i64 1, .slice (some ⟨w.heap.size + 1 + 1 + 1, 0, none⟩) 1 1, .int .i64 1, .int .i64 1, .slice (some ⟨w.heap.size + 1 + 1 + 1 + 1 + 1 + 1, 0, none⟩) 1 1] 47
  let o9 : Obj := .cells #[.int .i64 0, .int .i64 0] 3
  let o10 : Obj := .cells #[.int .i64 1] 3
  let o11 : Obj := .cells #[.int .i64 0] 3
  let o12 : Obj := .cells #[.slice (some ⟨w.heap.size + 1 + 1 + 1 + 1 + 1 + 1 + 1 + 1 + 1 + 1, 0, none⟩) 1 1, .slice (some ⟨w.heap.size + 1 + 1 + 1 + 1 + 1 + 1 + 1 + 1 + 1 + 1 + 1, 0, none⟩) 1 1] 22
  have s1 : SliceR (outR) 2 (Ge w.heap.size) ((w.alloc o0).alloc o1) (some ⟨w.heap.size + 1, 0, none⟩) [⟨1, 0⟩] := by simpa [o0, o1] using lit1 (F := Ge w.heap.size) (G := Ge w.heap.size) outR_ok (w.alloc o0) 80 _ ⟨1, 0⟩ ⟨rfl, i64_1, i64_0⟩ (fun _ h => h) (by unfold Ge; simp; try omega)
  have s2 : SliceR (ruleR) 2 (Ge w.heap.size) (((w.alloc o0).alloc o1).alloc o2) (some ⟨w.heap.size + 1 + 1, 0, none⟩) [⟨0, [⟨1, 0⟩]⟩] := by simpa [o0, o1, o2] using lit1 (F := Ge w.heap.size) (G := Ge w.heap.size) ruleR_ok ((w.alloc o0).alloc o1) 115 _ _ (rule_lit (nx := 0) (c := 1) i64_0 (by decide) (by decide) s1) (fun _ h => h) (by unfold Ge; simp; try omega)
  have s3 : SliceR (slcR ruleR 2) 1 (Ge w.heap.size) ((((w.alloc o0).alloc o1).alloc o2).alloc o3) (some ⟨w.heap.size + 1 + 1 + 1, 0, none⟩) [[⟨0, [⟨1, 0⟩]⟩]] := by simpa [o0, o1, o2, o3] using lit1 (F := Ge w.heap.size) (G := Ge w.heap.size) rowR_ok (((w.alloc o0).alloc o1).alloc o2) 113 _ _ (row_lit (c := 1) (by decide) (by decide) s2) (fun _ h => h) (by unfold Ge; simp; try omega)
  have s5 : SliceR (ruleR) 2 (Ge w.heap.size) ((((((w.alloc o0).alloc o1).alloc o2).alloc o3).alloc o4).alloc o5) (some ⟨w.heap.size + 1 + 1 + 1 + 1 + 1, 0, none⟩) [⟨0, []⟩] := by simpa [o0, o1, o2, o3, o4, o5] using lit1 (F := Ge w.heap.size) (G := Ge w.heap.size) ruleR_ok (((((w.alloc o0).alloc o1).alloc o2).alloc o3).alloc o4) 115 _ _ (rule_lit (nx := 0) (c := 0) (oa := none) (st := []) i64_0 (by simp) (by simp) (SliceR.nil _ _ _ _ _)) (fun _ h => h) (by unfold Ge; simp; try omega)
  have s6 : SliceR (slcR ruleR 2) 1 (Ge w.heap.size) (((((((w.alloc o0).alloc o1).alloc o2).alloc o3).alloc o4).alloc o5).alloc o6) (some ⟨w.heap.size + 1 + 1 + 1 + 1 + 1 + 1, 0, none⟩) [[⟨0, []⟩]] := by simpa [o0, o1, o2, o3, o4, o5, o6] using lit1 (F := Ge w.heap.size) (G := Ge w.heap.size) rowR_ok ((((((w.alloc o0).alloc o1).alloc o2).alloc o3).alloc o4).alloc o5) 113 _ _ (row_lit (c := 1) (by decide) (by decide) s5) (fun _ h => h) (by unfold Ge; simp; try omega)
  have s8 : SliceR (prcR) 3 (Ge w.heap.size) (((((((((w.alloc o0).alloc o1).alloc o2).alloc o3).alloc o4).alloc o5).alloc o6).alloc o7).alloc o8) (some ⟨w.heap.size + 1 + 1 + 1 + 1 + 1 + 1 + 1 + 1, 0, none⟩) pairPs := by unfold pairPs; simpa [o0, o1, o2, o3, o4, o5, o6, o7, o8] using lit2 (F := Ge w.heap.size) (G := Ge w.heap.size) prcR_ok ((((((((w.alloc o0).alloc o1).alloc o2).alloc o3).alloc o4).alloc o5).alloc o6).alloc o7) 47 _ _ ⟨1, 1, [[⟨0, [⟨1, 0⟩]⟩]]⟩ ⟨1, 1, [[⟨0, []⟩]]⟩ (prc_lit (c := 1) i64_1 i64_1 (by decide) (by decide) (up rowR_ok o7 (up rowR_ok o6 (up rowR_ok o5 (up rowR_ok o4 s3))))) (prc_lit (c := 1) i64_1 i64_1 (by decide) (by decide) (up rowR_ok o7 s6)) (fun _ h => h) (by unfold Ge; simp; try omega)
  have s9 : SliceR (intR) 1 (Ge w.heap.size) ((((((((((w.alloc o0).alloc o1).alloc o2).alloc o3).alloc o4).alloc o5).alloc o6).alloc o7).alloc o8).alloc o9) (some ⟨w.heap.size + 1 + 1 + 1 + 1 + 1 + 1 + 1 + 1 + 1, 0, none⟩) [0, 0] := by simpa [o0, o1, o2, o3, o4, o5, o6, o7, o8, o9] using ints_lit (F := Ge w.heap.size) (G := Ge w.heap.size) (((((((((w.alloc o0).alloc o1).alloc o2).alloc o3).alloc o4).alloc o5).alloc o6).alloc o7).alloc o8) 3 [0, 0] (by intro x hx; simp at hx; subst hx; exact i64_0) (by unfold Ge; simp; try omega)
  have s10 : SliceR (intR) 1 (Ge w.heap.size) (((((((((((w.alloc o0).alloc o1).alloc o2).alloc o3).alloc o4).alloc o5).alloc o6).alloc o7).alloc o8).alloc o9).alloc o10) (some ⟨w.heap.size + 1 + 1 + 1 + 1 + 1 + 1 + 1 + 1 + 1 + 1, 0, none⟩) [1] := by simpa [o0, o1, o2, o3, o4, o5, o6, o7, o8, o9, o10] using ints_lit (F := Ge w.heap.size) (G := Ge w.heap.size) ((((((((((w.alloc o0).alloc o1).alloc o2).alloc o3).alloc o4).alloc o5).alloc o6).alloc o7).alloc o8).alloc o9) 3 [1] (by intro x hx; simp at hx; subst hx; exact i64_1) (by unfold Ge; simp; try omega)
  have s11 : SliceR (intR) 1 (Ge w.heap.size) ((((((((((((w.alloc o0).alloc o1).alloc o2).alloc o3).alloc o4).alloc o5).alloc o6).alloc o7).alloc o8).alloc o9).alloc o10).alloc o11) (some ⟨w.heap.size + 1 + 1 + 1 + 1 + 1 + 1 + 1 + 1 + 1 + 1 + 1, 0, none⟩) [0] := by simpa [o0, o1, o2, o3, o4, o5, o6, o7, o8, o9, o10, o11] using ints_lit (F := Ge w.heap.size) (G := Ge w.heap.size) (((((((((((w.alloc o0).alloc o1).alloc o2).alloc o3).alloc o4).alloc o5).alloc o6).alloc o7).alloc o8).alloc o9).alloc o10) 3 [0] (by intro x hx; simp at hx; subst hx; exact i64_0) (by unfold Ge; simp; try omega)
  have s12 : SliceR (slcR intR 1) 1 (Ge w.heap.size) (((((((((((((w.alloc o0).alloc o1).alloc o2).alloc o3).alloc o4).alloc o5).alloc o6).alloc o7).alloc o8).alloc o9).alloc o10).alloc o11).alloc o12) (some ⟨w.heap.size + 1 + 1 + 1 + 1 + 1 + 1 + 1 + 1 + 1 + 1 + 1 + 1, 0, none⟩) [[1], [0]] := by simpa [o0, o1, o2, o3, o4, o5, o6, o7, o8, o9, o10, o11, o12] using lit2 (F := Ge w.heap.size) (G := Ge w.heap.size) tabR_ok ((((((((((((w.alloc o0).alloc o1).alloc o2).alloc o3).alloc o4).alloc o5).alloc o6).alloc o7).alloc o8).alloc o9).alloc o10).alloc o11) 22 _ _ [1] [0] (ints_row (c := 1) (by decide) (by decide) (up intR_ok o11 s10)) (ints_row (c := 1) (by decide) (by decide) s11) (fun _ h => h) (by unfold Ge; simp; try omega)
  refine bodyPost_ret (v := .agg #[.slice (some ⟨w.heap.size + 1 + 1 + 1 + 1 + 1 + 1 + 1 + 1, 0, none⟩) 2 2, .slice (some ⟨w.heap.size + 1 + 1 + 1 + 1 + 1 + 1 + 1 + 1 + 1, 0, none⟩) 2 2, .slice (some ⟨w.heap.size + 1 + 1 + 1 + 1 + 1 + 1 + 1 + 1 + 1 + 1 + 1 + 1, 0, none⟩) 2 2]) (by simp [results, Try.results61, go_sem]) rfl ⟨_, _, _, rfl, ?_, ?_, ?_, ?_⟩
  · exact (up prcR_ok o12 (up prcR_ok o11 (up prcR_ok o10 (up prcR_ok o9 s8))))
  · exact (up intR_ok o12 (up intR_ok o11 (up intR_ok o10 s9)))
  · exact s12
  · exact (bnew (bnew (bnew (bnew (bnew (bnew (bnew (bnew (bnew (bnew (bnew (bnew (bnew (Below.refl _ _) _) _) _) _) _) _) _) _) _) _) _) _) _)

def pairOkX (fates : List Int) (t s : Nat) : Bool :=
  (List.range t).all (fun i => busyS (wireAt pairX fates i)) && !busyS (wireAt pairX fates t) && (wireAt pairX fates t).se == s && (wireAt pairX fates t).ct == [[1], [1]]
theorem pairX_none : pairOkX [] 3 2 = true := by decide +kernel
theorem pairX_lost : pairOkX [1] 7 3 = true := by decide +kernel
theorem pairX_twice : pairOkX [2] 4 3 = true := by decide +kernel
theorem pairX_one : (wireAt pairX [] 1).fl.length = 1 ∧ queuedS (wireAt pairX [] 1).ls = 1 ∧ busyS (wireAt pairX [] 1) = true := by decide +kernel
theorem pairX_right : netErr pairX = 0 := by decide +kernel
theorem pairX_few : ∀ t ∈ pairX.waiting, ∀ k ∈ t, k ≤ 40 := by decide
def SnapIs (F : Foot) (w : World) (T S : Int) (v : Value) (s : Snp) : Prop := SnapF F w v s ∧ s.ticks = T ∧ s.sent = S ∧ s.net.waiting.length ≤ 9223372036854775807 ∧ s.counts.length ≤ 9223372036854775807
theorem seen_len {x : Nwk} (h : Right x) (fates : List Int) {t : Nat} (ht : t ≤ 4096) : (seenS x.procs (wireAt x fates t)).net.waiting.length = x.procs.length ∧ (seenS x.procs (wireAt x fates t)).counts.length = x.procs.length ∧ (seenS x.procs (wireAt x fates t)).net.state.length = x.procs.length :=
  have hi := wireAt_inv h fates ht
  ⟨hi.nwt, hi.nct, hi.nst⟩
theorem pair_run (op os ow oF : Option Addr) (fates : List Int) (cF : Nat) (T S : Nat) (w : World) (hk : pairOkX fates T S = true) (hT : T ≤ 20) (hf : fateErr fates = 0) (hF : SliceR intR 1 All w oF fates) {F : Foot}
    (hp : SliceR prcR 3 F w op pairPs) (hs : SliceR intR 1 F w os [0, 0]) (ht : SliceR (slcR intR 1) 1 F w ow [[1], [0]]) :
    Calls Try.prog 23 #[.agg #[.slice op 2 2, .slice os 2 2, .slice ow 2 2], .slice oF fates.length cF, .int .i64 20] w fun e w' => ∃ v s, e = .returned (.tuple #[v, .int .i64 0]) ∧ SnapIs (fun k => F k ∨ w.heap.size ≤ k) w' T S v s ∧ quietS s = true ∧ s.counts = [[1], [1]] ∧ Below w.heap.size w w' := by
  have hr := netErr_zero pairX_right
  simp only [pairOkX, Bool.and_eq_true, List.all_eq_true, List.mem_range, Bool.not_eq_true', beq_iff_eq] at hk
  obtain ⟨⟨⟨k1, k2⟩, k3⟩, k4⟩ := hk
  have hq : quietAt pairX.procs.length (nextP pairX.procs) (sentP pairX.procs) fates (beginS pairX.state pairX.waiting pairX.procs.length) 20 = some T := quietAt_some hT k2 k1
  refine (wrun_any pairX op 2 os 2 ow 2 fates oF cF 20 F All w hp hs ht pairX_right hF hf (by decide) (by decide) (by omega) (fun t ht => wireAt_never hr fates pairX_few (by omega))).mono ?_
  rintro e w' ⟨v, c, rfl, hv, hb⟩
  rw [hq] at hv
  obtain ⟨rfl, hv⟩ := hv
  have hl := seen_len hr fates (t := T) (by omega)
  refine ⟨v, _, rfl, ⟨hv, ?_, ?_, ?_, ?_⟩, ?_, k4, hb⟩
  · show ((wireAt pairX fates T).tk : Int) = T
    rw [wireAt_tk]
  · show ((wireAt pairX fates T).se : Int) = S
    rw [k3]
  · rw [hl.1]; decide
  · rw [hl.2.1]; decide
  · rw [quietS_seen, k2]; rfl
theorem pair_run_n (op os ow oF : Option Addr) (fates : List Int) (cF n : Nat) (T S : Nat) (w : World) (hn : n = fates.length) (hk : pairOkX fates T S = true) (hT : T ≤ 20) (hf : fateErr fates = 0) (hF : SliceR intR 1 All w oF fates) {F : Foot}
    (hp : SliceR prcR 3 F w op pairPs) (hs : SliceR intR 1 F w os [0, 0]) (ht : SliceR (slcR intR 1) 1 F w ow [[1], [0]]) :
    Calls Try.prog 23 #[.agg #[.slice op 2 2, .slice os 2 2, .slice ow 2 2], .slice oF n cF, .int .i64 20] w fun e w' => ∃ v s, e = .returned (.tuple #[v, .int .i64 0]) ∧ SnapIs (fun k => F k ∨ w.heap.size ≤ k) w' T S v s ∧ quietS s = true ∧ s.counts = [[1], [1]] ∧ Below w.heap.size w w' := by
  subst hn
  exact pair_run op os ow oF fates cF T S w hk hT hf hF hp hs ht
theorem pair_after (op os ow : Option Addr) (w : World) {F : Foot} (hp : SliceR prcR 3 F w op pairPs) (hs : SliceR intR 1 F w os [0, 0]) (ht : SliceR (slcR intR 1) 1 F w ow [[1], [0]]) :
    Calls Try.prog 24 #[.agg #[.slice op 2 2, .slice os 2 2, .slice ow 2 2], .slice none 0 0, .int .i64 1] w fun e w' => ∃ v s, e = .returned (.tuple #[v, .int .i64 0]) ∧ SnapF (fun k => F k ∨ w.heap.size ≤ k) w' v s ∧ s.flying = 1 ∧ s.queued = 1 ∧ s.net.waiting.length ≤ 9223372036854775807 ∧ quietS s = false ∧ Below w.heap.size w w' := by
  have hr := netErr_zero pairX_right
  refine (after_any pairX op 2 os 2 ow 2 [] none 0 1 F All w hp hs ht pairX_right (SliceR.nil _ _ _ _ _) (by decide) (by decide) (by decide) (by omega) (fun t ht => wireAt_never hr [] pairX_few (by omega))).mono ?_
  rintro e w' ⟨v, rfl, hv, hb⟩
  obtain ⟨f1, f2, f3⟩ := pairX_one
  refine ⟨v, _, rfl, hv, ?_, ?_, ?_, ?_, hb⟩
  · show (((wireAt pairX [] 1).fl.length : Nat) : Int) = 1
    rw [f1]; rfl
  · show ((queuedS (wireAt pairX [] 1).ls : Nat) : Int) = 1
    rw [f2]; rfl
  · rw [(seen_len hr [] (t := 1) (by omega)).1]; decide
  · rw [quietS_seen, f3]; rfl

end Go.Proofs.Ytmjcjmljnliaoaa

set_option linter.unusedVariables false
set_option linter.unusedSimpArgs false
namespace Go.Proofs.Ytmjcjmljnliaoaa
open Go.RowKit

/-- A snapshot in a block of its own. -/
def SnapBox (w : World) (b : Nat) (s : Snp) : Prop := ∃ oq nq cq os ns cs ow nw cw oc nc cc,
  Box w b [.slice oq nq cq, .slice os ns cs, .slice ow nw cw, .slice oc nc cc, .int .i64 s.ticks, .int .i64 s.sent, .int .i64 s.flying, .int .i64 s.queued] 28 ∧
  SnapAt w (.agg #[.slice oq nq cq, .slice os ns cs, .slice ow nw cw, .slice oc nc cc, .int .i64 s.ticks, .int .i64 s.sent, .int .i64 s.flying, .int .i64 s.queued]) s
theorem alloc_size (w : World) (o : Obj) : (w.alloc o).heap.size = w.heap.size + 1 := by simp
theorem SnapF.keep {F : Foot} {w w' : World} {v : Value} {s : Snp} (h : SnapF F w v s) (hb : SameOn F w w') : SnapF F w' v s := by
  obtain ⟨oq, cq, os, cs, ow, cw, oc, cc, rfl, h1, h2, h3, h4, h5, h6, h7, h8⟩ := h
  exact ⟨oq, cq, os, cs, ow, cw, oc, cc, rfl, h1, h2, h3, h4, h5.keep prcR_ok hb, h6.keep intR_ok hb, h7.keep tabR_ok hb, h8.keep tabR_ok hb⟩
theorem SnapF.below {F : Foot} {w w' : World} {v : Value} {s : Snp} (h : SnapF F w v s) (hb : Below w.heap.size w w') : SnapF F w' v s := h.keep (SameOn.of_below hb)
theorem SnapF.all {F : Foot} {w : World} {v : Value} {s : Snp} (h : SnapF F w v s) : SnapAt w v s := by
  obtain ⟨oq, cq, os, cs, ow, cw, oc, cc, rfl, h1, h2, h3, h4, h5, h6, h7, h8⟩ := h
  exact ⟨oq, cq, os, cs, ow, cw, oc, cc, rfl, h1, h2, h3, h4, h5.all prcR_ok (by omega), h6.all intR_ok (by omega), h7.all tabR_ok (by omega), h8.all tabR_ok (by omega)⟩
theorem SnapBox.below {w w' : World} {b : Nat} {s : Snp} (h : SnapBox w b s) (hb : Below w.heap.size w w') : SnapBox w' b s := by
  obtain ⟨oq, nq, cq, os, ns, cs, ow, nw, cw, oc, nc, cc, h1, h2⟩ := h
  exact ⟨oq, nq, cq, os, ns, cs, ow, nw, cw, oc, nc, cc, h1.below hb, h2.below hb⟩
theorem SnapF.form {F : Foot} {w : World} {v : Value} {s : Snp} (h : SnapF F w v s) : ∃ oq nq cq os ns cs ow nw cw oc nc cc, v = .agg #[.slice oq nq cq, .slice os ns cs, .slice ow nw cw, .slice oc nc cc, .int .i64 s.ticks, .int .i64 s.sent, .int .i64 s.flying, .int .i64 s.queued] := by
  obtain ⟨oq, cq, os, cs, ow, cw, oc, cc, rfl, _⟩ := h
  exact ⟨_, _, _, _, _, _, _, _, _, _, _, _, rfl⟩
theorem SnapF.boxed {F : Foot} {w : World} {s : Snp} {oq os ow oc : Option Addr} {nq cq ns cs nw cw nc cc : Nat} (h : SnapF F w (.agg #[.slice oq nq cq, .slice os ns cs, .slice ow nw cw, .slice oc nc cc, .int .i64 s.ticks, .int .i64 s.sent, .int .i64 s.flying, .int .i64 s.queued]) s) :
    SnapBox (w.alloc (.cells #[.slice oq nq cq, .slice os ns cs, .slice ow nw cw, .slice oc nc cc, .int .i64 s.ticks, .int .i64 s.sent, .int .i64 s.flying, .int .i64 s.queued] 28)) w.heap.size s :=
  ⟨oq, nq, cq, os, ns, cs, ow, nw, cw, oc, nc, cc, Box.new w [.slice oq nq cq, .slice os ns cs, .slice ow nw cw, .slice oc nc cc, .int .i64 s.ticks, .int .i64 s.sent, .int .i64 s.flying, .int .i64 s.queued] _, h.all.below (bnew (Below.refl _ _) _)⟩
def snapZ : List Value := [.slice none 0 0, .slice none 0 0, .slice none 0 0, .slice none 0 0, .int .i64 0, .int .i64 0, .int .i64 0, .int .i64 0]
theorem SnapF.put8 {F : Foot} {w : World} {b : Nat} {s : Snp} {oq os ow oc : Option Addr} {nq cq ns cs nw cw nc cc : Nat} (hz : Box w b snapZ 28)
    (h : SnapF F w (.agg #[.slice oq nq cq, .slice os ns cs, .slice ow nw cw, .slice oc nc cc, .int .i64 s.ticks, .int .i64 s.sent, .int .i64 s.flying, .int .i64 s.queued]) s) (hF : ¬ F b) :
    SnapBox ((((((((w.setCell ⟨b, 0, none⟩ (.slice oq nq cq)).setCell ⟨b, 1, none⟩ (.slice os ns cs)).setCell ⟨b, 2, none⟩ (.slice ow nw cw)).setCell ⟨b, 3, none⟩ (.slice oc nc cc)).setCell ⟨b, 4, none⟩ (.int .i64 s.ticks)).setCell ⟨b, 5, none⟩ (.int .i64 s.sent)).setCell ⟨b, 6, none⟩ (.int .i64 s.flying)).setCell ⟨b, 7, none⟩ (.int .i64 s.queued)) b s := by
  have hfin := (((((((hz.put 0 (.slice oq nq cq)).put 1 (.slice os ns cs)).put 2 (.slice ow nw cw)).put 3 (.slice oc nc cc)).put 4 (.int .i64 s.ticks)).put 5 (.int .i64 s.sent)).put 6 (.int .i64 s.flying)).put 7 (.int .i64 s.queued)
  simp only [snapZ, List.set_cons_zero, List.set_cons_succ] at hfin
  refine ⟨oq, nq, cq, os, ns, cs, ow, nw, cw, oc, nc, cc, hfin, (h.keep fun k hk _ => ?_).all⟩
  have hne : k ≠ b := fun e => hF (e ▸ hk)
  rw [Below.heap_setCell _ _ _ k hne, Below.heap_setCell _ _ _ k hne, Below.heap_setCell _ _ _ k hne, Below.heap_setCell _ _ _ k hne, Below.heap_setCell _ _ _ k hne, Below.heap_setCell _ _ _ k hne, Below.heap_setCell _ _ _ k hne, Below.heap_setCell _ _ _ k hne]
theorem below_put8 {B : Nat} {w0 w : World} {b : Nat} {v0 v1 v2 v3 v4 v5 v6 v7 : Value} (h : Below B w0 w) (hb : B ≤ b) :
    Below B w0 ((((((((w.setCell ⟨b, 0, none⟩ v0).setCell ⟨b, 1, none⟩ v1).setCell ⟨b, 2, none⟩ v2).setCell ⟨b, 3, none⟩ v3).setCell ⟨b, 4, none⟩ v4).setCell ⟨b, 5, none⟩ v5).setCell ⟨b, 6, none⟩ v6).setCell ⟨b, 7, none⟩ v7) :=
  (((((((h.setCell hb _).setCell hb _).setCell hb _).setCell hb _).setCell hb _).setCell hb _).setCell hb _).setCell hb _
theorem SnapF.counts {F : Foot} {w : World} {s : Snp} {oq os ow oc : Option Addr} {nq cq ns cs nw cw nc cc : Nat} {a b c d : Value} (h : SnapF F w (.agg #[.slice oq nq cq, .slice os ns cs, .slice ow nw cw, .slice oc nc cc, a, b, c, d]) s) :
    nc = s.counts.length ∧ SliceR (slcR intR 1) 1 F w oc s.counts := by
  obtain ⟨oq', cq', os', cs', ow', cw', oc', cc', e, h1, h2, h3, h4, h5, h6, h7, h8⟩ := h
  injection e with e
  simp at e
  obtain ⟨_, _, _, ⟨rfl, rfl, rfl⟩, _⟩ := e
  exact ⟨rfl, h8⟩
theorem ones_tab (w : World) : SliceR (slcR intR 1) 1 All (((w.alloc (.cells #[.int .i64 1] 3)).alloc (.cells #[.int .i64 1] 3)).alloc (.cells #[.slice (some ⟨w.heap.size, 0, none⟩) 1 1, .slice (some ⟨w.heap.size + 1, 0, none⟩) 1 1] 22)) (some ⟨w.heap.size + 1 + 1, 0, none⟩) [[1], [1]] := by
  have s10 : SliceR intR 1 All ((w.alloc (.cells #[.int .i64 1] 3)).alloc (.cells #[.int .i64 1] 3)) (some ⟨w.heap.size, 0, none⟩) [1] := by simpa using up intR_ok (.cells #[.int .i64 1] 3) (ints_lit (F := All) (G := All) w 3 [1] (by intro x hx; simp at hx; subst hx; exact i64_1) trivial)
  have s11 : SliceR intR 1 All ((w.alloc (.cells #[.int .i64 1] 3)).alloc (.cells #[.int .i64 1] 3)) (some ⟨w.heap.size + 1, 0, none⟩) [1] := by simpa using ints_lit (F := All) (G := All) (w.alloc (.cells #[.int .i64 1] 3)) 3 [1] (by intro x hx; simp at hx; subst hx; exact i64_1) trivial
  simpa using lit2 (F := All) (G := All) tabR_ok ((w.alloc (.cells #[.int .i64 1] 3)).alloc (.cells #[.int .i64 1] 3)) 22 _ _ [1] [1] (ints_row (c := 1) (by decide) (by decide) s10) (ints_row (c := 1) (by decide) (by decide) s11) (fun _ h => h) trivial
theorem below_then' {B : Nat} {a w w1 : World} {o1 o2 o3 : Obj} (h : Below B a w) (hB : B ≤ w.heap.size) (h2 : Below (((w.alloc o1).alloc o2).alloc o3).heap.size (((w.alloc o1).alloc o2).alloc o3) w1) : Below B a w1 :=
  (((h.alloc hB o1).alloc (Nat.le_trans hB (by simp)) o2).alloc (Nat.le_trans hB (by simp; omega)) o3).trans (h2.mono (Nat.le_trans hB (by simp; omega)))
/-- The examples. -/
theorem ex_row (w : World) (b : Nat) (o1 o2 : Option Addr) (hB : Box w b [.slice none 0 0, .int .i64 3, .int .i64 2, .slice o1 1 1, .int .i64 7, .int .i64 3, .slice o2 1 1, .int .i64 4, .int .i64 3] 97)
    (h1 : SliceR intR 1 All w o1 [1]) (h2 : SliceR intR 1 All w o2 [2]) {k : Nat} (hk : k < 3) :
    ∃ (oF : Option Addr) (F : List Int) (n cF T S : Nat), n = F.length ∧ w.cell? ⟨b, k * 3, none⟩ = some (.slice oF n cF) ∧ w.cell? ⟨b, k * 3 + 1, none⟩ = some (.int .i64 T) ∧ w.cell? ⟨b, k * 3 + 2, none⟩ = some (.int .i64 S) ∧
      SliceR intR 1 All w oF F ∧ pairOkX F T S = true ∧ T ≤ 20 ∧ fateErr F = 0 := by
  match k, hk with
  | 0, _ => exact ⟨none, [], 0, 0, 3, 2, rfl, hB.cell 0, hB.cell 1, hB.cell 2, SliceR.nil _ _ _ _ _, pairX_none, by omega, by decide⟩
  | 1, _ => exact ⟨o1, [1], 1, 1, 7, 3, rfl, hB.cell 3, hB.cell 4, hB.cell 5, h1, pairX_lost, by omega, by decide⟩
  | 2, _ => exact ⟨o2, [2], 1, 1, 4, 3, rfl, hB.cell 6, hB.cell 7, hB.cell 8, h2, pairX_twice, by omega, by decide⟩

set_option maxRecDepth 100000 in
set_option maxHeartbeats 2000000 in
theorem awake56_any (w : World) : Calls Try.prog 17 #[] w fun e w' => e = .returned (.bool true) ∧ Below w.heap.size w w' := by
  go_enter Try.func17, Try.ntmps17
  go_wp2_with fail
  have hB := Box.new ((w.alloc (.cells #[.int .i64 1] 3)).alloc (.cells #[.int .i64 2] 3)) [.slice none 0 0, .int .i64 3, .int .i64 2, .slice (some ⟨w.heap.size, 0, none⟩) 1 1, .int .i64 7, .int .i64 3, .slice (some ⟨w.heap.size + 1, 0, none⟩) 1 1, .int .i64 4, .int .i64 3] 97
  have hB0 : Below w.heap.size w (((w.alloc (.cells #[.int .i64 1] 3)).alloc (.cells #[.int .i64 2] 3)).alloc (.cells #[.slice none 0 0, .int .i64 3, .int .i64 2, .slice (some ⟨w.heap.size, 0, none⟩) 1 1, .int .i64 7, .int .i64 3, .slice (some ⟨w.heap.size + 1, 0, none⟩) 1 1, .int .i64 4, .int .i64 3] 97)) := bnew (bnew (bnew (Below.refl _ _) _) _) _
  have hi1 := up intR_ok (.cells #[.slice none 0 0, .int .i64 3, .int .i64 2, .slice (some ⟨w.heap.size, 0, none⟩) 1 1, .int .i64 7, .int .i64 3, .slice (some ⟨w.heap.size + 1, 0, none⟩) 1 1, .int .i64 4, .int .i64 3] 97) (up intR_ok (.cells #[.int .i64 2] 3) (ints_lit (F := All) (G := All) w 3 [1] (by intro x hx; simp at hx; subst hx; exact i64_1) trivial))
  have hi2 := up intR_ok (.cells #[.slice none 0 0, .int .i64 3, .int .i64 2, .slice (some ⟨w.heap.size, 0, none⟩) 1 1, .int .i64 7, .int .i64 3, .slice (some ⟨w.heap.size + 1, 0, none⟩) 1 1, .int .i64 4, .int .i64 3] 97) (ints_lit (F := All) (G := All) (w.alloc (.cells #[.int .i64 1] 3)) 3 [2] (by intro x hx; simp at hx; subst hx; exact i64_2) trivial)
  simp only [List.map_cons, List.map_nil] at hi1 hi2
  have hszA : ∀ (W : World) (o : Obj), (W.alloc o).heap.size = W.heap.size + 1 := fun W o => by simp
  simp only [hszA] at hB hi2
  generalize e3 : ((w.alloc (.cells #[.int .i64 1] 3)).alloc (.cells #[.int .i64 2] 3)).alloc (.cells #[.slice none 0 0, .int .i64 3, .int .i64 2, .slice (some ⟨w.heap.size, 0, none⟩) 1 1, .int .i64 7, .int .i64 3, .slice (some ⟨w.heap.size + 1, 0, none⟩) 1 1, .int .i64 4, .int .i64 3] 97) = W3 at *
  have HB0 := hide hB0
  have HBX : Hid (Box W3 (w.heap.size + 1 + 1) [.slice none 0 0, .int .i64 3, .int .i64 2, .slice (some ⟨w.heap.size, 0, none⟩) 1 1, .int .i64 7, .int .i64 3, .slice (some ⟨w.heap.size + 1, 0, none⟩) 1 1, .int .i64 4, .int .i64 3] 97) := by
    exact hB
  have HI1 := hide hi1
  have HI2 := hide hi2
  clear e3 hB0 hB hi1 hi2 hszA
  go_loopg [14] 3 (fun g i wr => ∃ k : Nat, k ≤ 3 ∧ g = 3 - k ∧ i = .int .i64 k ∧ Hid (Below W3.heap.size W3 wr))
  case atStart => exact ⟨0, by omega, by omega, rfl, Below.refl _ _⟩
  case round =>
    obtain ⟨k, hk, hg, rfl, HB⟩ := hrel
    have HG := hide hg
    clear hg
    by_cases hlt : k < 3
    · obtain ⟨oF, F, nF, cF, T, S, hnF, x0, x1, x2, hF, hok, hT, hfe⟩ := ex_row wr _ _ _ (HBX.out.below HB.out) (HI1.out.below intR_ok HB.out) (HI2.out.below intR_ok HB.out) hlt
      have HNF := hide hnF
      have HOK := hide hok
      have HFE := hide hfe
      obtain ⟨wy, ey⟩ : ∃ wy, wr.alloc (.cells #[.slice oF nF cF, .int .i64 T, .int .i64 S] 97) = wy := ⟨_, rfl⟩
      have bxy : Box wy wr.heap.size [.slice oF nF cF, .int .i64 T, .int .i64 S] 97 := by rw [← ey]; exact Box.new wr [.slice oF nF cF, .int .i64 T, .int .i64 S] 97
      have bby := bnew (Below.refl wr.heap.size wr) (.cells #[.slice oF nF cF, .int .i64 T, .int .i64 S] 97)
      rw [ey] at bby
      have HF := hide (hF.below intR_ok bby)
      have HBY : Hid (Below W3.heap.size W3 wy) := HB.out.trans (bby.mono HB.out.size)
      clear hnF hok hfe hF bby
      go_upto_region 4 with fail
      clear ey x0 x1 x2
      have d0 := bxy.cell 0
      simp only [List.getElem?_cons_zero] at d0
      have lx := bxy.lt
      have HXY := hide bxy
      clear bxy
      go_cut [2, 3, 4, 14] (fun s2 s3 s4 s14 wx => s2 = .pointer (some ⟨wr.heap.size, 0, none⟩) ∧ s14 = .int .i64 (k : Nat) ∧ s4 = .int .i64 0 ∧ ∃ b s, s3 = .pointer (some ⟨b, 0, none⟩) ∧ Hid (SnapBox wx b s) ∧ Hid (s.ticks = T ∧ s.sent = S ∧ s.net.waiting.length ≤ 9223372036854775807 ∧ s.counts.length ≤ 9223372036854775807 ∧ quietS s = true ∧ s.counts = [[1], [1]]) ∧ Hid (Below wy.heap.size wy wx))
      case first =>
        go_wp2_with fail
        go_region_with (first
          | (go_at_call 61; refine (pair_any _).mono ?_; rintro e w4 ⟨op, os, ow, rfl, hp, hs, ht, hb4⟩
             have hv4 : Below wy.heap.size wy w4 := (by first | exact (Below.refl _ _).drew.trans hb4 | exact (bnew (Below.refl _ _) _).drew.trans (hb4.mono (by simp [World.drew])))
             have d0 := (HXY.out.below hv4).cell 0
             simp only [List.getElem?_cons_zero] at d0
             have lx4 := (HXY.out.below hv4).lt
             have HF4 := hide (HF.out.below intR_ok hv4)
             first
               | (have hz : Box w4 wy.heap.size snapZ 28 := (Box.new wy snapZ 28).keep (hb4.block wy.heap.size (by simp [World.drew])); have lz := hz.lt; have r0 := hz.cell 0; have r1 := hz.cell 1; have r2 := hz.cell 2; have r3 := hz.cell 3; have r4 := hz.cell 4; have r5 := hz.cell 5; have r6 := hz.cell 6; have r7 := hz.cell 7; have rf := hz.free; simp only [snapZ, List.getElem?_cons_zero, List.getElem?_cons_succ] at r0 r1 r2 r3 r4 r5 r6 r7; have hp4 := hide (hp.wide prcR_ok (by decide) (F' := fun k => k < w4.heap.size ∧ k ≠ wy.heap.size) (fun k h hl => ⟨hl, by have h' : (wy.alloc _).heap.size ≤ k := h; rw [alloc_size] at h'; omega⟩)); have hs4 := hide (hs.wide intR_ok (by decide) (F' := fun k => k < w4.heap.size ∧ k ≠ wy.heap.size) (fun k h hl => ⟨hl, by have h' : (wy.alloc _).heap.size ≤ k := h; rw [alloc_size] at h'; omega⟩)); have ht4 := hide (ht.wide tabR_ok (by decide) (F' := fun k => k < w4.heap.size ∧ k ≠ wy.heap.size) (fun k h hl => ⟨hl, by have h' : (wy.alloc _).heap.size ≤ k := h; rw [alloc_size] at h'; omega⟩)))
               | (have hp4 := hide (hp.wide prcR_ok (by decide) (F' := fun k => k < w4.heap.size ∧ True) (fun k h hl => ⟨hl, trivial⟩)); have hs4 := hide (hs.wide intR_ok (by decide) (F' := fun k => k < w4.heap.size ∧ True) (fun k h hl => ⟨hl, trivial⟩)); have ht4 := hide (ht.wide tabR_ok (by decide) (F' := fun k => k < w4.heap.size ∧ True) (fun k h hl => ⟨hl, trivial⟩)))
             have HV4 := hide hv4
             clear hv4 hp hs ht hb4)
          | (go_at_call 23; refine (pair_run_n op os ow oF F cF nF T S _ HNF.out HOK.out hT HFE.out (by first | exact HF4.out | exact up intR_ok _ HF4.out) (by first | exact hp4.out | exact up prcR_ok _ hp4.out) (by first | exact hs4.out | exact up intR_ok _ hs4.out) (by first | exact ht4.out | exact up tabR_ok _ ht4.out)).mono ?_
             rintro e w5 ⟨v, s, rfl, ⟨hs5, t5, u5, l5, m5⟩, hq5, hc5, hb5⟩
             obtain ⟨oq, nq, cq, os5, ns, cs, ow5, nw, cw, oc, nc, cc, rfl⟩ := hs5.form
             have hv5 : Below w4.heap.size w4 w5 := (by first | exact hb5 | exact (bnew (Below.refl _ _) _).trans (hb5.mono (by simp)))
             first | (have hz := hz.below hb5; have r0 := hz.cell 0; have r1 := hz.cell 1; have r2 := hz.cell 2; have r3 := hz.cell 3; have r4 := hz.cell 4; have r5 := hz.cell 5; have r6 := hz.cell 6; have r7 := hz.cell 7; have rf := hz.free; simp only [snapZ, List.getElem?_cons_zero, List.getElem?_cons_succ] at r0 r1 r2 r3 r4 r5 r6 r7) | (have hz : Box w5 w4.heap.size snapZ 28 := (Box.new w4 snapZ 28).keep (hb5.block w4.heap.size (by simp)); have r0 := hz.cell 0; have r1 := hz.cell 1; have r2 := hz.cell 2; have r3 := hz.cell 3; have r4 := hz.cell 4; have r5 := hz.cell 5; have r6 := hz.cell 6; have r7 := hz.cell 7; have rf := hz.free; simp only [snapZ, List.getElem?_cons_zero, List.getElem?_cons_succ] at r0 r1 r2 r3 r4 r5 r6 r7) | skip
             have H5 := hide (And.intro t5 (And.intro u5 (And.intro l5 (And.intro m5 (And.intro hq5 hc5)))))
             have HS5 := hide hs5
             have HV5 := hide hv5
             clear hs5 t5 u5 l5 m5 hq5 hc5 hv5 hb5))
        all_goals
          go_wp2_with fail
          go_meet
          have hwz := HV4.out.size
          have hwz5 := HV5.out.size
          refine ⟨rfl, rfl, rfl, _, s, rfl, ?_, H5.out, ?_⟩
          · first
              | (have hzl := hz.lt; exact SnapF.put8 hz HS5.out (fun h => by rcases h with ⟨h1, h2⟩ | h2 <;> first | omega | exact h2 rfl | (rw [alloc_size] at h2; omega)))
              | exact HS5.out.boxed
          · first
              | (have hzl := hz.lt; exact below_put8 (HV4.out.trans (HV5.out.mono hwz)) (by omega))
              | exact (HV4.out.trans (HV5.out.mono hwz)).alloc (by omega) _
      case rest =>
        obtain ⟨rfl, rfl, rfl, b, s, rfl, HSB, HSF, HBC⟩ := hcut
        obtain ⟨oq, nq, cq, os, ns, cs, ow, nw, cw, oc, nc, cc, bxs, hsa⟩ := HSB.out
        obtain ⟨f1, f2, f3, f4, f5, f6⟩ := HSF.out
        have HQ := hide (quiet_any _ s wc hsa f3)
        rw [f5] at HQ
        obtain ⟨hnc, hsc⟩ := hsa.counts
        rw [f6] at hsc hnc
        have hnc2 : nc = 2 := hnc
        subst hnc2
        rw [f1, f2] at HQ bxs
        have r0 := bxs.cell 0
        have r1 := bxs.cell 1
        have r2 := bxs.cell 2
        have r3 := bxs.cell 3
        have r4 := bxs.cell 4
        have r5 := bxs.cell 5
        have r6 := bxs.cell 6
        have r7 := bxs.cell 7
        simp only [List.getElem?_cons_zero, List.getElem?_cons_succ] at r0 r1 r2 r3 r4 r5 r6 r7
        have bxy := HXY.out.below (w' := wc) HBC.out
        have x1 := bxy.cell 1
        have x2 := bxy.cell 2
        simp only [List.getElem?_cons_zero, List.getElem?_cons_succ] at x1 x2
        have HXS := hide bxs
        have HSC := hide hsc
        have q1 : ((T : Int) != T) = false := by simp
        have q2 : ((S : Int) != S) = false := by simp
        have hsz := HBC.out.size
        have HBW : Hid (Below W3.heap.size W3 wc) := HBY.out.trans (HBC.out.mono HBY.out.size)
        clear bxs hsa f1 f2 f3 f4 f5 f6 hnc hsc bxy lx
        go_wp2_with (first
          | (go_at_call 20; refine HQ.out.mono ?_; rintro e w6 ⟨rfl, h6⟩; have r3 := (HXS.out.below h6).cell 3; simp only [List.getElem?_cons_zero, List.getElem?_cons_succ] at r3; have l6 := (HXS.out.below h6).lt; have HSC6 := hide (HSC.out.below tabR_ok h6); have H6 := hide h6; clear h6)
          | (go_at_call 26; refine (sameTables_any [[1], [1]] [[1], [1]] oc _ cc 2 All All _ (up tabR_ok _ (up tabR_ok _ (up tabR_ok _ HSC6.out))) (ones_tab w6) (by decide)).mono ?_; rintro e w7 h7; obtain ⟨rfl, h7b⟩ := h7.below; clear h7))
        go_roundg (3 - (k + 1))
        case measure => have := HG.out; omega
        case rel => exact ⟨k + 1, by omega, rfl, by go_num, below_then' (HBW.out.trans (H6.out.mono HBW.out.size)) (Nat.le_trans HBW.out.size H6.out.size) h7b⟩
    · go_upto_region 8 with fail
      go_cut [5, 6] (fun s5 s6 wx => ∃ b s, s5 = .pointer (some ⟨b, 0, none⟩) ∧ s6 = .int .i64 0 ∧ Hid (SnapBox wx b s) ∧ Hid (s.flying = 1 ∧ s.queued = 1 ∧ s.net.waiting.length ≤ 9223372036854775807 ∧ quietS s = false) ∧ Hid (Below wr.heap.size wr wx))
      case first =>
        go_wp2_with (first
          | (go_at_call 61; refine (pair_any _).mono ?_; rintro e w4 ⟨op, os, ow, rfl, hp, hs, ht, hb4⟩)
          | (go_at_call 24; refine (pair_after op os ow _ hp hs ht).mono ?_; rintro e w5 ⟨v, s, rfl, hs5, t5, u5, l5, q5, hb5⟩; obtain ⟨oq, nq, cq, os5, ns, cs, ow5, nw, cw, oc, nc, cc, rfl⟩ := hs5.form; have H5 := hide (And.intro t5 (And.intro u5 (And.intro l5 q5))); clear t5 u5 l5 q5))
        go_meet
        exact ⟨_, s, rfl, rfl, hs5.boxed, H5.out, bnew (below_then hb4 hb5) _⟩
      case rest =>
        obtain ⟨b, s, rfl, rfl, HSB, HSF, HBC⟩ := hcut
        obtain ⟨oq, nq, cq, os, ns, cs, ow, nw, cw, oc, nc, cc, bxs, hsa⟩ := HSB.out
        obtain ⟨f1, f2, f3, f5⟩ := HSF.out
        have HQ := hide (quiet_any _ s wc hsa f3)
        rw [f5] at HQ
        rw [f1, f2] at HQ bxs
        have r0 := bxs.cell 0
        have r1 := bxs.cell 1
        have r2 := bxs.cell 2
        have r3 := bxs.cell 3
        have r4 := bxs.cell 4
        have r5 := bxs.cell 5
        have r6 := bxs.cell 6
        have r7 := bxs.cell 7
        simp only [List.getElem?_cons_zero, List.getElem?_cons_succ] at r0 r1 r2 r3 r4 r5 r6 r7
        have HBW : Hid (Below w.heap.size w wc) := HB0.out.trans ((HB.out.trans (HBC.out.mono HB.out.size)).mono HB0.out.size)
        clear bxs hsa f1 f2 f3 f5
        go_wp2_with (go_at_call 20; refine HQ.out.mono ?_; rintro e w6 ⟨rfl, h6⟩)
        go_ret
        exact ⟨rfl, HBW.out.trans (h6.mono HBW.out.size)⟩

end Go.Proofs.Ytmjcjmljnliaoaa

set_option linter.unusedVariables false
set_option linter.unusedSimpArgs false
namespace Go.Proofs.Ytmjcjmljnliaoaa
open Go.RowKit

/-- A network of a snapshot that equals another's is the same. -/
theorem snap_same {w : World} {s t : Snp} {oq os ow oc oq' os' ow' oc' : Option Addr} {nq cq ns cs nw cw nc cc nq' cq' ns' cs' nw' cw' nc' cc' : Nat} {a b c d a' b' c' d' : Value}
    (h : SnapAt w (.agg #[.slice oq nq cq, .slice os ns cs, .slice ow nw cw, .slice oc nc cc, a, b, c, d]) s) (h' : SnapAt w (.agg #[.slice oq' nq' cq', .slice os' ns' cs', .slice ow' nw' cw', .slice oc' nc' cc', a', b', c', d']) t)
    (he : s.net = t.net) (hp2 : s.net.procs.length ≤ 9223372036854775807) (hs2 : s.net.state.length ≤ 9223372036854775807) (ht2 : s.net.waiting.length ≤ 9223372036854775807) :
    Calls Try.prog 25 #[.agg #[.slice oq nq cq, .slice os ns cs, .slice ow nw cw], .agg #[.slice oq' nq' cq', .slice os' ns' cs', .slice ow' nw' cw']] w (SameB true w) := by
  obtain ⟨_, _, _, _, _, _, _, _, e, _, _, _, _, h5, h6, h7, h8⟩ := h
  obtain ⟨_, _, _, _, _, _, _, _, e', _, _, _, _, g5, g6, g7, g8⟩ := h'
  injection e with e
  injection e' with e'
  simp at e e'
  obtain ⟨⟨rfl, rfl, rfl⟩, ⟨rfl, rfl, rfl⟩, ⟨rfl, rfl, rfl⟩, ⟨rfl, rfl, rfl⟩, _⟩ := e
  obtain ⟨⟨rfl, rfl, rfl⟩, ⟨rfl, rfl, rfl⟩, ⟨rfl, rfl, rfl⟩, ⟨rfl, rfl, rfl⟩, _⟩ := e'
  have := rsame55_any s.net t.net oq os ow oq' os' ow' cq cs cw cq' cs' cw' All All w h5 h6 h7 g5 g6 g7 hp2 hs2 ht2
  rw [decide_eq_true he] at this
  exact this
theorem snap_counts {w : World} {s t : Snp} {oq os ow oc oq' os' ow' oc' : Option Addr} {nq cq ns cs nw cw nc cc nq' cq' ns' cs' nw' cw' nc' cc' : Nat} {a b c d a' b' c' d' : Value}
    (h : SnapAt w (.agg #[.slice oq nq cq, .slice os ns cs, .slice ow nw cw, .slice oc nc cc, a, b, c, d]) s) (h' : SnapAt w (.agg #[.slice oq' nq' cq', .slice os' ns' cs', .slice ow' nw' cw', .slice oc' nc' cc', a', b', c', d']) t)
    (he : s.counts = t.counts) (hc2 : s.counts.length ≤ 9223372036854775807) :
    Calls Try.prog 26 #[.slice oc nc cc, .slice oc' nc' cc'] w (SameB true w) := by
  obtain ⟨rfl, h8⟩ := h.counts
  obtain ⟨rfl, g8⟩ := h'.counts
  have := sameTables_any s.counts t.counts oc oc' cc cc' All All w h8 g8 hc2
  rw [decide_eq_true he] at this
  exact this.mono fun e w' h => h.below

set_option maxRecDepth 100000 in
set_option maxHeartbeats 8000000 in
theorem wrests_walk (w : World) (ps : List Prc) (st : List Int) (wt : List (List Int)) (oa : Option Addr) (c : Nat) (ob : Option Addr) (e : Nat) (oc : Option Addr) (g : Nat) (hn : NetIn w ps st wt oa c ob e oc g)
    (fs : List Int) (oF : Option Addr) (cF : Nat) (hcF : fs.length ≤ cF) (hF2 : fs.length ≤ 9223372036854775807) (hF : SliceR intR 1 All w oF fs) (mi : Int) (hmi : 0 ≤ mi ∧ mi ≤ 255) :
    Calls Try.prog 4 #[.agg #[.slice oa ps.length c, .slice ob st.length e, .slice oc wt.length g], .slice oF fs.length cF, .int .u8 mi] w fun r w' => r = .returned (.bool true) ∧ Below w.heap.size w w' := by
  obtain ⟨m, rfl⟩ := Int.eq_ofNat_of_zero_le hmi.1
  have hm : m ≤ 255 := by omega
  have HNI := hide hn
  have HF := hide hF
  obtain ⟨np, hnp⟩ : ∃ n, n = ps.length := ⟨_, rfl⟩
  obtain ⟨ns, hns⟩ : ∃ n, n = st.length := ⟨_, rfl⟩
  obtain ⟨nw, hnw⟩ : ∃ n, n = wt.length := ⟨_, rfl⟩
  obtain ⟨nf, hnf⟩ : ∃ n, n = fs.length := ⟨_, rfl⟩
  have HSM : Hid (∀ u, Below w.heap.size w u → Calls Try.prog 22 #[.agg #[.slice oa ps.length c, .slice ob st.length e, .slice oc wt.length g], .slice oF fs.length cF] u fun r w' => ∃ b, r = .returned (.bool b) ∧ (b = true → SmallIn ⟨ps, st, wt⟩ fs) ∧ Below u.heap.size u w') := fun u h =>
    small56_any u ps st wt oa c ob e oc g ⟨HNI.out.pc, HNI.out.sc, HNI.out.wc, HNI.out.pl, HNI.out.sl, HNI.out.wl, HNI.out.p.below prcR_ok h, HNI.out.s.below intR_ok h, HNI.out.t.below tabR_ok h⟩ fs oF cF hF2 (HF.out.below intR_ok h)
  have HRUN : Hid (SmallIn ⟨ps, st, wt⟩ fs → ∀ u, Below w.heap.size w u → Calls Try.prog 23 #[.agg #[.slice oa ps.length c, .slice ob st.length e, .slice oc wt.length g], .slice oF fs.length cF, .int .i64 600] u fun r w' =>
      ∃ v k, r = .returned (.tuple #[v, .int .i64 k]) ∧ RunPost (fun k => All k ∨ u.heap.size ≤ k) ⟨ps, st, wt⟩ fs w' v k (quietAt ps.length (nextP ps) (sentP ps) fs (beginS st wt ps.length) 600) ∧ Below u.heap.size u w') := fun hs u h =>
    wrun_any ⟨ps, st, wt⟩ oa c ob e oc g fs oF cF 600 All All u (HNI.out.p.below prcR_ok h) (HNI.out.s.below intR_ok h) (HNI.out.t.below tabR_ok h) hs.net (HF.out.below intR_ok h) hs.fate HNI.out.pc HNI.out.sc (by omega) (fun t ht => wireAt_never (netErr_zero hs.net) fs hs.few (by omega))
  have HAFT : Hid (SmallIn ⟨ps, st, wt⟩ fs → ∀ (t : Nat), t ≤ 900 → ∀ u, Below w.heap.size w u → Calls Try.prog 24 #[.agg #[.slice oa ps.length c, .slice ob st.length e, .slice oc wt.length g], .slice oF fs.length cF, .int .i64 t] u fun r w' =>
      ∃ v, r = .returned (.tuple #[v, .int .i64 0]) ∧ SnapF (fun k => All k ∨ u.heap.size ≤ k) w' v (seenS ps (wireAt ⟨ps, st, wt⟩ fs t)) ∧ Below u.heap.size u w') := fun hs t ht u h =>
    after_any ⟨ps, st, wt⟩ oa c ob e oc g fs oF cF t All All u (HNI.out.p.below prcR_ok h) (HNI.out.s.below intR_ok h) (HNI.out.t.below tabR_ok h) hs.net (HF.out.below intR_ok h) hs.fate HNI.out.pc HNI.out.sc (by omega) (fun t ht => wireAt_never (netErr_zero hs.net) fs hs.few (by omega))
  have HLEN : Hid (SmallIn ⟨ps, st, wt⟩ fs → ∀ t, t ≤ 900 → (seenS ps (wireAt ⟨ps, st, wt⟩ fs t)).net.procs.length ≤ 9223372036854775807 ∧ (seenS ps (wireAt ⟨ps, st, wt⟩ fs t)).net.state.length ≤ 9223372036854775807 ∧ (seenS ps (wireAt ⟨ps, st, wt⟩ fs t)).net.waiting.length ≤ 9223372036854775807 ∧ (seenS ps (wireAt ⟨ps, st, wt⟩ fs t)).counts.length ≤ 9223372036854775807) := fun hs t ht => by
    have hr := netErr_zero hs.net
    have h12 := hr.n.2
    obtain ⟨a, b, c⟩ := seen_len hr fs (t := t) (by omega)
    simp only at a b c h12
    refine ⟨by show ps.length ≤ _; omega, by rw [c]; omega, by rw [a]; omega, by rw [b]; omega⟩
  rw [← hnp, ← hns, ← hnw, ← hnf] at HSM
  have HRUN2 := HRUN.out
  have HAFT2 := HAFT.out
  rw [← hnp, ← hns, ← hnw, ← hnf] at HRUN2 HAFT2
  rw [← hnp, ← hns, ← hnw, ← hnf]
  have HRUN := hide HRUN2
  have HAFT := hide HAFT2
  clear HRUN2 HAFT2
  have hb := bnew (Below.refl w.heap.size w) (.cells #[.slice oa np c, .slice ob ns e, .slice oc nw g] 26)
  have bxx := Box.new w [.slice oa np c, .slice ob ns e, .slice oc nw g] 26
  have HNP := hide hnp
  clear hn hF hF2 hcF hnp hns hnw hnf hmi
  go_enter Try.func4, Try.ntmps4
  go_wp2_with fail
  refine (HSM.out _ hb).mono ?_
  rintro r w2 ⟨b, rfl, hsm, h2⟩
  have bxx := bxx.below h2
  have hb := below_then hb h2
  clear h2
  have d0 := bxx.cell 0
  have d1 := bxx.cell 1
  have d2 := bxx.cell 2
  simp only [List.getElem?_cons_zero, List.getElem?_cons_succ] at d0 d1 d2
  cases b
  · clear hsm
    go_wp2_with fail
    refine (awake56_any _).mono ?_
    rintro r w9 ⟨rfl, h9⟩
    go_wp2_with fail
    go_ret
    exact ⟨rfl, below_then hb h9⟩
  have HRUN := hide (HRUN.out (hsm rfl))
  have HAFT := hide (HAFT.out (hsm rfl))
  have HLEN := hide (HLEN.out (hsm rfl))
  clear hsm
  go_wp2_with fail
  refine (HRUN.out _ hb).mono ?_
  rintro r w3 ⟨v, k, rfl, hv, h3⟩
  obtain ⟨qa, hqa⟩ : ∃ q, q = quietAt np (nextP ps) (sentP ps) fs (beginS st wt np) 600 := ⟨_, rfl⟩
  rw [← hqa] at hv
  have HQA := hide hqa
  clear hqa d0 d1 d2
  cases qa with
  | none =>
    obtain ⟨rfl, hv⟩ := hv
    obtain ⟨S0, hS0⟩ : ∃ s, s = snp0 := ⟨_, rfl⟩
    rw [← hS0] at hv
    clear hS0
    obtain ⟨oq0, nq0, cq0, os0, ns0, cs0, ow0, nw0, cw0, oc0, nc0, cc0, rfl⟩ := hv.form
    clear hv
    have hb := below_then hb h3
    have hb := bnew hb (.cells #[.slice oq0 nq0 cq0, .slice os0 ns0 cs0, .slice ow0 nw0 cw0, .slice oc0 nc0 cc0, .int .i64 S0.ticks, .int .i64 S0.sent, .int .i64 S0.flying, .int .i64 S0.queued] 28)
    go_wp2_with fail
    refine (awake56_any _).mono ?_
    rintro r w9 ⟨rfl, h9⟩
    go_wp2_with fail
    go_ret
    exact ⟨rfl, below_then hb h9⟩
  | some T =>
    obtain ⟨rfl, hv⟩ := hv
    obtain ⟨hT, hbu, hbe⟩ := quietAt_spec HQA.out.symm
    have HBU : Hid (busyS (wireAt ⟨ps, st, wt⟩ fs T) = false) := by
      show _ = _
      have := HLEN
      unfold wireAt
      simp only
      rw [← HNP.out]
      exact hbu
    have HBE : Hid (∀ t, t < T → busyS (wireAt ⟨ps, st, wt⟩ fs t) = true) := fun t ht => by
      unfold wireAt
      simp only
      rw [← HNP.out]
      exact hbe t ht
    clear hbu hbe
    obtain ⟨S0, hS0⟩ : ∃ s, s = seenS ps (wireAt ⟨ps, st, wt⟩ fs T) := ⟨_, rfl⟩
    rw [← hS0] at hv
    have HS0 := hide hS0
    have t0 : S0.ticks = (T : Int) := by rw [hS0]; show ((wireAt ⟨ps, st, wt⟩ fs T).tk : Int) = T; rw [wireAt_tk]
    have HL0 := hide (HLEN.out T (by omega))
    rw [← hS0] at HL0
    clear hS0
    obtain ⟨oq0, nq0, cq0, os0, ns0, cs0, ow0, nw0, cw0, oc0, nc0, cc0, rfl⟩ := hv.form
    have hv := hv.all
    obtain ⟨W4, eW4⟩ : ∃ W', w3.alloc (.cells #[.slice oq0 nq0 cq0, .slice os0 ns0 cs0, .slice ow0 nw0 cw0, .slice oc0 nc0 cc0, .int .i64 S0.ticks, .int .i64 S0.sent, .int .i64 S0.flying, .int .i64 S0.queued] 28) = W' := ⟨_, rfl⟩
    have bx0 : Box W4 w3.heap.size [.slice oq0 nq0 cq0, .slice os0 ns0 cs0, .slice ow0 nw0 cw0, .slice oc0 nc0 cc0, .int .i64 S0.ticks, .int .i64 S0.sent, .int .i64 S0.flying, .int .i64 S0.queued] 28 := by rw [← eW4]; exact Box.new w3 [.slice oq0 nq0 cq0, .slice os0 ns0 cs0, .slice ow0 nw0 cw0, .slice oc0 nc0 cc0, .int .i64 S0.ticks, .int .i64 S0.sent, .int .i64 S0.flying, .int .i64 S0.queued] 28
    have hnW4 := bnew (Below.refl w3.heap.size w3) (.cells #[.slice oq0 nq0 cq0, .slice os0 ns0 cs0, .slice ow0 nw0 cw0, .slice oc0 nc0 cc0, .int .i64 S0.ticks, .int .i64 S0.sent, .int .i64 S0.flying, .int .i64 S0.queued] 28)
    rw [eW4] at hnW4
    have sn0 := hv.below hnW4
    have bxx := (bxx.below h3).below hnW4
    have hb := below_then (below_then hb h3) hnW4
    have d0 := bxx.cell 0
    have d1 := bxx.cell 1
    have d2 := bxx.cell 2
    simp only [List.getElem?_cons_zero, List.getElem?_cons_succ] at d0 d1 d2
    have s0 := bx0.cell 0
    have s1 := bx0.cell 1
    have s2 := bx0.cell 2
    have s3 := bx0.cell 3
    have s4 := bx0.cell 4
    have s5 := bx0.cell 5
    have s6 := bx0.cell 6
    have s7 := bx0.cell 7
    simp only [List.getElem?_cons_zero, List.getElem?_cons_succ] at s0 s1 s2 s3 s4 s5 s6 s7
    rw [t0] at s4
    have k0 : ¬ (T : Int) < 0 := by omega
    have k1 : ¬ (600 : Int) < T := by omega
    have HAM := HAFT.out (T + m) (by omega)
    rw [Int.natCast_add] at HAM
    have HAM := hide HAM
    have HN0 := hide sn0
    have HX := hide bxx
    have H0 := hide bx0
    have hT0 := hide t0
    clear hv h3 sn0 bxx bx0 hnW4 t0
    go_wp2_with fail
    refine (HAM.out _ hb).mono ?_
    rintro r w5 ⟨v, rfl, hv, h5⟩
    clear d0 d1 d2 s0 s1 s2 s3 s4 s5 s6 s7 eW4
    have hy : seenS ps (wireAt ⟨ps, st, wt⟩ fs (T + m)) = { S0 with ticks := ((T + m : Nat) : Int) } := by rw [HS0.out]; exact seen_more (x := ⟨ps, st, wt⟩) HBU.out m
    obtain ⟨S1, hS1⟩ : ∃ s, s = seenS ps (wireAt ⟨ps, st, wt⟩ fs (T + m)) := ⟨_, rfl⟩
    rw [← hS1] at hv hy
    have HQ1 : Hid (quietS S1 = true) := by show _ = _; rw [hS1]; exact quiet_later (x := ⟨ps, st, wt⟩) HBU.out m
    have t1 : S1.ticks = (T : Int) + m := by rw [hy]; simp
    have u1 : S1.sent = S0.sent := by rw [hy]
    have HE1 : Hid (S1.net = S0.net) := by show _ = _; rw [hy]
    have HC1 : Hid (S1.counts = S0.counts) := by show _ = _; rw [hy]
    have HL1 := hide (HLEN.out (T + m) (by omega))
    rw [← hS1] at HL1
    clear hS1 hy
    have bxx := HX.out
    have bx0 := H0.out
    have sn0 := HN0.out.below h5
    obtain ⟨oq1, nq1, cq1, os1, ns1, cs1, ow1, nw1, cw1, oc1, nc1, cc1, rfl⟩ := hv.form
    have hv := hv.all
    obtain ⟨W6, eW6⟩ : ∃ W', w5.alloc (.cells #[.slice oq1 nq1 cq1, .slice os1 ns1 cs1, .slice ow1 nw1 cw1, .slice oc1 nc1 cc1, .int .i64 S1.ticks, .int .i64 S1.sent, .int .i64 S1.flying, .int .i64 S1.queued] 28) = W' := ⟨_, rfl⟩
    have bx1 : Box W6 w5.heap.size [.slice oq1 nq1 cq1, .slice os1 ns1 cs1, .slice ow1 nw1 cw1, .slice oc1 nc1 cc1, .int .i64 S1.ticks, .int .i64 S1.sent, .int .i64 S1.flying, .int .i64 S1.queued] 28 := by rw [← eW6]; exact Box.new w5 [.slice oq1 nq1 cq1, .slice os1 ns1 cs1, .slice ow1 nw1 cw1, .slice oc1 nc1 cc1, .int .i64 S1.ticks, .int .i64 S1.sent, .int .i64 S1.flying, .int .i64 S1.queued] 28
    have hnW6 := bnew (Below.refl w5.heap.size w5) (.cells #[.slice oq1 nq1 cq1, .slice os1 ns1 cs1, .slice ow1 nw1 cw1, .slice oc1 nc1 cc1, .int .i64 S1.ticks, .int .i64 S1.sent, .int .i64 S1.flying, .int .i64 S1.queued] 28)
    rw [eW6] at hnW6
    have sn1 := hv.below hnW6
    have bxx := (bxx.below h5).below hnW6
    have bx0 := (bx0.below h5).below hnW6
    have hb := below_then (below_then hb h5) hnW6
    have sn0 := sn0.below hnW6
    have d0 := bxx.cell 0
    have d1 := bxx.cell 1
    have d2 := bxx.cell 2
    simp only [List.getElem?_cons_zero, List.getElem?_cons_succ] at d0 d1 d2
    have s0 := bx0.cell 0
    have s1 := bx0.cell 1
    have s2 := bx0.cell 2
    have s3 := bx0.cell 3
    have s4 := bx0.cell 4
    have s5 := bx0.cell 5
    have s6 := bx0.cell 6
    have s7 := bx0.cell 7
    simp only [List.getElem?_cons_zero, List.getElem?_cons_succ] at s0 s1 s2 s3 s4 s5 s6 s7
    have y0 := bx1.cell 0
    have y1 := bx1.cell 1
    have y2 := bx1.cell 2
    have y3 := bx1.cell 3
    have y4 := bx1.cell 4
    have y5 := bx1.cell 5
    have y6 := bx1.cell 6
    have y7 := bx1.cell 7
    simp only [List.getElem?_cons_zero, List.getElem?_cons_succ] at y0 y1 y2 y3 y4 y5 y6 y7
    rw [hT0.out] at s4
    have q5 : (S0.sent != S0.sent) = false := by simp
    have q4 : ((T : Int) + (m : Int) != (T : Int) + (m : Int)) = false := by simp
    have HQC := hide (quiet_any _ S1 W6 sn1 HL1.out.2.2.1)
    rw [HQ1.out, t1, u1] at HQC
    rw [t1] at y4
    rw [u1] at y5
    have HN0 := hide sn0
    have HN1 := hide sn1
    have HX := hide bxx
    have H0 := hide bx0
    have H1 := hide bx1
    have HU1 := hide u1
    have HT1 := hide t1
    clear hv h5 sn0 sn1 bxx bx0 bx1 hnW6 u1 t1
    go_wp2_with fail
    refine HQC.out.mono ?_
    rintro r w7 ⟨rfl, h7⟩
    clear d0 d1 d2 s0 s1 s2 s3 s4 s5 s6 s7 y0 y1 y2 y3 y4 y5 y6 y7 eW6
    have sn0 := HN0.out.below h7
    have sn1 := HN1.out.below h7
    have bxx := HX.out
    have bx0 := H0.out
    have bx1 := H1.out
    have bxx := bxx.below h7
    have bx0 := bx0.below h7
    have bx1 := bx1.below h7
    have hb := below_then hb h7
    have d0 := bxx.cell 0
    have d1 := bxx.cell 1
    have d2 := bxx.cell 2
    simp only [List.getElem?_cons_zero, List.getElem?_cons_succ] at d0 d1 d2
    have s0 := bx0.cell 0
    have s1 := bx0.cell 1
    have s2 := bx0.cell 2
    have s3 := bx0.cell 3
    have s4 := bx0.cell 4
    have s5 := bx0.cell 5
    have s6 := bx0.cell 6
    have s7 := bx0.cell 7
    simp only [List.getElem?_cons_zero, List.getElem?_cons_succ] at s0 s1 s2 s3 s4 s5 s6 s7
    have y0 := bx1.cell 0
    have y1 := bx1.cell 1
    have y2 := bx1.cell 2
    have y3 := bx1.cell 3
    have y4 := bx1.cell 4
    have y5 := bx1.cell 5
    have y6 := bx1.cell 6
    have y7 := bx1.cell 7
    simp only [List.getElem?_cons_zero, List.getElem?_cons_succ] at y0 y1 y2 y3 y4 y5 y6 y7
    rw [hT0.out] at s4
    rw [HT1.out] at y4
    rw [HU1.out] at y5
    have HSC := hide (snap_same sn1 sn0 HE1.out HL1.out.1 HL1.out.2.1 HL1.out.2.2.1)
    have HN0 := hide sn0
    have HN1 := hide sn1
    have HX := hide bxx
    have H0 := hide bx0
    have H1 := hide bx1
    clear h7 sn0 sn1 bxx bx0 bx1
    go_wp2_with fail
    refine HSC.out.mono ?_
    rintro r w8 ⟨rfl, h8⟩
    clear d0 d1 d2 s0 s1 s2 s3 s4 s5 s6 s7 y0 y1 y2 y3 y4 y5 y6 y7
    have sn0 := HN0.out.below h8
    have sn1 := HN1.out.below h8
    have bxx := HX.out
    have bx0 := H0.out
    have bx1 := H1.out
    have bxx := bxx.below h8
    have bx0 := bx0.below h8
    have bx1 := bx1.below h8
    have hb := below_then hb h8
    have d0 := bxx.cell 0
    have d1 := bxx.cell 1
    have d2 := bxx.cell 2
    simp only [List.getElem?_cons_zero, List.getElem?_cons_succ] at d0 d1 d2
    have s0 := bx0.cell 0
    have s1 := bx0.cell 1
    have s2 := bx0.cell 2
    have s3 := bx0.cell 3
    have s4 := bx0.cell 4
    have s5 := bx0.cell 5
    have s6 := bx0.cell 6
    have s7 := bx0.cell 7
    simp only [List.getElem?_cons_zero, List.getElem?_cons_succ] at s0 s1 s2 s3 s4 s5 s6 s7
    have y0 := bx1.cell 0
    have y1 := bx1.cell 1
    have y2 := bx1.cell 2
    have y3 := bx1.cell 3
    have y4 := bx1.cell 4
    have y5 := bx1.cell 5
    have y6 := bx1.cell 6
    have y7 := bx1.cell 7
    simp only [List.getElem?_cons_zero, List.getElem?_cons_succ] at y0 y1 y2 y3 y4 y5 y6 y7
    rw [hT0.out] at s4
    have HTC := hide (snap_counts sn1 sn0 HC1.out HL1.out.2.2.2)
    have HX := hide bxx
    have H0 := hide bx0
    clear h8 sn0 sn1 bxx bx0 bx1
    go_wp2_with fail
    refine HTC.out.mono ?_
    rintro r w10 ⟨rfl, h10⟩
    clear d0 d1 d2 s0 s1 s2 s3 s4 s5 s6 s7 y0 y1 y2 y3 y4 y5 y6 y7
    have bxx := HX.out
    have bx0 := H0.out
    have bxx := bxx.below h10
    have bx0 := bx0.below h10
    have hb := below_then hb h10
    have d0 := bxx.cell 0
    have d1 := bxx.cell 1
    have d2 := bxx.cell 2
    simp only [List.getElem?_cons_zero, List.getElem?_cons_succ] at d0 d1 d2
    have s0 := bx0.cell 0
    have s1 := bx0.cell 1
    have s2 := bx0.cell 2
    have s3 := bx0.cell 3
    have s4 := bx0.cell 4
    have s5 := bx0.cell 5
    have s6 := bx0.cell 6
    have s7 := bx0.cell 7
    simp only [List.getElem?_cons_zero, List.getElem?_cons_succ] at s0 s1 s2 s3 s4 s5 s6 s7
    rw [hT0.out] at s4
    clear h10 bxx bx0
    by_cases hz : T = 0
    · have q6 : ((T : Int) == 0) = true := by simp; omega
      clear hz
      go_wp2_with fail
      refine (awake56_any _).mono ?_
      rintro r w9 ⟨rfl, h9⟩
      go_wp2_with fail
      go_ret
      exact ⟨rfl, below_then hb h9⟩
    · have q6 : ((T : Int) == 0) = false := by simp; omega
      have HZM := HAFT.out (T - 1) (by omega)
      rw [show (((T - 1 : Nat) : Int)) = (T : Int) - 1 by omega] at HZM
      have HZM := hide HZM
      have HQ2 : Hid (quietS (seenS ps (wireAt ⟨ps, st, wt⟩ fs (T - 1))) = false) := by
        show _ = _
        rw [quietS_seen, HBE.out (T - 1) (by omega)]
        rfl
      have HL2 := hide (HLEN.out (T - 1) (by omega))
      clear hz
      go_wp2_with fail
      refine (HZM.out _ hb).mono ?_
      rintro r w11 ⟨v, rfl, hv, h11⟩
      clear d0 d1 d2 s0 s1 s2 s3 s4 s5 s6 s7
      obtain ⟨S2, hS2⟩ : ∃ s, s = seenS ps (wireAt ⟨ps, st, wt⟩ fs (T - 1)) := ⟨_, rfl⟩
      rw [← hS2] at hv HQ2 HL2
      clear hS2
      obtain ⟨oq2, nq2, cq2, os2, ns2, cs2, ow2, nw2, cw2, oc2, nc2, cc2, rfl⟩ := hv.form
      have hv := hv.all
      obtain ⟨W12, eW12⟩ : ∃ W', w11.alloc (.cells #[.slice oq2 nq2 cq2, .slice os2 ns2 cs2, .slice ow2 nw2 cw2, .slice oc2 nc2 cc2, .int .i64 S2.ticks, .int .i64 S2.sent, .int .i64 S2.flying, .int .i64 S2.queued] 28) = W' := ⟨_, rfl⟩
      have bx2 : Box W12 w11.heap.size [.slice oq2 nq2 cq2, .slice os2 ns2 cs2, .slice ow2 nw2 cw2, .slice oc2 nc2 cc2, .int .i64 S2.ticks, .int .i64 S2.sent, .int .i64 S2.flying, .int .i64 S2.queued] 28 := by rw [← eW12]; exact Box.new w11 [.slice oq2 nq2 cq2, .slice os2 ns2 cs2, .slice ow2 nw2 cw2, .slice oc2 nc2 cc2, .int .i64 S2.ticks, .int .i64 S2.sent, .int .i64 S2.flying, .int .i64 S2.queued] 28
      have hnW12 := bnew (Below.refl w11.heap.size w11) (.cells #[.slice oq2 nq2 cq2, .slice os2 ns2 cs2, .slice ow2 nw2 cw2, .slice oc2 nc2 cc2, .int .i64 S2.ticks, .int .i64 S2.sent, .int .i64 S2.flying, .int .i64 S2.queued] 28)
      rw [eW12] at hnW12
      have sn2 := hv.below hnW12
      have hb := below_then (below_then hb h11) hnW12
      have z0 := bx2.cell 0
      have z1 := bx2.cell 1
      have z2 := bx2.cell 2
      have z3 := bx2.cell 3
      have z4 := bx2.cell 4
      have z5 := bx2.cell 5
      have z6 := bx2.cell 6
      have z7 := bx2.cell 7
      simp only [List.getElem?_cons_zero, List.getElem?_cons_succ] at z0 z1 z2 z3 z4 z5 z6 z7
      have HQC2 := hide (quiet_any _ S2 W12 sn2 HL2.out.2.2.1)
      rw [HQ2.out] at HQC2
      clear hv h11 sn2 bx2 hnW12
      go_wp2_with fail
      refine HQC2.out.mono ?_
      rintro r w13 ⟨rfl, h13⟩
      clear z0 z1 z2 z3 z4 z5 z6 z7 eW12
      have hb := below_then hb h13
      clear h13
      go_wp2_with fail
      refine (awake56_any _).mono ?_
      rintro r w9 ⟨rfl, h9⟩
      go_wp2_with fail
      go_ret
      exact ⟨rfl, below_then hb h9⟩

end Go.Proofs.Ytmjcjmljnliaoaa

set_option linter.unusedVariables false
namespace Go.Proofs.Ytmjcjmljnliaoaa
open Go.RowKit Go.ChangeShapes Go.WideShapes Go.ChangeAt Go.Deep

set_option maxRecDepth 100000 in
theorem wireRests_lifted (os : Os) (started : os.Started) (H : Type) (enc : TypeId × Value → H) :
    ReturnsInHanded {} Try.checked os 4 .any (Rows.wireRestsSpec.pre6 enc Try.prog Try.f4 Rows.wireRestsRow.domain false) (Rows.wireRestsSpec.post enc Try.prog Try.f4 false true false false) := by
  refine returnsInHanded_of_change (C := Try.checked) own_knob started (by kernel_rfl) Try.func4
    (ChangeSpec.witness6 (enc := enc) (C := Try.checked) false ⟨#[], #[.agg #[.slice none 0 0, .slice none 0 0, .slice none 0 0], .slice none 0 0, .int .u8 0], []⟩ 8 (by kernel_rfl) (by kernel_rfl) (by kernel_rfl) (by kernel_rfl)) ?_
  intro W base args ds gs before hval0 hW _ _
  have hval : ∀ (j : Nat) t v, Try.f4.params[j]? = some t → args[j]? = some v → Value.okWide Try.prog W .any base t v := hval0
  have hW' := hW
  obtain ⟨p, q, hA0, hV, rfl, _, _⟩ := hW
  have hA : DataW.TrodAll enc Try.prog W 0 (fun _ => true) true Try.f4.params.toList args.toList ds p := hA0
  rw [Try.params4] at hA hval
  obtain ⟨v0, v1, v2, d0, d1, d2, p0, p1, p2, rfl, rfl, rfl, h0, h1, h2⟩ := trodAll_three hA
  obtain ⟨rfl, rfl⟩ := trodVars_none hV
  have h0k := h0
  have h1k := h1
  have h2k := h2
  obtain ⟨ps0, st0, wt0, oa0, c0, ob0, e0, oc0, g0, rfl, hn0⟩ := open_net (hval 0 26 v0 rfl rfl) h0
  obtain ⟨xs1, oa1, c1, rfl, hc1, hd1, hs1⟩ := open_is (hval 1 22 v1 rfl rfl) h1
  obtain ⟨n2, rfl, in2⟩ := open_u8 (hval 2 5 v2 rfl rfl) h2
  clear hA0 hval0
  simp only [List.append_nil] at hW'
  have hlt0 : ∀ y ∈ p0, y.block < W.heap.size := fun y hy => by simpa using hW'.lt y (by simp [hy])
  have hlt1 : ∀ y ∈ p1, y.block < W.heap.size := fun y hy => by simpa using hW'.lt y (by simp [hy])
  have hlt2 : ∀ y ∈ p2, y.block < W.heap.size := fun y hy => by simpa using hW'.lt y (by simp [hy])
  refine (wrests_walk W ps0 st0 wt0 oa0 c0 ob0 e0 oc0 g0 hn0 xs1 oa1 c1 hc1 hd1 hs1 n2 in2).mono fun e W' ⟨he, hn⟩ => ?_
  subst he
  exact ⟨_, rfl, _, _, _, [], _, [], hW', trodAll_mk1 (shut_bool Try.underlying4 true), trodAll_mk3 (Below.trod laid_out (by kernel_rfl) (of_decide_eq_true (by kernel_rfl)) h0k hn hlt0) (Below.trod laid_out (by kernel_rfl) (of_decide_eq_true (by kernel_rfl)) h1k hn hlt1) (Below.trod laid_out (by kernel_rfl) (of_decide_eq_true (by kernel_rfl)) h2k hn hlt2), rfl, hn.frame _, fun h => by cases h⟩

theorem wireRests_holds : Rows.WireRestsSaid :=
  OpenClaim.holds_of_wide 4 Try.f4 rfl rfl rfl rfl rfl rfl rfl ⟨rfl, rfl, rfl, rfl, rfl⟩ rfl rfl rfl rfl rfl (by kernel_rfl) Try.func4 (by kernel_rfl)
    (of_decide_eq_true (by kernel_rfl)) (by unfold Func.isWrapper; first | (rw [if_pos (by decide +kernel)]; kernel_rfl) | (rw [if_neg (by decide +kernel)]; exact ⟨rfl, rfl⟩))
    (fun os started H enc _ => wireRests_lifted os started H enc)

#print axioms wireRests_holds
end Go.Proofs.Ytmjcjmljnliaoaa

/-
  A slice of the call's own of which one element is open: a store into an element of a list of lists. No program is named here.
  The wire machine: processors with lists of their own.
  The wire machine: whether something goes on.
  The wire machine in plain Lean: what is seen of it; quiet and not.
  The wire machine: what is seen of it.
  The wire machine: After and Run.
  From the reading of a network, of a snapshot, of a byte, to what they stand for.
  Two lists of ints, two tables: SameInts of chapter 08, SameTables of chapter 55.
  Snapshots: wire.Quiet and Quiet of the reference.
  The wire machine in plain Lean: what is quiet remains so, and not earlier; the law of WireRests.
  Slices that a literal lays.
  The examples of chapter 54: Vertex, Rotor, Setter.
  The network of the chapter's examples: Pair; awake.
-/
import Derived.Test.YtmjcjmljnliaoaaWc4
import Derived.BigQuiet
import Derived.Deep.RegionHeld3
import Derived.BigRegion
import Derived.Laws.ResultCell
import Derived.Deep.LoopGhost
import Derived.OpenShut
import Derived.Test.YtmjcjmljnliaoaaProg
import Derived.Deep.QuietTactic

set_option linter.unusedVariables false
set_option linter.unusedSimpArgs false
set_option linter.unnecessarySimpa false
namespace Go.Proofs.Ytmjcjmljnliaoaa
open Go.RowKit

theorem chunk_take {sz i n : Nat} {l : List Value} (hi : i < n) : chunk sz i (l.take (n * sz)) = chunk sz i l := by
  have hle : i * sz + sz ≤ n * sz := by
    have := Nat.mul_le_mul_right sz (Nat.succ_le_of_lt hi)
    rw [Nat.succ_mul] at this
    exact this
  unfold chunk
  rw [List.drop_take, List.take_take, Nat.min_eq_left (by omega)]
theorem chunk_cell {sz i j : Nat} {l : List Value} (hj : j < sz) : (chunk sz i l)[j]? = l[i * sz + j]? := by
  unfold chunk
  rw [List.getElem?_take, if_pos hj, List.getElem?_drop]
theorem chunk_set_same {sz i j : Nat} {l : List Value} {u : Value} (hj : j < sz) : chunk sz i (l.set (i * sz + j) u) = (chunk sz i l).set j u := by
  unfold chunk
  rw [List.drop_set, if_neg (by omega), show i * sz + j - i * sz = j from by omega, List.take_set]
theorem chunk_set_other {sz i j k : Nat} {l : List Value} {u : Value} (hj : j < sz) (hk : k ≠ i) : chunk sz k (l.set (i * sz + j) u) = chunk sz k l := by
  unfold chunk
  apply List.ext_getElem?
  intro n
  rw [List.getElem?_take, List.getElem?_take]
  split
  · rename_i hn
    rw [List.getElem?_drop, List.getElem?_drop, List.getElem?_set]
    rw [if_neg]
    intro e
    rcases Nat.lt_or_ge k i with h | h
    · have := Nat.mul_le_mul_right sz (Nat.succ_le_of_lt h)
      rw [Nat.succ_mul] at this
      omega
    · have h2 : i + 1 ≤ k := by omega
      have := Nat.mul_le_mul_right sz h2
      rw [Nat.succ_mul] at this
      omega
  · rfl

/-- The slice v at block g holds xs, but for element i, of which the cells hc are known. -/
def RowH {α : Type} (R : Rep α) (sz base : Nat) (e : TypeId) (F : Foot) (w : World) (v : Value) (g : Nat) (xs : List α) (i : Nat) (hc : List Value) : Prop :=
  ∃ cap cur, v = .slice (some ⟨g, 0, none⟩) xs.length cap ∧ base ≤ g ∧ w.heap[g]? = some (.cells cur e (0, 0)) ∧ xs.length ≤ cap ∧ cap ≤ maxLen ∧ cur.size = cap * sz ∧
    (∀ u ∈ cur.toList.take (xs.length * sz), u.oneCell' = true) ∧ i < xs.length ∧ hc = chunk sz i cur.toList ∧ ∀ k x, k ≠ i → xs[k]? = some x → R F w (chunk sz k cur.toList) x
section
variable {α : Type} {R : Rep α} {sz base : Nat} {e : TypeId} {F F' : Foot} {w w' : World} {v : Value} {xs : List α} {g i : Nat} {hc : List Value}

theorem OwnS.open_ (h : OwnS R sz base e F w v xs) {i : Nat} {x : α} (hx : xs[i]? = some x) : ∃ g hc, RowH R sz base e F w v g xs i hc ∧ R F w hc x := by
  obtain ⟨cells, ho, h1, hcs⟩ := h
  have hi := (List.getElem?_eq_some_iff.1 hx).1
  rcases ho.2 with ⟨_, hn⟩ | ⟨g, cap, cur, rfl, hg, hh, hle, hm, hsz, ht⟩
  · omega
  · refine ⟨g, chunk sz i cur.toList, ⟨cap, cur, rfl, hg, hh, hle, hm, hsz, by rw [ht]; exact h1, hi, rfl, fun k y hk hy => ?_⟩, ?_⟩
    · have hkl := (List.getElem?_eq_some_iff.1 hy).1
      rw [← chunk_take hkl, ht]
      exact hcs k y hy
    · rw [← chunk_take hi, ht]
      exact hcs i x hx
theorem RowH.form (h : RowH R sz base e F w v g xs i hc) : ∃ cap, v = .slice (some ⟨g, 0, none⟩) xs.length cap ∧ base ≤ g ∧ g < w.heap.size ∧ i < xs.length := by
  obtain ⟨cap, cur, rfl, hg, hh, _, _, _, _, hi, _⟩ := h
  exact ⟨cap, rfl, hg, (Array.getElem?_eq_some_iff.1 hh).1, hi⟩
theorem RowH.free (h : RowH R sz base e F w v g xs i hc) (k : Nat) : w.frozen? ⟨g, k, none⟩ = false := by
  obtain ⟨cap, cur, _, _, hh, _⟩ := h
  exact frozen_of_row w g k _ _ hh
theorem RowH.cell (h : RowH R sz base e F w v g xs i hc) {j : Nat} (hj : j < sz) : w.cell? ⟨g, i * sz + j, none⟩ = hc[j]? := by
  obtain ⟨cap, cur, _, _, hh, _, _, _, _, hi, rfl, _⟩ := h
  rw [chunk_cell hj, cell_of_row w g _ cur e (0, 0) hh]
  simp
theorem RowH.keep (ok : RepOk R sz) (h : RowH R sz base e F w v g xs i hc) (hb : w'.heap[g]? = w.heap[g]?) (hs : SameOn F w w') : RowH R sz base e F w' v g xs i hc := by
  obtain ⟨cap, cur, h1, h2, hh, h3, h4, h5, h6, hi, h7, h8⟩ := h
  exact ⟨cap, cur, h1, h2, by rw [hb]; exact hh, h3, h4, h5, h6, hi, h7, fun k x hk hx => ok.keep (h8 k x hk hx) hs⟩
theorem RowH.wide (ok : RepOk R sz) (h : RowH R sz base e F w v g xs i hc) (hs : ∀ k, F k → k < w.heap.size → F' k) : RowH R sz base e F' w v g xs i hc := by
  obtain ⟨cap, cur, h1, h2, hh, h3, h4, h5, h6, hi, h7, h8⟩ := h
  exact ⟨cap, cur, h1, h2, hh, h3, h4, h5, h6, hi, h7, fun k x hk hx => ok.wide (h8 k x hk hx) hs⟩
theorem RowH.put (ok : RepOk R sz) (h : RowH R sz base e F w v g xs i hc) (hF : ¬ F g) {j : Nat} (hj : j < sz) {u : Value} (hu : u.oneCell' = true) : RowH R sz base e F (w.setCell ⟨g, i * sz + j, none⟩ u) v g xs i (hc.set j u) := by
  obtain ⟨cap, cur, h1, h2, hh, h3, h4, h5, h6, hi, h7, h8⟩ := h
  have hle : i * sz + sz ≤ xs.length * sz := by
    have := Nat.mul_le_mul_right sz (Nat.succ_le_of_lt hi)
    rw [Nat.succ_mul] at this
    exact this
  have hle2 := Nat.mul_le_mul_right sz h3
  have hheap := heap_set1 w g (i * sz + j) cur.toList e u (by simpa using hh)
  refine ⟨cap, (cur.toList.set (i * sz + j) u).toArray, h1, h2, hheap, h3, h4, by simp [h5], ?_, hi, ?_, ?_⟩
  · intro x hx
    simp only [List.take_set] at hx
    rcases List.mem_or_eq_of_mem_set hx with hx | rfl
    · exact h6 x hx
    · exact hu
  · rw [h7]
    exact (chunk_set_same hj).symm
  · intro k x hk hx
    have := h8 k x hk hx
    simp only
    rw [chunk_set_other hj hk]
    exact ok.keep this fun m hm hml => Below.heap_setCell w ⟨g, i * sz + j, none⟩ u m fun e => hF (by rw [show g = m from e.symm]; exact hm)
theorem RowH.fill (h : RowH R sz base e F w v g xs i hc) {x : α} (hx : xs[i]? = some x) (hR : R F w hc x) : OwnS R sz base e F w v xs := by
  obtain ⟨cap, cur, h1, h2, hh, h3, h4, h5, h6, hi, h7, h8⟩ := h
  have hle2 := Nat.mul_le_mul_right sz h3
  refine ⟨cur.toList.take (xs.length * sz), ⟨by rw [List.length_take, show cur.toList.length = cap * sz from by rw [Array.length_toList]; exact h5]; omega, .inr ⟨g, cap, cur, h1, h2, hh, h3, h4, h5, rfl⟩⟩, h6, fun k y hy => ?_⟩
  have hk := (List.getElem?_eq_some_iff.1 hy).1
  rw [chunk_take hk]
  by_cases e : k = i
  · subst e
    rw [hx] at hy
    injection hy with hy
    rw [← hy, ← h7]
    exact hR
  · exact h8 k y e hy
theorem OwnS.wide (ok : RepOk R sz) (h : OwnS R sz base e F w v xs) (hs : ∀ k, F k → k < w.heap.size → F' k) : OwnS R sz base e F' w v xs := by
  obtain ⟨cells, ho, h1, hcs⟩ := h
  exact ⟨cells, ho, h1, fun i x hx => ok.wide (hcs i x hx) hs⟩
end

end Go.Proofs.Ytmjcjmljnliaoaa

set_option linter.unusedVariables false
set_option linter.unusedSimpArgs false
set_option linter.unnecessarySimpa false
namespace Go.Proofs.Ytmjcjmljnliaoaa
open Go.RowKit

/-- The block of a slice that starts at its block's first cell. -/
theorem OwnS.hole {α : Type} {R : Rep α} {sz base : Nat} {e : TypeId} {F : Foot} {w : World} {o : Option Addr} {n c : Nat} {xs : List α} (h : OwnS R sz base e F w (.slice o n c) xs) {i : Nat} {x : α} (hx : xs[i]? = some x) :
    ∃ g hc, o = some ⟨g, 0, none⟩ ∧ base ≤ g ∧ g < w.heap.size ∧ RowH R sz base e F w (.slice o n c) g xs i hc ∧ R F w hc x := by
  obtain ⟨g, hc, h1, h2⟩ := h.open_ hx
  obtain ⟨cap, e1, h3, h4, _⟩ := h1.form
  injection e1 with e1 _ _
  exact ⟨g, hc, e1, h3, h4, h1, h2⟩
theorem own_block {o : Option Addr} {n c g : Nat} : (Value.slice o n c).ownBlock = some g ↔ ∃ off fld, o = some ⟨g, off, fld⟩ := by
  cases o with
  | none => simp [Value.ownBlock]
  | some a =>
    obtain ⟨b, off, fld⟩ := a
    simp [Value.ownBlock]

theorem copy_small {p : Prc} {N : Int} (h : checkErr p N = 0) : p.rules.length ≤ 16 ∧ ∀ row ∈ p.rules, row.length ≤ 8 ∧ ∀ r ∈ row, r.sent.length ≤ 16 := by
  have hz := check_zero h
  refine ⟨by omega, fun row hr => ?_⟩
  obtain ⟨i, hi, rfl⟩ := List.mem_iff_getElem.1 hr
  have h1 := valid_row h (List.getElem?_eq_getElem hi)
  refine ⟨by omega, fun r hr => ?_⟩
  obtain ⟨j, hj, rfl⟩ := List.mem_iff_getElem.1 hr
  exact (valid_rule h (List.getElem?_eq_getElem hi) (List.getElem?_eq_getElem hj)).2.1

set_option maxRecDepth 100000 in
set_option maxHeartbeats 4000000 in
theorem copied_any (procs : List Prc) (oa : Option Addr) (c : Nat) (F : Foot) (w : World) (hs : SliceR prcR 3 F w oa procs) (hc : procs.length ≤ c) (hn : procs.length ≤ 12) {N : Int} (hv : ∀ (i : Nat) (p : Prc), procs[i]? = some p → checkErr p N = 0) :
    Calls Try.prog 123 #[.slice oa procs.length c] w fun e w' => ∃ oa' c', e = .returned (.slice oa' procs.length c') ∧ procs.length ≤ c' ∧ SliceR prcR 3 (fun k => F k ∨ w.heap.size ≤ k) w' oa' procs ∧ Below w.heap.size w w' := by
  have HC0 := hide (cloneP_any procs oa c F w hs hc (by omega))
  have HV := hide hv
  obtain ⟨n, hne⟩ : ∃ n, n = procs.length := ⟨_, rfl⟩
  have HN := hide hne
  rw [← hne] at HC0 hn hc ⊢
  clear hs hv hne
  go_enter Try.func123, Try.ntmps123
  go_wp2_with (go_at_call 141; refine HC0.out.mono ?_; rintro e w1 ⟨v3, rfl, h3, hb3⟩; obtain ⟨o3, c3, hv3, hc3, _⟩ := h3.slice prcR_ok; rw [← HN.out] at hv3 hc3; subst hv3; have HO3 := hide (h3.wide (F' := fun k => (F k ∨ w.heap.size ≤ k) ∧ some k ≠ (Value.slice o3 n c3).ownBlock) prcR_ok fun k hk hkl => ⟨.inl hk.1, fun he => by have := (h3.block k he.symm).1; have := hk.2; omega⟩); have HB3 := hide hb3; clear h3 hb3)
  go_loopw [15] (fun iv wr => ∃ (i : Nat), i ≤ n ∧ iv = .int .i64 i ∧ Hid (OwnS prcR 3 w.heap.size 47 (fun k => (F k ∨ w.heap.size ≤ k) ∧ some k ≠ (Value.slice o3 n c3).ownBlock) wr (.slice o3 n c3) procs) ∧ Hid (Below w.heap.size w wr)) (fun iv _ => n - (intOf iv).toNat)
  case atStart => exact ⟨0, by omega, rfl, HO3, HB3⟩
  case round =>
    obtain ⟨i, hi, rfl, HO, HB⟩ := hrel
    by_cases hlt : i < n
    · have hip : i < procs.length := by have := HN.out; omega
      have hpr := List.getElem?_eq_getElem hip
      obtain ⟨⟨S, Le, rs⟩, hpe⟩ : ∃ p, p = procs[i] := ⟨_, rfl⟩
      rw [← hpe] at hpr
      clear hpe
      obtain ⟨g, hcs, rfl, hg1, hg2, hrow, ⟨oR, cR, rfl, iS, iL, hcr, _, hsr⟩⟩ := HO.out.hole hpr
      have c0 := hrow.cell (j := 0) (by omega)
      have c1 := hrow.cell (j := 1) (by omega)
      have c2 := hrow.cell (j := 2) (by omega)
      simp only [List.getElem?_cons_zero, List.getElem?_cons_succ, Nat.add_zero] at c0 c1 c2
      obtain ⟨hsm1, hsm2⟩ := copy_small (HV.out i _ hpr)
      simp only at hcr hsr hsm1 hsm2 iS iL c0 c1 c2
      obtain ⟨W1, e1⟩ : ∃ W1, wr.alloc (.cells #[.int .i64 S, .int .i64 Le, .slice oR rs.length cR] 47) = W1 := ⟨_, rfl⟩
      have bx1 : Box W1 wr.heap.size [.int .i64 S, .int .i64 Le, .slice oR rs.length cR] 47 := by rw [← e1]; exact Box.new wr [.int .i64 S, .int .i64 Le, .slice oR rs.length cR] 47
      have bb1 := bnew (Below.refl wr.heap.size wr) (.cells #[.int .i64 S, .int .i64 Le, .slice oR rs.length cR] 47)
      rw [e1] at bb1
      have x2 := bx1.cell 2
      simp only [List.getElem?_cons_zero, List.getElem?_cons_succ] at x2
      have hs1 := bb1.size
      have HC1 := hide (cloneT_any rs oR cR _ W1 (hsr.below rowR_ok bb1) hcr (by omega))
      have HPR := hide hpr
      have HBB1 := hide bb1
      have HSM := hide hsm2
      have HRW := hide hrow
      obtain ⟨rn, hrn⟩ : ∃ rn, rn = rs.length := ⟨_, rfl⟩
      have HRN := hide hrn
      rw [← hrn] at HC1 x2 c2 e1 hsm1
      clear hrow hsr hpr hsm2 hcr bb1 hrn
      go_wp2_with (go_at_call 142; refine HC1.out.mono ?_; rintro e w2 ⟨v6, rfl, h6, hb6⟩; obtain ⟨o6, c6, hv6, hc6, _⟩ := h6.slice rowR_ok; rw [← HRN.out] at hv6 hc6; subst hv6; have HO6 := hide (h6.wide (F' := fun k => ((F k ∨ w.heap.size ≤ k) ∧ k ≠ g) ∧ some k ≠ (Value.slice o6 rn c6).ownBlock) rowR_ok fun k hk hkl => ⟨⟨hk.1.1, fun e => hk.1.2 (by rw [e]; rfl)⟩, fun he => by have := (h6.block k he.symm).1; have := hk.2; omega⟩); have HB6 := hide hb6; clear h6 hb6)
      go_loopw [25] (fun iv wx => ∃ (s : Nat), s ≤ rn ∧ iv = .int .i64 s ∧ Hid (OwnS (slcR ruleR 2) 1 W1.heap.size 113 (fun k => ((F k ∨ w.heap.size ≤ k) ∧ k ≠ g) ∧ some k ≠ (Value.slice o6 rn c6).ownBlock) wx (.slice o6 rn c6) rs) ∧ Hid (Below W1.heap.size W1 wx)) (fun iv _ => rn - (intOf iv).toNat)
      case atStart => exact ⟨0, by omega, rfl, HO6, HB6⟩
      case round =>
        obtain ⟨s, hs, rfl, HO6, HB6⟩ := hrel
        by_cases hls : s < rn
        · have hsp : s < rs.length := by have := HRN.out; omega
          have hr := List.getElem?_eq_getElem hsp
          obtain ⟨row, hre⟩ : ∃ r, r = rs[s] := ⟨_, rfl⟩
          rw [← hre] at hr
          clear hre
          obtain ⟨g6, hcs6, rfl, hg61, hg62, hrow6, ⟨oW, cW, rfl, hcw, _, hsw⟩⟩ := HO6.out.hole hr
          obtain ⟨hm1, hm2⟩ := HSM.out row (List.mem_of_getElem? hr)
          have y0 := hrow6.cell (j := 0) (by omega)
          simp only [List.getElem?_cons_zero, List.getElem?_cons_succ, Nat.add_zero, Nat.mul_one] at y0
          obtain ⟨Hs, hHs⟩ : ∃ Hs, Hs = wr.heap.size := ⟨_, rfl⟩
          have hrow7 : RowH (slcR ruleR 2) 1 W1.heap.size 113 (fun k => (((F k ∨ w.heap.size ≤ k) ∧ k ≠ g) ∧ k ≠ g6) ∧ k < Hs) wr (.slice (some ⟨g6, 0, none⟩) rn c6) g6 rs s [.slice oW row.length cW] := hrow6.wide rowR_ok fun k hk hkl => ⟨⟨hk.1, fun e => hk.2 (by rw [e]; rfl)⟩, by omega⟩
          have hsw7 : SliceR ruleR 2 (fun k => (((F k ∨ w.heap.size ≤ k) ∧ k ≠ g) ∧ k ≠ g6) ∧ k < Hs) wr oW row := hsw.wide ruleR_ok (by decide) fun k hk hkl => ⟨⟨hk.1, fun e => hk.2 (by rw [e]; rfl)⟩, by omega⟩
          have HC2 := hide (cloneR_any row oW cW _ wr hsw7 hcw (by omega))
          have HR := hide hr
          have HR7 := hide hrow7
          have HS7 := hide hsw7
          have HM := hide hm2
          have HHS := hide hHs
          obtain ⟨ln, hln⟩ : ∃ ln, ln = row.length := ⟨_, rfl⟩
          have HLN := hide hln
          rw [← hln] at HC2 y0 hm1 HR7
          clear hr hrow6 hrow7 hsw hsw7 hm2 hHs hln hcw
          go_wp2_with (go_at_call 143; refine HC2.out.mono ?_; rintro e w3 ⟨v33, rfl, h33, hb33⟩; obtain ⟨o33, c33, hv33, hc33, _⟩ := h33.slice ruleR_ok; rw [← HLN.out] at hv33 hc33; subst hv33; have hr3 := HR7.out.keep rowR_ok (hb33.block g6 hg62) (SameOn.of_below hb33); have y3 := hr3.cell (j := 0) (by omega); have f3 := hr3.free (s * 1 + 0); simp only [List.getElem?_cons_zero, Nat.add_zero, Nat.mul_one] at y3 f3; have HR8 := hide hr3; have HO33 := hide (h33.wide (F' := fun k => (((F k ∨ w.heap.size ≤ k) ∧ k ≠ g) ∧ k ≠ g6) ∧ some k ≠ (Value.slice o33 ln c33).ownBlock) ruleR_ok fun k hk hkl => ⟨hk.1.1, fun he => by have := (h33.block k he.symm).1; have := hk.2; omega⟩); have HB33 := hide hb33; clear h33 hb33 hr3)
          have hput := HR8.out.put rowR_ok (fun h => h.1.2 rfl) (j := 0) (by omega) (u := .slice o33 ln c33) rfl
          simp only [List.set_cons_zero, Nat.add_zero, Nat.mul_one] at hput
          obtain ⟨W4, e4⟩ : ∃ W4, w3.setCell ⟨g6, s, none⟩ (.slice o33 ln c33) = W4 := ⟨_, rfl⟩
          have hb4 : ∀ k, k ≠ g6 → W4.heap[k]? = w3.heap[k]? := fun k hk => by rw [← e4]; exact Below.heap_setCell _ _ _ k hk
          have hs4 : W4.heap.size = w3.heap.size := by rw [← e4]; show (w3.heap.modify _ _).size = _; rw [Array.size_modify]
          have hB4 : Below W1.heap.size W1 W4 := by
            rw [← e4]
            exact (HB6.out.trans (HB33.out.mono HB6.out.size)).setCell hg61 _
          rw [e4] at hput
          have hz3 := HB33.out.size
          have hz0 := HHS.out
          have HR9 := hide hput
          have HO34 : Hid (OwnS ruleR 2 Hs 115 (fun k => (((F k ∨ w.heap.size ≤ k) ∧ k ≠ g) ∧ k ≠ g6) ∧ some k ≠ (Value.slice o33 ln c33).ownBlock) W4 (.slice o33 ln c33) row) := by
            have h := HO33.out
            rw [← HHS.out] at h
            exact h.keep ruleR_ok (fun k hk => hb4 k fun e => by have := (h.block k hk).1; omega) (fun k hk _ => hb4 k hk.1.2)
          have HS8 : Hid (SliceR ruleR 2 (fun k => (((F k ∨ w.heap.size ≤ k) ∧ k ≠ g) ∧ k ≠ g6) ∧ k < Hs) W4 oW row) := (HS7.out.below ruleR_ok HB33.out).keep ruleR_ok (fun k hk _ => hb4 k hk.1.2)
          have HB9 := hide hB4
          have HZ : Hid (Hs ≤ W4.heap.size) := by show _ ≤ _; omega
          have hg6s : g6 < Hs := by omega
          have hgs : g < Hs := by have := HBB1.out.size; have := HB6.out.size; omega
          have hws : w.heap.size ≤ Hs := by omega
          clear hput hb4 hs4 hB4 hz3 hz0 HR8 HO33 HS7 HB33 y0
          rw [e4]
          go_loopw [37] (fun iv wy => ∃ (a : Nat), a ≤ ln ∧ iv = .int .i64 a ∧ Hid (RowH (slcR ruleR 2) 1 W1.heap.size 113 (fun k => (((F k ∨ w.heap.size ≤ k) ∧ k ≠ g) ∧ k ≠ g6) ∧ k < Hs) wy (.slice (some ⟨g6, 0, none⟩) rn c6) g6 rs s [.slice o33 ln c33]) ∧ Hid (OwnS ruleR 2 Hs 115 (fun k => (((F k ∨ w.heap.size ≤ k) ∧ k ≠ g) ∧ k ≠ g6) ∧ some k ≠ (Value.slice o33 ln c33).ownBlock) wy (.slice o33 ln c33) row) ∧ Hid (SliceR ruleR 2 (fun k => (((F k ∨ w.heap.size ≤ k) ∧ k ≠ g) ∧ k ≠ g6) ∧ k < Hs) wy oW row) ∧ Hid (Below W1.heap.size W1 wy) ∧ Hid (Hs ≤ wy.heap.size)) (fun iv _ => ln - (intOf iv).toNat)
          case atStart => exact ⟨0, by omega, rfl, HR9, HO34, HS8, HB9, HZ⟩
          case round =>
            obtain ⟨a, ha, rfl, HRa, HOa, HSa, HBa, HZa⟩ := hrel
            by_cases hla : a < ln
            · have hap : a < row.length := by have := HLN.out; omega
              obtain ⟨nx, st, _, hru, _, b3, off3, oS, cS, hoW, _, d0, d1, hcs, hcs2, hss⟩ := HSa.out.rule_at hap
              have hm3 := HM.out _ (List.mem_of_getElem? hru)
              simp only at hm3
              obtain ⟨g33, hc33, rfl, hg331, hg332, hrow33, ⟨oQ, cQ, rfl, iN, hcq, _, hsq⟩⟩ := HOa.out.hole hru
              simp only at hrow33 iN hcq hsq
              obtain ⟨W5, e5⟩ : ∃ W5, wr.alloc (.cells #[.int .i64 nx, .slice oS st.length cS] 115) = W5 := ⟨_, rfl⟩
              have bx5 : Box W5 wr.heap.size [.int .i64 nx, .slice oS st.length cS] 115 := by rw [← e5]; exact Box.new wr [.int .i64 nx, .slice oS st.length cS] 115
              have bb5 := bnew (Below.refl wr.heap.size wr) (.cells #[.int .i64 nx, .slice oS st.length cS] 115)
              rw [e5] at bb5
              have x1 := bx5.cell 1
              have y6 := (HRa.out.keep rowR_ok (bb5.block g6 (by have := HZa.out; omega)) (SameOn.of_below bb5)).cell (j := 0) (by omega)
              simp only [List.getElem?_cons_zero, List.getElem?_cons_succ, Nat.add_zero, Nat.mul_one] at x1 y6
              have HCO := hide (cloneO_any st oS cS _ W5.drew ((hss.below outR_ok bb5).keep outR_ok (fun _ _ _ => rfl)) hcs (by omega))
              have HRU := hide hru
              have HR33 := hide hrow33
              have HBX5 := hide bx5
              have HBB5 := hide bb5
              obtain ⟨sn, hsn⟩ : ∃ sn, sn = st.length := ⟨_, rfl⟩
              have HSN := hide hsn
              rw [← hsn] at HCO x1 d1 e5 HBX5
              subst hoW
              clear hru hrow33 hss hsn hcs hcs2 bx5 bb5 hsq hcq
              have hne6 : (⟨g6, s, none⟩ : Addr) ≠ ⟨g33, a * 2 + 1, none⟩ := fun e => by injection e with e _ _; omega
              have hne5 : (⟨wr.heap.size, 1, none⟩ : Addr) ≠ ⟨g33, a * 2 + 1, none⟩ := fun e => by injection e with e _ _; omega
              go_wp2_with fail
              go_region_held3 (fun w' => w'.cell? ⟨g6, s, none⟩ = some (.slice (some ⟨g33, 0, none⟩) ln c33) ∧ w'.cell? ⟨wr.heap.size, 1, none⟩ = some (.slice oS sn cS)) (first | exact ⟨y6, x1⟩ | exact ⟨y7, x7⟩ | exact ⟨(World.cell?_setCell_other _ _ _ _ (Ne.symm hne6)).trans y7, (World.cell?_setCell_other _ _ _ _ (Ne.symm hne5)).trans x7⟩) (first
                | (go_at_call 144; refine HCO.out.mono ?_; rintro e w6 ⟨v49, rfl, h49, hb49⟩; obtain ⟨o49, c49, hv49, hc49, hs49⟩ := h49.slice outR_ok; rw [← HSN.out] at hv49 hc49; subst hv49; have hb6 : Below wr.heap.size wr w6 := HBB5.out.trans ((((Below.refl _ _).drew).trans hb49).mono HBB5.out.size); have y7 := (HRa.out.keep rowR_ok (hb6.block g6 (by have := HZa.out; omega)) (SameOn.of_below hb6)).cell (j := 0) (by omega); have x7 := (HBX5.out.draw.below hb49).cell 1; have hr33 := HR33.out.keep ruleR_ok (hb6.block g33 hg332) (SameOn.of_below hb6); have zz := hr33.cell (j := 1) (by omega); have zf := hr33.free (a * 2 + 1); simp only [List.getElem?_cons_zero, List.getElem?_cons_succ, Nat.add_zero, Nat.mul_one] at y7 x7 zz; have HR34 := hide hr33; have HS49 := hide hs49; have HB6w := hide hb6; clear h49 hb49 hs49 hb6 hr33))
              all_goals
                have hput := HR34.out.put ruleR_ok (fun h => h.2 rfl) (j := 1) (by omega) (u := .slice o49 sn c49) rfl
                simp only [List.set_cons_succ, List.set_cons_zero] at hput
                obtain ⟨W7, e7⟩ : ∃ W7, w6.setCell ⟨g33, a * 2 + 1, none⟩ (.slice o49 sn c49) = W7 := ⟨_, rfl⟩
                have hb7 : ∀ k, k ≠ g33 → W7.heap[k]? = w6.heap[k]? := fun k hk => by rw [← e7]; exact Below.heap_setCell _ _ _ k hk
                have hs7 : W7.heap.size = w6.heap.size := by rw [← e7]; show (w6.heap.modify _ _).size = _; rw [Array.size_modify]
                rw [e7] at hput
                have z1 := HB6w.out.size
                have z2 := HBB5.out.size
                have z3 := HZa.out
                have hs50 : SliceR outR 2 (fun k => (((F k ∨ w.heap.size ≤ k) ∧ k ≠ g) ∧ k ≠ g6) ∧ some k ≠ (Value.slice (some ⟨g33, 0, none⟩) ln c33).ownBlock) W7 o49 st := by
                  refine (HS49.out.wide outR_ok (by decide) (F' := fun k => (((F k ∨ w.heap.size ≤ k) ∧ k ≠ g) ∧ k ≠ g6) ∧ some k ≠ (Value.slice (some ⟨g33, 0, none⟩) ln c33).ownBlock) fun k hk _ => ?_).keep outR_ok fun k hk _ => hb7 k fun e => hk.2 (by rw [e]; rfl)
                  have hz5 : W5.drew.heap.size = W5.heap.size := rfl
                  refine ⟨⟨?_, ?_⟩, fun he => ?_⟩
                  · rcases hk with hk | hk
                    · exact hk.1.1.1
                    · exact ⟨.inr (by omega), by omega⟩
                  · rcases hk with hk | hk
                    · exact hk.1.1.2
                    · omega
                  · have he2 : k = g33 := by simp [Value.ownBlock] at he; exact he
                    rcases hk with hk | hk
                    · have := hk.1.2; omega
                    · omega
                have hm3' : st.length ≤ 16 := hm3
                have hfill := hput.fill HRU.out ⟨o49, c49, by simp [HSN.out], iN, by simp only; have := HSN.out; omega, by simp only; omega, hs50⟩
                have HO8 := hide hfill
                have HR8 : Hid (RowH (slcR ruleR 2) 1 W1.heap.size 113 (fun k => (((F k ∨ w.heap.size ≤ k) ∧ k ≠ g) ∧ k ≠ g6) ∧ k < Hs) W7 (.slice (some ⟨g6, 0, none⟩) rn c6) g6 rs s [.slice (some ⟨g33, 0, none⟩) ln c33]) := HRa.out.keep rowR_ok ((hb7 g6 (by omega)).trans (HB6w.out.block g6 (by omega))) (fun k hk hkl => (hb7 k (by have := hk.2; omega)).trans (HB6w.out.block k hkl))
                have HS9 : Hid (SliceR ruleR 2 (fun k => (((F k ∨ w.heap.size ≤ k) ∧ k ≠ g) ∧ k ≠ g6) ∧ k < Hs) W7 (some ⟨b3, off3, none⟩) row) := HSa.out.keep ruleR_ok (fun k hk hkl => (hb7 k (by have := hk.2; omega)).trans (HB6w.out.block k hkl))
                have HB8 : Hid (Below W1.heap.size W1 W7) := by
                  show Below _ _ _
                  rw [← e7]
                  exact (HBa.out.trans (HB6w.out.mono (by have := HB6.out.size; omega))).setCell (by have := HB6.out.size; have := HHS.out; show W1.heap.size ≤ g33; omega) _
                have HZ8 : Hid (Hs ≤ W7.heap.size) := by show _ ≤ _; omega
                clear hfill hs50 hput hb7 hs7 y7 x7 zz zf HR34 HS49 z1 z2 z3 hm3 hm3'
                rw [e7]
                go_wp2_with fail
                go_roundw
                case rel => exact ⟨a + 1, by omega, by go_num, HR8, HO8, HS9, HB8, HZ8⟩
                case measure => simp [intOf]; omega
            · have hfin : OwnS (slcR ruleR 2) 1 W1.heap.size 113 (fun k => ((F k ∨ w.heap.size ≤ k) ∧ k ≠ g) ∧ some k ≠ (Value.slice (some ⟨g6, 0, none⟩) rn c6).ownBlock) wr (.slice (some ⟨g6, 0, none⟩) rn c6) rs := by
                obtain ⟨oa3, ca3, e3, hcc3, hsl3⟩ := HOa.out.slice ruleR_ok
                injection e3 with q1 q2 q3
                have hown6 : ∀ k, some k = (Value.slice (some ⟨g6, 0, none⟩) rn c6).ownBlock → k = g6 := fun k he => by simp [Value.ownBlock] at he; exact he
                have hw := HRa.out.wide rowR_ok (F' := fun k => ((F k ∨ w.heap.size ≤ k) ∧ k ≠ g) ∧ some k ≠ (Value.slice (some ⟨g6, 0, none⟩) rn c6).ownBlock) (fun k hk _ => ⟨hk.1.1, fun e => hk.1.2 (hown6 k e)⟩)
                refine hw.fill HR.out ⟨o33, c33, by rw [HLN.out], by have := HLN.out; omega, by have := HLN.out; omega, ?_⟩
                rw [q1]
                refine hsl3.wide ruleR_ok (by decide) fun k hk _ => ?_
                rcases hk with hk | hk
                · exact ⟨hk.1.1, fun e => hk.1.2 (hown6 k e)⟩
                · exact ⟨⟨.inr (by omega), by omega⟩, fun e => by have := hown6 k e; omega⟩
              have HFI := hide hfin
              clear hfin
              go_wp2_with fail
              go_roundw
              case rel => exact ⟨s + 1, by omega, by go_num, HFI, HBa⟩
              case measure => simp [intOf]; omega
        · obtain ⟨oa6, ca6, e6', hcc6, hsl6⟩ := HO6.out.slice rowR_ok
          injection e6' with q1 q2 q3
          have hsp : rs.length = rn := HRN.out.symm
          have hBx : Below wr.heap.size wr wr := Below.refl _ _
          have hrx : RowH prcR 3 w.heap.size 47 (fun k => (F k ∨ w.heap.size ≤ k) ∧ some k ≠ (Value.slice (some ⟨g, 0, none⟩) n c3).ownBlock) wr (.slice (some ⟨g, 0, none⟩) n c3) g procs i [.int .i64 S, .int .i64 Le, .slice oR rn cR] := by
            rw [HRN.out]
            exact HRW.out.keep prcR_ok ((HB6.out.block g (by have := HBB1.out.size; omega)).trans (HBB1.out.block g hg2)) (fun k hk hkl => (HB6.out.block k (by have := HBB1.out.size; omega)).trans (HBB1.out.block k hkl))
          have old := hrx.cell (j := 2) (by omega)
          have hf := hrx.free (i * 3 + 2)
          simp only [List.getElem?_cons_zero, List.getElem?_cons_succ] at old
          have hput := hrx.put prcR_ok (fun h => h.2 rfl) (j := 2) (by omega) (u := .slice o6 rn c6) rfl
          have hsl7 : SliceR (slcR ruleR 2) 1 (fun k => (F k ∨ w.heap.size ≤ k) ∧ some k ≠ (Value.slice (some ⟨g, 0, none⟩) n c3).ownBlock) (wr.setCell ⟨g, i * 3 + 2, none⟩ (.slice o6 rn c6)) o6 rs := by
            rw [q1]
            refine (hsl6.wide rowR_ok (by decide) (F' := fun k => (F k ∨ w.heap.size ≤ k) ∧ some k ≠ (Value.slice (some ⟨g, 0, none⟩) n c3).ownBlock) fun k hk _ => ?_).keep rowR_ok fun k hk _ => Below.heap_setCell _ _ _ k fun e => hk.2 (by rw [e]; rfl)
            have hz1 := HBB1.out.size
            have hkg : some k = (Value.slice (some ⟨g, 0, none⟩) n c3).ownBlock → k = g := fun he => by
              simp [Value.ownBlock] at he
              exact he
            rcases hk with hk | hk
            · exact ⟨hk.1.1, fun he => hk.1.2 (hkg he)⟩
            · exact ⟨.inr (by omega), fun he => by have := hkg he; omega⟩
          have hfill := hput.fill HPR.out ⟨o6, c6, by simp [HRN.out], iS, iL, by simp only; omega, by simp only; omega, hsl7⟩
          have hBB : Below w.heap.size w (wr.setCell ⟨g, i * 3 + 2, none⟩ (.slice o6 rn c6)) := by
            have h1 := HB.out.trans ((HBB1.out.mono HB.out.size).trans (HB6.out.mono (by have := HB.out.size; have := HBB1.out.size; omega)))
            exact h1.setCell hg1 _
          have HFI := hide hfill
          have HBB := hide hBB
          clear hfill hBB hput hsl6 hsl7 hrx q1 q2 q3
          go_wp2_with fail
          go_roundw
          case rel => exact ⟨i + 1, by omega, by go_num, HFI, HBB⟩
          case measure => simp [intOf]; omega
    · obtain ⟨oa', c', e', hcc, hsl⟩ := HO.out.slice prcR_ok
      have hsl2 := hsl.wide prcR_ok (by decide) (F' := fun k => F k ∨ w.heap.size ≤ k) (fun k hk _ => by rcases hk with hk | hk; exact hk.1; exact .inr hk)
      injection e' with e1 e2 e3
      go_wp2_with fail
      go_ret
      exact ⟨o3, c3, rfl, by rw [e3]; have := HN.out; omega, by rw [e1]; exact hsl2, HB.out⟩

end Go.Proofs.Ytmjcjmljnliaoaa

set_option linter.unusedVariables false
set_option linter.unusedSimpArgs false
set_option linter.unnecessarySimpa false
namespace Go.Proofs.Ytmjcjmljnliaoaa
open Go.RowKit

/-- A table of ints: where its rows lie. -/
def RowsAt (w : World) (oa : Option Addr) (l : List (List Int)) : Prop := ∀ (i : Nat) (row : List Int), l[i]? = some row → ∃ b off oa' c, oa = some ⟨b, off, none⟩ ∧ w.cell? ⟨b, off + i, none⟩ = some (.slice oa' row.length c) ∧ row.length ≤ 9223372036854775807 ∧ SliceR intR 1 All w oa' row
theorem SliceR.rowsAt {F : Foot} {w : World} {oa : Option Addr} {l : List (List Int)} (h : SliceR (slcR intR 1) 1 F w oa l) : RowsAt w oa l := fun i row hi => by
  obtain ⟨l', h1, h2, b, off, oa', c, h3, h4, h5, h6, h7, h8⟩ := h.slc_at (List.getElem?_eq_some_iff.1 hi).1
  rw [h2] at hi
  injection hi with hi
  subst hi
  exact ⟨b, off, oa', c, h3, h5, h7, h8.wide intR_ok (by decide) (fun _ _ _ => trivial)⟩
theorem RowsAt.at {w : World} {oa : Option Addr} {l : List (List Int)} (h : RowsAt w oa l) {k : Nat} (hk : k < l.length) : ∃ row b off oa' c, l[k]? = some row ∧ oa = some ⟨b, off, none⟩ ∧ w.cell? ⟨b, off + k, none⟩ = some (.slice oa' row.length c) ∧ row.length ≤ 9223372036854775807 ∧ SliceR intR 1 All w oa' row := by
  obtain ⟨b, off, oa', c, h1, h2, h3, h4⟩ := h k _ (List.getElem?_eq_getElem hk)
  exact ⟨_, b, off, oa', c, List.getElem?_eq_getElem hk, h1, h2, h3, h4⟩

def nzRow (row : List Int) : Bool := row.any fun x => x != 0
theorem fnRow (row : List Int) (oa : Option Addr) (c : Nat) (F : Foot) (w : World) (hs : SliceR intR 1 F w oa row) (hc2 : row.length ≤ 9223372036854775807) :
    Calls Try.prog 114 #[.slice oa row.length c] w fun e w' => e = .returned (.bool (nzRow row)) ∧ w = w' := by
  have HS := hide hs
  clear hs
  go_enter Try.func114, Try.ntmps114
  go_wp2_with (go_at_call 62; refine (hasNz row oa c F _ HS.out hc2).mono ?_; rintro e w2 ⟨rfl, rfl⟩)
  go_ret
  exact ⟨rfl, rfl⟩
theorem idxRow (l : List (List Int)) (oa : Option Addr) (c : Nat) (w : World) (hs : RowsAt w oa l) (hc2 : l.length ≤ 9223372036854775807) :
    Calls Try.prog 136 #[.slice oa l.length c, .func (.func 114) #[] #[]] w fun e w' => e = .returned (.int .i64 (idxI (l.findIdx? nzRow))) ∧ w = w' := by
  go_enter Try.func136, Try.ntmps136
  go_wp2_with fail
  go_loop [8] (fun i => ∃ k : Nat, k ≤ l.length ∧ i = .int .i64 k ∧ Hid (∀ m x, m < k → l[m]? = some x → nzRow x = false)) (fun i => l.length - (intOf i).toNat)
  case atStart => exact ⟨0, by omega, rfl, fun m x hm _ => absurd hm (Nat.not_lt_zero m)⟩
  case round =>
    obtain ⟨k, hk, rfl, HE⟩ := hrel
    by_cases hlt : k < l.length
    · obtain ⟨row, b, off, oa', c', hxx, rfl, c0, hrl, hrs⟩ := hs.at hlt
      have HX := hide hxx
      have HC := hide (fnRow row oa' c' All w hrs hrl)
      clear hs hxx hrs hrl
      obtain ⟨q, hq⟩ : ∃ q : Bool, q = nzRow row := ⟨_, rfl⟩
      have HQ := hide hq
      rw [← hq] at HC
      cases q
      · clear hq
        go_wp2_with (go_at_call 114; refine HC.out.mono ?_; rintro e w' ⟨rfl, rfl⟩)
        go_round
        case rel => exact ⟨k + 1, by omega, by go_num, idx_more HE.out HX.out HQ.out.symm⟩
        case measure => simp [intOf]; omega
      · clear hq
        go_wp2_with (go_at_call 114; refine HC.out.mono ?_; rintro e w' ⟨rfl, rfl⟩)
        go_ret
        exact ⟨by rw [findIdx_at HE.out HX.out HQ.out.symm]; rfl, rfl⟩
    · go_wp2_with fail
      go_ret
      exact ⟨by rw [findIdx_no HE.out (by omega)]; rfl, rfl⟩
theorem hasRow (l : List (List Int)) (oa : Option Addr) (c : Nat) (w : World) (hs : RowsAt w oa l) (hc2 : l.length ≤ 9223372036854775807) :
    Calls Try.prog 113 #[.slice oa l.length c, .func (.func 114) #[] #[]] w fun e w' => e = .returned (.bool (l.any nzRow)) ∧ w = w' := by
  have ha := @idx_any (List Int) nzRow l
  obtain ⟨r, hr⟩ : ∃ r, r = idxI (l.findIdx? nzRow) := ⟨_, rfl⟩
  have HI := idxRow l oa c w hs hc2
  rw [← hr] at ha HI
  clear hr
  go_enter Try.func113, Try.ntmps113
  go_wp2_with fail
  refine HI.mono ?_
  rintro e w' ⟨rfl, rfl⟩
  go_wp2_with fail
  go_ret
  exact ⟨ret_bool (by rw [← ha]), rfl⟩
theorem waiting_any (l : List (List Int)) (oa : Option Addr) (c : Nat) (w : World) (hs : RowsAt w oa l) (hc2 : l.length ≤ 9223372036854775807) :
    Calls Try.prog 64 #[.slice oa l.length c] w fun e w' => e = .returned (.bool (l.any nzRow)) ∧ w = w' := by
  have HC := hide (hasRow l oa c w hs hc2)
  clear hs
  go_enter Try.func64, Try.ntmps64
  go_wp2_with (go_at_call 113; refine HC.out.mono ?_; rintro e w' ⟨rfl, rfl⟩)
  go_ret
  exact ⟨rfl, rfl⟩

section
variable {B N : Nat} {L : WLay} {oP : Option Addr} {cP : Nat} {oF : Option Addr} {nF cF : Nat} {S : Wr} {W W' : World}
def nzLn (l : Ln) : Bool := !l.q.isEmpty
theorem fnLine (h : Wires B N L oP cP oF nF cF S W) {j : Nat} {l : Ln} (hl : S.ls[j]? = some l) :
    Calls Try.prog 119 #[.pointer (some ⟨L.bl j, 0, none⟩)] W fun e w' => e = .returned (.bool (nzLn l)) ∧ W = w' := by
  have p0 := (h.lin j l hl).cell 0
  obtain ⟨oq, cq, hfv, _, _⟩ := (h.lett j l hl).slice
  simp only [lnC, List.getElem?_cons_zero, List.getElem?_cons_succ] at p0
  rw [hfv] at p0
  clear hfv h hl
  unfold nzLn
  cases hq : l.q with
  | nil =>
    rw [hq] at p0
    simp only [List.length_nil] at p0
    clear hq
    go_enter Try.func119, Try.ntmps119
    go_wp2_with fail
    go_ret
    exact ⟨rfl, rfl⟩
  | cons a r =>
    rw [hq] at p0
    obtain ⟨n, hn⟩ : ∃ n, n = (a :: r).length := ⟨_, rfl⟩
    have hn0 : (0 : Int) < n := by rw [hn]; simp
    rw [← hn] at p0
    clear hq hn
    go_enter Try.func119, Try.ntmps119
    go_wp2_with fail
    go_ret
    exact ⟨ret_bool (by simp; omega), rfl⟩
theorem idxLine (h : Wires B N L oP cP oF nF cF S W) (hc2 : N * N ≤ 9223372036854775807) :
    Calls Try.prog 137 #[slV L.gl (N * N) L.cl, .func (.func 119) #[] #[]] W fun e w' => e = .returned (.int .i64 (idxI (S.ls.findIdx? nzLn))) ∧ W = w' := by
  unfold slV
  obtain ⟨n, hn⟩ : ∃ n, n = N * N := ⟨_, rfl⟩
  have HLT : Hid (∀ j, j < n → W.cell? ⟨L.gl, j, none⟩ = some (.pointer (some ⟨L.bl j, 0, none⟩))) := fun j hj => by
    have lt := h.ltab.cell (i := j) (x := Value.pointer (some ⟨L.bl j, 0, none⟩)) (by rw [hn] at hj; simp [hj])
    simpa only [id_eq] using lt
  have HNL : Hid (S.ls.length = n) := by show _ = _; rw [h.nls, hn]
  have HH := hide h
  rw [← hn] at hc2 ⊢
  clear h hn
  go_enter Try.func137, Try.ntmps137
  go_wp2_with fail
  go_loop [8] (fun i => ∃ k : Nat, k ≤ n ∧ i = .int .i64 k ∧ Hid (∀ m x, m < k → S.ls[m]? = some x → nzLn x = false)) (fun i => n - (intOf i).toNat)
  case atStart => exact ⟨0, by omega, rfl, fun m x hm _ => absurd hm (Nat.not_lt_zero m)⟩
  case round =>
    obtain ⟨k, hk, rfl, HE⟩ := hrel
    by_cases hlt : k < n
    · have c0 := HLT.out k hlt
      have hxx := List.getElem?_eq_getElem (show k < S.ls.length by rw [HNL.out]; exact hlt)
      obtain ⟨l, hle⟩ : ∃ l, l = S.ls[k]'(by rw [HNL.out]; exact hlt) := ⟨_, rfl⟩
      rw [← hle] at hxx
      clear hle
      have HX := hide hxx
      have HC := hide (fnLine HH.out hxx)
      clear hxx
      obtain ⟨q, hq⟩ : ∃ q : Bool, q = nzLn l := ⟨_, rfl⟩
      have HQ := hide hq
      rw [← hq] at HC
      cases q
      · clear hq
        go_wp2_with (go_at_call 119; refine HC.out.mono ?_; rintro e w' ⟨rfl, rfl⟩)
        go_round
        case rel => exact ⟨k + 1, by omega, by go_num, idx_more HE.out HX.out HQ.out.symm⟩
        case measure => simp [intOf]; omega
      · clear hq
        go_wp2_with (go_at_call 119; refine HC.out.mono ?_; rintro e w' ⟨rfl, rfl⟩)
        go_ret
        exact ⟨by rw [findIdx_at HE.out HX.out HQ.out.symm]; rfl, rfl⟩
    · have hlen : S.ls.length ≤ k := by have := HNL.out; omega
      go_wp2_with fail
      go_ret
      exact ⟨by rw [findIdx_no HE.out hlen]; rfl, rfl⟩
theorem hasLine (h : Wires B N L oP cP oF nF cF S W) (hc2 : N * N ≤ 9223372036854775807) :
    Calls Try.prog 118 #[slV L.gl (N * N) L.cl, .func (.func 119) #[] #[]] W fun e w' => e = .returned (.bool (S.ls.any nzLn)) ∧ W = w' := by
  have ha := @idx_any Ln nzLn S.ls
  obtain ⟨r, hr⟩ : ∃ r, r = idxI (S.ls.findIdx? nzLn) := ⟨_, rfl⟩
  have HI := idxLine h hc2
  rw [← hr] at ha HI
  clear hr h
  unfold slV at HI ⊢
  go_enter Try.func118, Try.ntmps118
  go_wp2_with fail
  refine HI.mono ?_
  rintro e w' ⟨rfl, rfl⟩
  go_wp2_with fail
  go_ret
  exact ⟨ret_bool (by rw [← ha]), rfl⟩

theorem Wires.rowsW (h : Wires B N L oP cP oF nF cF S W) (hb : ∀ (p : Nat) (row : List Int), S.wt[p]? = some row → row.length ≤ 9223372036854775807 ∧ ∀ y ∈ row, I64 y) : RowsAt W (some ⟨L.gw, 0, none⟩) S.wt := fun i row hi => by
  have hiN : i < N := by have := (List.getElem?_eq_some_iff.1 hi).1; have := h.nwt; omega
  have t0 := h.wtab.cell (i := i) (x := slV (L.bw i) row.length (L.kw i)) (by simp [hiN, hi])
  simp only [id_eq] at t0
  unfold slV at t0
  obtain ⟨h1, h2⟩ := hb i row hi
  exact ⟨L.gw, 0, some ⟨L.bw i, 0, none⟩, L.kw i, rfl, by simpa using t0, h1, (h.wrow i row hi).ints h2 trivial⟩
set_option maxHeartbeats 2000000 in
theorem busy_any (h : Wires B N L oP cP oF nF cF S W) (hN : N ≤ 12) (hb : ∀ (p : Nat) (row : List Int), S.wt[p]? = some row → row.length ≤ 9223372036854775807 ∧ ∀ y ∈ row, I64 y) :
    Calls Try.prog 70 #[.pointer (some ⟨L.p, 0, none⟩)] W fun e w' => e = .returned (.bool (busyS S)) ∧ W = w' := by
  have hNN : N * N ≤ 144 := Nat.le_trans (Nat.mul_le_mul hN hN) (by omega)
  obtain ⟨_, _, c2, _, c4, _, c6, _, _, _⟩ := h.cells
  obtain ⟨ofl, cfl, hfv, _, _⟩ := h.fly.slice (arr_ok _)
  rw [hfv] at c6
  have HL := hide (hasLine h (by omega))
  have hwl : S.wt.length = N := h.nwt
  have HW := hide (waiting_any S.wt (some ⟨L.gw, 0, none⟩) L.cw W (h.rowsW hb) (by omega))
  have HE : Hid (busyS S = ((!S.fl.isEmpty) || S.ls.any nzLn || S.wt.any nzRow)) := rfl
  rw [hwl] at HW
  unfold slV at c2 c4 HL
  obtain ⟨nn, hnn⟩ : ∃ nn, nn = N * N := ⟨_, rfl⟩
  rw [← hnn] at c4 HL
  clear hfv h hb hwl hnn hNN
  obtain ⟨nf, hnf⟩ : ∃ nf, nf = S.fl.length := ⟨_, rfl⟩
  rw [← hnf] at c6
  obtain ⟨b1, hb1⟩ : ∃ b, b = S.ls.any nzLn := ⟨_, rfl⟩
  obtain ⟨b2, hb2⟩ : ∃ b, b = S.wt.any nzRow := ⟨_, rfl⟩
  rw [← hb1] at HL HE
  rw [← hb2] at HW HE
  clear hb1 hb2
  cases hf : S.fl with
  | cons a r =>
    have h0 : (0 : Int) < nf := by rw [hnf, hf]; simp
    have HR : Hid (busyS S = true) := by show _ = _; rw [HE.out, hf]; rfl
    clear hf hnf
    go_enter Try.func70, Try.ntmps70
    go_wp2_with fail
    go_ret
    exact ⟨ret_bool (by rw [HR.out]), rfl⟩
  | nil =>
    have h0 : nf = 0 := by rw [hnf, hf]; rfl
    have HR : Hid (busyS S = (b1 || b2)) := by show _ = _; rw [HE.out, hf]; rfl
    subst h0
    clear hf hnf
    cases b1
    · go_enter Try.func70, Try.ntmps70
      go_wp2_with (first
        | (go_at_call 118; refine HL.out.mono ?_; rintro e w' ⟨rfl, rfl⟩)
        | (go_at_call 64; refine HW.out.mono ?_; rintro e w' ⟨rfl, rfl⟩))
      go_ret
      exact ⟨ret_bool (by rw [HR.out]; rfl), rfl⟩
    · go_enter Try.func70, Try.ntmps70
      go_wp2_with (first
        | (go_at_call 118; refine HL.out.mono ?_; rintro e w' ⟨rfl, rfl⟩)
        | (go_at_call 64; refine HW.out.mono ?_; rintro e w' ⟨rfl, rfl⟩))
      go_ret
      exact ⟨ret_bool (by rw [HR.out]; rfl), rfl⟩
end

end Go.Proofs.Ytmjcjmljnliaoaa

set_option linter.unusedVariables false
set_option linter.unusedSimpArgs false
set_option linter.unnecessarySimpa false
namespace Go.Proofs.Ytmjcjmljnliaoaa
open Go.RowKit

structure Snp where
  net : Nwk
  counts : List (List Int)
  ticks : Int
  sent : Int
  flying : Int
  queued : Int
def queuedS : List Ln → Nat
  | [] => 0
  | l :: r => l.q.length + queuedS r
def seenS (procs : List Prc) (S : Wr) : Snp := ⟨⟨procs, S.st, S.wt⟩, S.ct, (S.tk : Nat), (S.se : Nat), (S.fl.length : Nat), (queuedS S.ls : Nat)⟩
def waitingS (l : List (List Int)) : Bool := l.any fun row => row.any fun n => n != 0
def quietS (s : Snp) : Bool := (!waitingS s.net.waiting) && (s.flying == 0) && (s.queued == 0)

theorem queuedS_zero : ∀ l : List Ln, (((queuedS l : Nat) : Int) == 0) = !(l.any fun l => !l.q.isEmpty)
  | [] => rfl
  | x :: r => by
    have ih := queuedS_zero r
    rw [List.any_cons, Bool.not_or, ← ih]
    show (((x.q.length + queuedS r : Nat) : Int) == 0) = _
    cases hx : x.q with
    | nil => simp
    | cons a t =>
      simp
      omega
theorem quietS_seen (procs : List Prc) (S : Wr) : quietS (seenS procs S) = !busyS S := by
  unfold quietS seenS busyS
  simp only
  rw [queuedS_zero]
  have h1 : (((S.fl.length : Nat) : Int) == 0) = S.fl.isEmpty := by
    cases S.fl with
    | nil => rfl
    | cons a t => simp; omega
  rw [h1]
  show (!waitingS S.wt && S.fl.isEmpty && !(S.ls.any fun l => !l.q.isEmpty)) = !(!S.fl.isEmpty || S.ls.any (fun l => !l.q.isEmpty) || waitingS S.wt)
  cases waitingS S.wt <;> cases S.fl.isEmpty <;> cases (S.ls.any fun l => !l.q.isEmpty) <;> rfl

end Go.Proofs.Ytmjcjmljnliaoaa

set_option linter.unusedVariables false
set_option linter.unusedSimpArgs false
set_option linter.unnecessarySimpa false
namespace Go.Proofs.Ytmjcjmljnliaoaa
open Go.RowKit

section
variable {B N : Nat} {L : WLay} {oP : Option Addr} {cP : Nat} {oF : Option Addr} {nF cF : Nat} {S : Wr} {W W' : World}

theorem queued_take {l : List Ln} {k : Nat} {x : Ln} (hx : l[k]? = some x) : queuedS (l.take (k + 1)) = queuedS (l.take k) + x.q.length := by
  induction l generalizing k with
  | nil => simp at hx
  | cons a r ih =>
    cases k with
    | zero =>
      simp at hx
      subst hx
      simp [queuedS]
    | succ k =>
      have := ih (k := k) (by simpa using hx)
      simp only [List.take_succ_cons, queuedS, this]
      omega

set_option maxRecDepth 100000 in
set_option maxHeartbeats 4000000 in
theorem seen_any (h : Wires B N L oP cP oF nF cF S W) {x : Nwk} (hx : Right x) (hN : N = x.procs.length) {G : Foot} (hP : SliceR prcR 3 G W oP x.procs) (hG : ∀ k, G k → k < B) (hcP : N ≤ cP)
    (hq : queuedS S.ls ≤ 1000000000000) (hB : B ≤ W.heap.size) :
    Calls Try.prog 72 #[.pointer (some ⟨L.p, 0, none⟩)] W fun e w' => ∃ oQ cQ, e = .returned (.agg #[.slice oQ N cQ, slV L.gs N L.cs, slV L.gw N L.cw, slV L.gc N L.cc, .int .i64 S.tk, .int .i64 S.se, .int .i64 S.fl.length, .int .i64 (queuedS S.ls)]) ∧ N ≤ cQ ∧ SliceR prcR 3 (fun k => G k ∨ W.heap.size ≤ k) w' oQ x.procs ∧ Below W.heap.size W w' := by
  obtain ⟨c0, c1, c2, c3, c4, c5, c6, c7, c8, c9⟩ := h.cells
  obtain ⟨ofl, cfl, hfv, _, _⟩ := h.fly.slice (arr_ok _)
  rw [hfv] at c6
  unfold slV at c1 c2 c3 c4 ⊢
  obtain ⟨nfl, hnfl⟩ : ∃ n, n = S.fl.length := ⟨_, rfl⟩
  rw [← hnfl] at c6 ⊢
  have HH := hide h
  have HX := hide hx
  have HP := hide hP
  have HN := hide hN
  obtain ⟨nn, hnn⟩ : ∃ nn, nn = N * N := ⟨_, rfl⟩
  have HNN := hide hnn
  have hnn2 : nn ≤ 144 := by
    have h12 : N ≤ 12 := by have := hx.n.2; omega
    rw [hnn]; exact Nat.le_trans (Nat.mul_le_mul h12 h12) (by omega)
  rw [← hnn] at c4
  obtain ⟨W1, e1⟩ : ∃ W1, W.alloc (.cells #[.slice none 0 0, .slice none 0 0, .slice none 0 0, .slice none 0 0, .int .i64 0, .int .i64 0, .int .i64 0, .int .i64 0] 28) = W1 := ⟨_, rfl⟩
  have bx1 : Box W1 W.heap.size [.slice none 0 0, .slice none 0 0, .slice none 0 0, .slice none 0 0, .int .i64 0, .int .i64 0, .int .i64 0, .int .i64 0] 28 := by rw [← e1]; exact Box.new W [.slice none 0 0, .slice none 0 0, .slice none 0 0, .slice none 0 0, .int .i64 0, .int .i64 0, .int .i64 0, .int .i64 0] 28
  have bb1 := bnew (Below.refl W.heap.size W) (.cells #[.slice none 0 0, .slice none 0 0, .slice none 0 0, .slice none 0 0, .int .i64 0, .int .i64 0, .int .i64 0, .int .i64 0] 28)
  rw [e1] at bb1
  have d0 := (bb1.cell (World.block_lt_of_cell? _ _ c0)).trans c0
  have d1 := (bb1.cell (World.block_lt_of_cell? _ _ c1)).trans c1
  have d2 := (bb1.cell (World.block_lt_of_cell? _ _ c2)).trans c2
  have d3 := (bb1.cell (World.block_lt_of_cell? _ _ c3)).trans c3
  have d4 := (bb1.cell (World.block_lt_of_cell? _ _ c4)).trans c4
  have d6 := (bb1.cell (World.block_lt_of_cell? _ _ c6)).trans c6
  have d7 := (bb1.cell (World.block_lt_of_cell? _ _ c7)).trans c7
  have d8 := (bb1.cell (World.block_lt_of_cell? _ _ c8)).trans c8
  have l0 := World.block_lt_of_cell? _ _ d0
  simp only at l0
  have HBX1 := hide bx1
  have HBB1 := hide bb1
  clear bx1 bb1 c0 c1 c2 c3 c4 c5 c6 c7 c8 c9
  clear h hx hP hN hfv hnfl hnn
  go_enter Try.func72, Try.ntmps72
  go_wp2_with fail
  go_region
  obtain ⟨W2, e2⟩ : ∃ W2, (W1.alloc (.cells #[.slice oP N cP, .slice (some ⟨L.gs, 0, none⟩) N L.cs, .slice (some ⟨L.gw, 0, none⟩) N L.cw, .slice (some ⟨L.gc, 0, none⟩) N L.cc, .int .i64 (S.tk : Nat), .int .i64 (S.se : Nat), .int .i64 (nfl : Nat), .int .i64 0] 28)).drew = W2 := ⟨_, rfl⟩
  have bx2 : Box W2 W1.heap.size [.slice oP N cP, .slice (some ⟨L.gs, 0, none⟩) N L.cs, .slice (some ⟨L.gw, 0, none⟩) N L.cw, .slice (some ⟨L.gc, 0, none⟩) N L.cc, .int .i64 (S.tk : Nat), .int .i64 (S.se : Nat), .int .i64 (nfl : Nat), .int .i64 0] 28 := by rw [← e2]; exact (Box.new W1 [.slice oP N cP, .slice (some ⟨L.gs, 0, none⟩) N L.cs, .slice (some ⟨L.gw, 0, none⟩) N L.cw, .slice (some ⟨L.gc, 0, none⟩) N L.cc, .int .i64 (S.tk : Nat), .int .i64 (S.se : Nat), .int .i64 (nfl : Nat), .int .i64 0] 28).draw
  have bb2 : Below W1.heap.size W1 W2 := by rw [← e2]; exact (bnew (Below.refl _ _) _).drew
  have d4 := (bb2.cell (World.block_lt_of_cell? _ _ d4)).trans d4
  have HBB2 := hide bb2
  have HBX2 := hide bx2
  have hs1 := HBB1.out.size
  rw [e2]
  clear bx2 bb2 d0 d1 d2 d3 d6 d7 d8
  go_wp2_with fail
  go_loopw [33] (fun iv wr => ∃ k : Nat, k ≤ nn ∧ iv = .int .i64 k ∧ Hid (Box wr W1.heap.size [.slice oP N cP, .slice (some ⟨L.gs, 0, none⟩) N L.cs, .slice (some ⟨L.gw, 0, none⟩) N L.cw, .slice (some ⟨L.gc, 0, none⟩) N L.cc, .int .i64 (S.tk : Nat), .int .i64 (S.se : Nat), .int .i64 (nfl : Nat), .int .i64 (queuedS (S.ls.take k) : Nat)] 28) ∧ Hid (Below W1.heap.size W1 wr)) (fun iv _ => nn - (intOf iv).toNat)
  case atStart => exact ⟨0, by omega, rfl, HBX2, HBB2⟩
  case round =>
    obtain ⟨k, hk, rfl, HBX, HBB⟩ := hrel
    have HHr := hide ((HH.out.below HBB1.out).below HBB.out)
    by_cases hlt : k < nn
    · have hkN : k < N * N := by have := HNN.out; omega
      have hkl : k < S.ls.length := by rw [HH.out.nls]; exact hkN
      have hl := List.getElem?_eq_getElem hkl
      obtain ⟨l, hle⟩ : ∃ l, l = S.ls[k] := ⟨_, rfl⟩
      rw [← hle] at hl
      clear hle
      have lt := HHr.out.ltab.cell (i := k) (x := Value.pointer (some ⟨L.bl k, 0, none⟩)) (by simp [hkN])
      have p0 := (HHr.out.lin k l hl).cell 0
      obtain ⟨oq, cq, hfv, _, _⟩ := (HHr.out.lett k l hl).slice
      have x7 := HBX.out.cell 7
      have xf := HBX.out.free 7
      simp only [id_eq, lnC, List.getElem?_cons_zero, List.getElem?_cons_succ] at lt p0 x7
      rw [hfv] at p0
      have hqt := queued_take hl
      obtain ⟨ql, hql⟩ : ∃ ql, ql = l.q.length := ⟨_, rfl⟩
      obtain ⟨q0, hq0⟩ : ∃ q0, q0 = queuedS (S.ls.take k) := ⟨_, rfl⟩
      have hqm : q0 + ql ≤ 1000000000000 := by
        have hgen : ∀ (l : List Ln) (j : Nat), queuedS (l.take j) ≤ queuedS l := by
          intro l
          induction l with
          | nil => intro j; simp [queuedS]
          | cons a r ih =>
            intro j
            cases j with
            | zero => simp [queuedS]
            | succ j => simp only [List.take_succ_cons, queuedS]; have := ih j; omega
        have := hgen S.ls (k + 1)
        omega
      rw [← hql] at p0 hqt
      rw [← hq0] at x7 hqt
      have hwr : IntKind.i64.wrap ((q0 : Int) + (ql : Int)) = (q0 : Int) + (ql : Int) := by unfold IntKind.wrap; simp [IntKind.signed, IntKind.bits]; omega
      have HQT := hide hqt
      clear hl hfv hql hqt hq0
      go_wp2_with fail
      go_region
      all_goals
        have hput : Box (wr.setCell ⟨W1.heap.size, 7, none⟩ (.int .i64 ((q0 : Int) + (ql : Int)))).drew W1.heap.size [.slice oP N cP, .slice (some ⟨L.gs, 0, none⟩) N L.cs, .slice (some ⟨L.gw, 0, none⟩) N L.cw, .slice (some ⟨L.gc, 0, none⟩) N L.cc, .int .i64 (S.tk : Nat), .int .i64 (S.se : Nat), .int .i64 (nfl : Nat), .int .i64 (queuedS (S.ls.take (k + 1)) : Nat)] 28 := by
          rw [HQT.out]
          exact (HBX.out.put 7 (.int .i64 ((q0 : Int) + (ql : Int)))).draw
        have hbel : Below W1.heap.size W1 (wr.setCell ⟨W1.heap.size, 7, none⟩ (.int .i64 ((q0 : Int) + (ql : Int)))).drew := (HBB.out.setCell (Nat.le_refl _) _).drew
        have HPU := hide hput
        have HBE := hide hbel
        clear hput hbel
        go_wp2_with fail
        go_roundw
        case rel => exact ⟨k + 1, by omega, by go_num, HPU, HBE⟩
        case measure => simp [intOf]; omega
    · have hfull : S.ls.take k = S.ls := List.take_of_length_le (by rw [HH.out.nls]; have := HNN.out; omega)
      rw [hfull] at HBX
      obtain ⟨c0, _⟩ := HHr.out.cells
      have hP3 : SliceR prcR 3 G wr oP x.procs := HP.out.keep prcR_ok fun q hq hql => (HBB.out.block q (by have := hG q hq; omega)).trans (HBB1.out.block q hql)
      have HC := hide (copied_any x.procs oP cP _ wr hP3 (by rw [← HN.out]; exact hcP) HX.out.n.2 HX.out.proc)
      rw [← HN.out] at HC
      obtain ⟨qs, hqs⟩ : ∃ qs, qs = queuedS S.ls := ⟨_, rfl⟩
      have HQS := hide hqs
      rw [← hqs] at HBX
      clear hfull hP3 hqs d4
      go_wp2_with (go_at_call 123; refine HC.out.mono ?_; rintro e w3 ⟨oQ, cQ, rfl, hcQ, hsQ, hb3⟩; have hbx3 := HBX.out.below hb3; have x0 := hbx3.cell 0; have xf := hbx3.free 0; simp only [List.getElem?_cons_zero] at x0; have hput := hbx3.put 0 (.slice oQ N cQ); have hbel : Below W1.heap.size W1 (w3.setCell ⟨W1.heap.size, 0, none⟩ (.slice oQ N cQ)) := (HBB.out.trans (hb3.mono HBB.out.size)).setCell (Nat.le_refl _) _; have HSQ : Hid (SliceR prcR 3 (fun k => G k ∨ wr.heap.size ≤ k) w3 oQ x.procs) := hsQ; obtain ⟨W4, e4⟩ : ∃ W4, w3.setCell ⟨W1.heap.size, 0, none⟩ (.slice oQ N cQ) = W4 := ⟨_, rfl⟩; rw [e4] at hput hbel; have y0 := hput.cell 0; have y1 := hput.cell 1; have y2 := hput.cell 2; have y3 := hput.cell 3; have y4 := hput.cell 4; have y5 := hput.cell 5; have y6 := hput.cell 6; have y7 := hput.cell 7; simp only [List.set_cons_zero, List.getElem?_cons_zero, List.getElem?_cons_succ] at y0 y1 y2 y3 y4 y5 y6 y7; have hres := HBX1.out.below hbel; have r0 := hres.cell 0; have r1 := hres.cell 1; have r2 := hres.cell 2; have r3 := hres.cell 3; have r4 := hres.cell 4; have r5 := hres.cell 5; have r6 := hres.cell 6; have r7 := hres.cell 7; have rf := hres.free; simp only [List.getElem?_cons_zero, List.getElem?_cons_succ] at r0 r1 r2 r3 r4 r5 r6 r7; have HRS := hide hres; have HPU := hide hput; have HBE := hide hbel; clear hres hput hbel hb3 hsQ hbx3)
      have hfin := (((((((HRS.out.put 0 (.slice oQ N cQ)).put 1 (.slice (some ⟨L.gs, 0, none⟩) N L.cs)).put 2 (.slice (some ⟨L.gw, 0, none⟩) N L.cw)).put 3 (.slice (some ⟨L.gc, 0, none⟩) N L.cc)).put 4 (.int .i64 (S.tk : Nat))).put 5 (.int .i64 (S.se : Nat))).put 6 (.int .i64 (nfl : Nat))).put 7 (.int .i64 (qs : Nat))
      simp only [List.set_cons_zero, List.set_cons_succ] at hfin
      obtain ⟨W5, e5⟩ : ∃ W5, (((((((W4.setCell ⟨W.heap.size, 0, none⟩ (.slice oQ N cQ)).setCell ⟨W.heap.size, 1, none⟩ (.slice (some ⟨L.gs, 0, none⟩) N L.cs)).setCell ⟨W.heap.size, 2, none⟩ (.slice (some ⟨L.gw, 0, none⟩) N L.cw)).setCell ⟨W.heap.size, 3, none⟩ (.slice (some ⟨L.gc, 0, none⟩) N L.cc)).setCell ⟨W.heap.size, 4, none⟩ (.int .i64 (S.tk : Nat))).setCell ⟨W.heap.size, 5, none⟩ (.int .i64 (S.se : Nat))).setCell ⟨W.heap.size, 6, none⟩ (.int .i64 (nfl : Nat))).setCell ⟨W.heap.size, 7, none⟩ (.int .i64 (qs : Nat)) = W5 := ⟨_, rfl⟩
      have hk5 : ∀ k, k ≠ W.heap.size → W5.heap[k]? = W4.heap[k]? := fun k hk => by
        rw [← e5]
        rw [Below.heap_setCell _ _ _ k hk, Below.heap_setCell _ _ _ k hk, Below.heap_setCell _ _ _ k hk, Below.heap_setCell _ _ _ k hk, Below.heap_setCell _ _ _ k hk, Below.heap_setCell _ _ _ k hk, Below.heap_setCell _ _ _ k hk, Below.heap_setCell _ _ _ k hk]
      have hB5 : Below W.heap.size W W5 := by
        rw [← e5]
        exact ((((((((HBB1.out.trans (HBE.out.mono hs1)).setCell (Nat.le_refl _) _).setCell (Nat.le_refl _) _).setCell (Nat.le_refl _) _).setCell (Nat.le_refl _) _).setCell (Nat.le_refl _) _).setCell (Nat.le_refl _) _).setCell (Nat.le_refl _) _).setCell (Nat.le_refl _) _
      rw [e5] at hfin
      have hsz1 := HBB.out.size
      have hlt1 : W.heap.size < W1.heap.size := HBX1.out.lt
      have hlt2 : W1.heap.size < wr.heap.size := HBX.out.lt
      have hsQ5 : SliceR prcR 3 (fun k => G k ∨ W.heap.size ≤ k) W5 oQ x.procs := (HSQ.out.keep prcR_ok (w' := W5) fun k hk _ => by
        have hne1 : k ≠ W.heap.size := by
          rcases hk with hk | hk
          · have := hG k hk; omega
          · omega
        have hne2 : k ≠ W1.heap.size := by
          rcases hk with hk | hk
          · have := hG k hk; omega
          · omega
        rw [hk5 k hne1, ← e4, Below.heap_setCell _ _ _ k hne2]).wide prcR_ok (by decide) (fun k hk _ => hk.imp id fun h => by omega)
      rw [e5]
      refine bodyPost_ret (results_cell_row rfl _ _ W.heap.size 28 _ (0, 0) _ rfl hfin Try.underlying28 rfl (by kernel_rfl)) rfl ?_
      exact ⟨oQ, cQ, by rw [HQS.out], hcQ, hsQ5, hB5⟩
end

end Go.Proofs.Ytmjcjmljnliaoaa

set_option linter.unusedVariables false
set_option linter.unusedSimpArgs false
set_option linter.unnecessarySimpa false
namespace Go.Proofs.Ytmjcjmljnliaoaa
open Go.RowKit

/-- The machine behind some ticks. -/
def wireAt (x : Nwk) (fates : List Int) (t : Nat) : Wr := ticksS x.procs.length (nextP x.procs) (sentP x.procs) fates (beginS x.state x.waiting x.procs.length) t
theorem wireAt_tk (x : Nwk) (fates : List Int) (t : Nat) : (wireAt x fates t).tk = t := by
  unfold wireAt
  rw [ticksS_tk]
  simp [beginS]
theorem wireAt_inv {x : Nwk} (h : Right x) (fates : List Int) {t : Nat} (ht : t ≤ 4096) : WInv x.procs.length (lettersP x.procs) (statesP x.procs) 1000000000000 4000000 4000000 2000000 1000000 [] (wireAt x fates t) := by
  obtain ⟨n, hn⟩ : ∃ n, n = x.procs.length := ⟨_, rfl⟩
  have h1 := h.n.1
  have h12 := h.n.2
  have hb := h.begin_ (M := 1048576) (X := 1000000000000) (fun t ht k hk => (h.wb t ht k hk).2) (by omega)
  have hok := h.ok
  unfold wireAt
  rw [← hn] at h1 h12 hb hok ⊢
  have hnn : n * n ≤ 144 := Nat.le_trans (Nat.mul_le_mul h12 h12) (by omega)
  have e1 : t * (n * 16 + 2 * (n * n)) ≤ 4096 * 480 := Nat.mul_le_mul ht (by omega)
  have e2 : t * (6 * (n * n)) ≤ 4096 * 864 := Nat.mul_le_mul ht (by omega)
  have e3 : t * (3 * (n * n)) ≤ 4096 * 432 := Nat.mul_le_mul ht (by omega)
  have e4 : t * (n * (16 + 1)) ≤ 4096 * 204 := Nat.mul_le_mul ht (by omega)
  exact (hb.ticks hok fates (by omega) t (by omega)).mono (by omega) (by omega) (by omega) (by omega) (Int.le_refl _) (by omega)
theorem queuedS_le : ∀ (l : List Ln) (T : Nat), (∀ a ∈ l, a.q.length ≤ T) → queuedS l ≤ l.length * T
  | [], T, _ => by simp [queuedS]
  | a :: r, T, h => by
    have ih := queuedS_le r T fun b hb => h b (by simp [hb])
    have := h a (by simp)
    simp only [queuedS, List.length_cons, Nat.succ_mul]
    omega
theorem wireAt_queued {x : Nwk} (h : Right x) (fates : List Int) {t : Nat} (ht : t ≤ 4096) : queuedS (wireAt x fates t).ls ≤ 144000000 := by
  have hi := wireAt_inv h fates ht
  have h12 := h.n.2
  have h1 := queuedS_le (wireAt x fates t).ls 1000000 fun a ha => by
    obtain ⟨j, hj, rfl⟩ := List.mem_iff_getElem.1 ha
    have := (hi.lb j _ (List.getElem?_eq_getElem hj)).1
    unfold Ln.tot at this
    omega
  rw [hi.nls] at h1
  have hnn : x.procs.length * x.procs.length ≤ 144 := Nat.le_trans (Nat.mul_le_mul h12 h12) (by omega)
  have := Nat.mul_le_mul_right 1000000 hnn
  omega

/-- A snapshot in memory. -/
def SnapF (F : Foot) (w : World) (v : Value) (s : Snp) : Prop := ∃ oq cq os cs ow cw oc cc,
  v = .agg #[.slice oq s.net.procs.length cq, .slice os s.net.state.length cs, .slice ow s.net.waiting.length cw, .slice oc s.counts.length cc, .int .i64 s.ticks, .int .i64 s.sent, .int .i64 s.flying, .int .i64 s.queued] ∧
  s.net.procs.length ≤ cq ∧ s.net.state.length ≤ cs ∧ s.net.waiting.length ≤ cw ∧ s.counts.length ≤ cc ∧
  SliceR prcR 3 F w oq s.net.procs ∧ SliceR intR 1 F w os s.net.state ∧ SliceR (slcR intR 1) 1 F w ow s.net.waiting ∧ SliceR (slcR intR 1) 1 F w oc s.counts
abbrev SnapAt := SnapF All

section
variable {B N : Nat} {L : WLay} {oP : Option Addr} {cP : Nat} {oF : Option Addr} {nF cF : Nat} {S : Wr} {W W' : World}
theorem Wires.slices (h : Wires B N L oP cP oF nF cF S W) {wt ct : List (List Int)} (hc : Caps N wt ct L) (hwl : ∀ (i : Nat) (l l' : List Int), S.wt[i]? = some l → wt[i]? = some l' → l.length = l'.length) (hcl : ∀ (i : Nat) (l l' : List Int), S.ct[i]? = some l → ct[i]? = some l' → l.length = l'.length)
    (hnw : wt.length = N) (hnc : ct.length = N) (h1 : ∀ s ∈ S.st, I64 s) (h2 : ∀ l ∈ S.wt, l.length ≤ 9223372036854775807 ∧ ∀ k ∈ l, I64 k) (h3 : ∀ l ∈ S.ct, l.length ≤ 9223372036854775807 ∧ ∀ k ∈ l, I64 k) :
    SliceR intR 1 (fun k => B ≤ k) W (some ⟨L.gs, 0, none⟩) S.st ∧ SliceR (slcR intR 1) 1 (fun k => B ≤ k) W (some ⟨L.gw, 0, none⟩) S.wt ∧ SliceR (slcR intR 1) 1 (fun k => B ≤ k) W (some ⟨L.gc, 0, none⟩) S.ct := by
  refine ⟨h.sts.ints h1 h.low.2.1, fun i l hl => ?_, fun i l hl => ?_⟩
  · have hiN : i < N := by have := (List.getElem?_eq_some_iff.1 hl).1; have := h.nwt; omega
    have t0 := h.wtab.cell (i := i) (x := slV (L.bw i) l.length (L.kw i)) (by simp [hiN, hl])
    simp only [id_eq] at t0
    have hi2 := List.getElem?_eq_getElem (show i < wt.length by omega)
    refine ⟨L.gw, 0, [slV (L.bw i) l.length (L.kw i)], rfl, h.low.2.2.1, ⟨some ⟨L.bw i, 0, none⟩, L.kw i, rfl, ?_, (h2 l (List.mem_of_getElem? hl)).1, (h.wrow i l hl).ints (h2 l (List.mem_of_getElem? hl)).2 (h.lowi (.w i) _ hiN rfl)⟩, fun j u hu => ?_⟩
    · rw [hwl i l _ hl hi2]; exact hc.kw i _ hi2
    · have hj : j = 0 := by
        have := (List.getElem?_eq_some_iff.1 hu).1
        simp at this
        exact this
      subst hj
      simp at hu
      subst hu
      simpa using t0
  · have hiN : i < N := by have := (List.getElem?_eq_some_iff.1 hl).1; have := h.nct; omega
    have t0 := h.ctab.cell (i := i) (x := slV (L.bc i) l.length (L.kc i)) (by simp [hiN, hl])
    simp only [id_eq] at t0
    have hi2 := List.getElem?_eq_getElem (show i < ct.length by omega)
    refine ⟨L.gc, 0, [slV (L.bc i) l.length (L.kc i)], rfl, h.low.2.2.2.1, ⟨some ⟨L.bc i, 0, none⟩, L.kc i, rfl, ?_, (h3 l (List.mem_of_getElem? hl)).1, (h.crow i l hl).ints (h3 l (List.mem_of_getElem? hl)).2 (h.lowi (.c i) _ hiN rfl)⟩, fun j u hu => ?_⟩
    · rw [hcl i l _ hl hi2]; exact hc.kc i _ hi2
    · have hj : j = 0 := by
        have := (List.getElem?_eq_some_iff.1 hu).1
        simp at this
        exact this
      subst hj
      simp at hu
      subst hu
      simpa using t0
end

theorem wireAt_slices {x : Nwk} (hr : Right x) (fates : List Int) {t : Nat} (ht : t ≤ 4096) {B : Nat} {L : WLay} {oP : Option Addr} {cP : Nat} {oF : Option Addr} {nF cF : Nat} {W : World}
    (h : Wires B x.procs.length L oP cP oF nF cF (wireAt x fates t) W) (hc : Caps x.procs.length x.waiting (x.waiting.map fun l => List.replicate l.length 0) L) :
    SliceR intR 1 (fun k => B ≤ k) W (some ⟨L.gs, 0, none⟩) (wireAt x fates t).st ∧ SliceR (slcR intR 1) 1 (fun k => B ≤ k) W (some ⟨L.gw, 0, none⟩) (wireAt x fates t).wt ∧ SliceR (slcR intR 1) 1 (fun k => B ≤ k) W (some ⟨L.gc, 0, none⟩) (wireAt x fates t).ct := by
  have hi := wireAt_inv hr fates ht
  have hlen : ∀ (i : Nat) (l : List Int), x.waiting[i]? = some l → l.length = lettersP x.procs i := fun i l hl => by
    have hip : i < x.procs.length := by have := (List.getElem?_eq_some_iff.1 hl).1; have := hr.nwt; omega
    have hpr := List.getElem?_eq_getElem hip
    have := hr.wl i l _ hl hpr
    unfold lettersP
    rw [getD_some hpr]
    omega
  have hlet : ∀ (i : Nat), i < x.procs.length → lettersP x.procs i ≤ 8 := fun i hi => (hr.letters i hi).2
  refine h.slices hc (fun i l l' hl hl' => by rw [hi.wl i l hl, hlen i l' hl']) (fun i l l' hl hl' => ?_) hr.nwt (by rw [List.length_map]; exact hr.nwt) (fun s hs => ?_) (fun l hl => ?_) (fun l hl => ?_)
  · rw [List.getElem?_map, Option.map_eq_some_iff] at hl'
    obtain ⟨l2, h2, rfl⟩ := hl'
    rw [hi.cl i l hl, List.length_replicate, hlen i l2 h2]
  · obtain ⟨i, hil, rfl⟩ := List.mem_iff_getElem.1 hs
    have h1 := hi.st i _ (List.getElem?_eq_getElem hil)
    have hip : i < x.procs.length := by rw [← hi.nst]; exact hil
    have hz := check_zero (hr.proc i _ (List.getElem?_eq_getElem hip))
    unfold statesP at h1
    rw [getD_some (List.getElem?_eq_getElem hip)] at h1
    exact i64_of (by omega) (by omega)
  · obtain ⟨i, hil, rfl⟩ := List.mem_iff_getElem.1 hl
    have hip : i < x.procs.length := by rw [← hi.nwt]; exact hil
    refine ⟨by rw [hi.wl i _ (List.getElem?_eq_getElem hil)]; have := hlet i hip; omega, fun k hk => ?_⟩
    obtain ⟨j, hj, rfl⟩ := List.mem_iff_getElem.1 hk
    have := hi.wb i _ (List.getElem?_eq_getElem hil) j _ (List.getElem?_eq_getElem hj)
    have h2 := Lc_nonneg ([] ++ (wireAt x fates t).fl)
    exact i64_of (by omega) (by omega)
  · obtain ⟨i, hil, rfl⟩ := List.mem_iff_getElem.1 hl
    have hip : i < x.procs.length := by rw [← hi.nct]; exact hil
    refine ⟨by rw [hi.cl i _ (List.getElem?_eq_getElem hil)]; have := hlet i hip; omega, fun k hk => ?_⟩
    obtain ⟨j, hj, rfl⟩ := List.mem_iff_getElem.1 hk
    have := hi.cb i _ (List.getElem?_eq_getElem hil) j _ (List.getElem?_eq_getElem hj)
    exact i64_of (by omega) (by omega)

theorem results_cell_tmp_row {P : Program} {fn : Func} {p u : Tmp} {ty : TypeId} (h : fn.results = #[.cell p ty, .tmp u]) (tmps : Array Value) (w : World) (g : Nat) (t : TypeId) (cs : Array Value) (fr : Nat × Nat) (d : TypeDesc)
    (hp : tmps.getD p undef = .pointer (some ⟨g, 0, none⟩)) (hg : w.heap[g]? = some (.cells cs t fr))
    (hu : P.underlying ty = some d) (hd : (match d with | .struct _ | .array _ _ => true | _ => false) = true) (hi : (P.info? ty).map (·.size) = some cs.size) :
    (results fn tmps).run P w = .ok (.tuple #[.agg cs, tmps.getD u undef]) w := by
  have hp' : tmps[p]?.getD undef = .pointer (some ⟨g, 0, none⟩) := by simpa using hp
  rw [results_cell_tmp h]
  simp [hp', asAddr, Result.andThen, run_loadVar_row w g t ty cs fr d hg hu hd hi]
theorem wireAt_succ (x : Nwk) (fates : List Int) (t : Nat) : wireAt x fates (t + 1) = tickS x.procs.length (nextP x.procs) (sentP x.procs) fates (wireAt x fates t) := rfl
def snp0 : Snp := ⟨⟨[], [], []⟩, [], 0, 0, 0, 0⟩
def RunPost (F : Foot) (x : Nwk) (fates : List Int) (w : World) (v : Value) (c : Int) : Option Nat → Prop
  | some T => c = 0 ∧ SnapF F w v (seenS x.procs (wireAt x fates T))
  | none => c = 12 ∧ SnapF F w v snp0

set_option maxRecDepth 100000 in
set_option maxHeartbeats 4000000 in
theorem after_any (x : Nwk) (op : Option Addr) (cp : Nat) (os : Option Addr) (cs : Nat) (ow : Option Addr) (cw : Nat) (fates : List Int) (oF : Option Addr) (cF : Nat) (ticks : Nat) (F G : Foot) (w : World)
    (hp : SliceR prcR 3 F w op x.procs) (hs : SliceR intR 1 F w os x.state) (ht : SliceR (slcR intR 1) 1 F w ow x.waiting) (hz : netErr x = 0) (hF : SliceR intR 1 G w oF fates) (hfz : fateErr fates = 0) (hpc : x.procs.length ≤ cp) (hsc : x.state.length ≤ cs) (ht1 : ticks ≤ 4096)
    (hlg : ∀ t, t ≤ ticks → (wireAt x fates t).lg = false) :
    Calls Try.prog 24 #[.agg #[.slice op x.procs.length cp, .slice os x.state.length cs, .slice ow x.waiting.length cw], .slice oF fates.length cF, .int .i64 ticks] w fun e w' =>
      ∃ v, e = .returned (.tuple #[v, .int .i64 0]) ∧ SnapF (fun k => F k ∨ w.heap.size ≤ k) w' v (seenS x.procs (wireAt x fates ticks)) ∧ Below w.heap.size w w' := by
  have hr := netErr_zero hz
  have hfl : fates.length ≤ 4096 := by
    unfold fateErr at hfz
    split at hfz
    · cases hfz
    · omega
  obtain ⟨n, hn⟩ : ∃ n, n = x.procs.length := ⟨_, rfl⟩
  have hsn : x.state.length = n := by rw [hn]; exact hr.nst
  have htn : x.waiting.length = n := by rw [hn]; exact hr.nwt
  obtain ⟨W1, e1⟩ : ∃ W1, w.alloc (.cells #[.slice op n cp, .slice os n cs, .slice ow n cw] 26) = W1 := ⟨_, rfl⟩
  have bx1 : Box W1 w.heap.size [.slice op n cp, .slice os n cs, .slice ow n cw] 26 := by rw [← e1]; exact Box.new w [.slice op n cp, .slice os n cs, .slice ow n cw] 26
  have bb1 := bnew (Below.refl w.heap.size w) (.cells #[.slice op n cp, .slice os n cs, .slice ow n cw] 26)
  rw [e1] at bb1
  obtain ⟨W2, e2⟩ : ∃ W2, W1.alloc (.cells #[.slice none 0 0, .slice none 0 0, .slice none 0 0, .slice none 0 0, .int .i64 0, .int .i64 0, .int .i64 0, .int .i64 0] 28) = W2 := ⟨_, rfl⟩
  have bx2 : Box W2 W1.heap.size [.slice none 0 0, .slice none 0 0, .slice none 0 0, .slice none 0 0, .int .i64 0, .int .i64 0, .int .i64 0, .int .i64 0] 28 := by rw [← e2]; exact Box.new W1 [.slice none 0 0, .slice none 0 0, .slice none 0 0, .slice none 0 0, .int .i64 0, .int .i64 0, .int .i64 0, .int .i64 0] 28
  have bb2 := bnew (Below.refl W1.heap.size W1) (.cells #[.slice none 0 0, .slice none 0 0, .slice none 0 0, .slice none 0 0, .int .i64 0, .int .i64 0, .int .i64 0, .int .i64 0] 28)
  rw [e2] at bb2
  have hbB := bb1.trans (bb2.mono bb1.size)
  have x0 := (bx1.below bb2).cell 0
  have x1 := (bx1.below bb2).cell 1
  have x2 := (bx1.below bb2).cell 2
  simp only [List.getElem?_cons_zero, List.getElem?_cons_succ] at x0 x1 x2
  have hcall := begun_any x op cp os cs ow cw fates oF cF ticks F G W2 (hp.below prcR_ok hbB) (hs.below intR_ok hbB) (ht.below (slcR_ok intR_ok (by decide)) hbB) hz (hF.below intR_ok hbB) hfz hsc (by omega) (by omega)
  have HPB : Hid (SliceR prcR 3 (fun k => F k ∧ k < w.heap.size) W2 op x.procs) := (hp.wide prcR_ok (by decide) (fun _ h1 h => ⟨h1, h⟩)).keep prcR_ok (fun q hq hql => hbB.block q hql)
  have HFB : Hid (SliceR intR 1 (Lt W2.heap.size) W2 oF fates) := (hF.below intR_ok hbB).wide intR_ok (by decide) (fun _ _ h => h)
  rw [hsn, htn] at hcall
  rw [hsn, htn]
  rw [← hn] at hcall hpc ⊢
  obtain ⟨nF, hnF⟩ : ∃ nF, nF = fates.length := ⟨_, rfl⟩
  rw [← hnF] at hcall hfl ⊢
  have HC := hide hcall
  have HN := hide hn
  have HNF := hide hnF
  have HR := hide hr
  have HBX2 := hide bx2
  have HBB := hide hbB
  have HLG := hide hlg
  have HSN := hide hsn
  have HTN := hide htn
  have hlt1 : W1.heap.size < W2.heap.size := bx2.lt
  have hlw : w.heap.size ≤ W1.heap.size := bb1.size
  clear hcall hp hs ht hz hF hfz hsc hr hn hsn htn hnF bx1 bx2 bb1 bb2 hbB hlg
  go_enter Try.func24, Try.ntmps24
  go_wp2_with (go_at_call 69; refine HC.out.mono ?_; rintro e w3 ⟨L0, rfl, hW3, hC3, hB3⟩; have HW3 := hide hW3; have HC3 := hide hC3; have HB3 := hide hB3; clear hW3 hC3 hB3)
  go_loopw [22] (fun iv wr => ∃ (t : Nat) (L : WLay), t ≤ ticks ∧ iv = .int .i64 t ∧ Hid (Wires W2.heap.size n L op cp oF nF cF (wireAt x fates t) wr) ∧ Hid (Went n L0 w3 L wr)) (fun iv _ => ticks - (intOf iv).toNat)
  case atStart => exact ⟨0, L0, by omega, rfl, by show Wires _ _ _ _ _ _ _ _ _ _; unfold wireAt; rw [← HN.out]; exact HW3.out, Went.refl _ _ _⟩
  case round =>
    obtain ⟨t, L, htk, rfl, HW, HG⟩ := hrel
    have HBW : Hid (Below W2.heap.size W2 wr) := HB3.out.trans (HW3.out.went_below HG.out HB3.out.size)
    by_cases hlt : t < ticks
    · have hPr : SliceR prcR 3 (Lt W2.heap.size) wr op x.procs := (HPB.out.keep prcR_ok fun q hq hql => HBW.out.block q hql).wide prcR_ok (by decide) (fun k hk _ => Nat.lt_of_lt_of_le hk.2 (by omega))
      have hFr : SliceR intR 1 (Lt W2.heap.size) wr oF fates := HFB.out.keep intR_ok fun q hq hql => HBW.out.block q hq
      have hn12 : n ≤ 12 := by have := HR.out.n.2; have := HN.out; omega
      have hnn : n * n ≤ 144 := Nat.le_trans (Nat.mul_le_mul hn12 hn12) (by omega)
      have hinv := wireAt_inv HR.out fates (t := t) (by omega)
      rw [← HN.out] at hinv
      have hcall := tick_any HW.out HR.out HN.out hinv hPr HBW.out.size fates HNF.out hFr (by have := HNF.out; omega) (by omega) (by omega) (by omega) (by omega) (by omega) (by rw [wireAt_tk]; omega)
      rw [HG.out.p] at hcall
      have HCT := hide hcall
      have hst : wireAt x fates (t + 1) = tickS n (nextP x.procs) (sentP x.procs) fates (wireAt x fates t) := by rw [HN.out]; rfl
      rw [← hst] at HCT
      have HL1 : Hid ((wireAt x fates (t + 1)).lg = false) := HLG.out (t + 1) (by omega)
      clear hPr hFr hinv hcall hst
      go_wp2_with (go_at_call 71; refine HCT.out.mono ?_; rintro e w4 ⟨rfl, L4, h4, g4⟩; have c9 := h4.cells.2.2.2.2.2.2.2.2.2; rw [g4.p, HG.out.p, HL1.out] at c9; have HW4 := hide h4; have HG4 := hide (HG.out.trans g4); clear h4 g4)
      go_roundw
      case rel => exact ⟨t + 1, L4, by omega, by go_num, HW4, HG4⟩
      case measure => simp [intOf]; omega
    · have hte : t = ticks := by omega
      subst hte
      have hPr : SliceR prcR 3 (fun k => F k ∧ k < w.heap.size) wr op x.procs := HPB.out.keep prcR_ok fun q hq hql => HBW.out.block q hql
      have hcall := seen_any HW.out HR.out HN.out hPr (fun k hk => Nat.lt_of_lt_of_le hk.2 (by omega)) hpc (by have := wireAt_queued HR.out fates (t := t) (by omega); omega) HBW.out.size
      rw [HG.out.p] at hcall
      have hres := HBX2.out.keep (HBW.out.block _ hlt1)
      have HRES := hide hres
      obtain ⟨S, hS⟩ : ∃ S, S = wireAt x fates t := ⟨_, rfl⟩
      rw [← hS] at hcall HW
      have HSE := hide hS
      unfold slV at hcall
      obtain ⟨tkn, htkn⟩ : ∃ m, m = S.tk := ⟨_, rfl⟩
      obtain ⟨sen, hsen⟩ : ∃ m, m = S.se := ⟨_, rfl⟩
      obtain ⟨fln, hfln⟩ : ∃ m, m = S.fl.length := ⟨_, rfl⟩
      obtain ⟨qun, hqun⟩ : ∃ m, m = queuedS S.ls := ⟨_, rfl⟩
      rw [← htkn, ← hsen, ← hfln, ← hqun] at hcall
      have HCS := hide hcall
      have H4 := hide (And.intro htkn (And.intro hsen (And.intro hfln hqun)))
      clear hPr hcall hres hS htkn hsen hfln hqun
      go_wp2_with (go_at_call 72; refine HCS.out.mono ?_; rintro e w4 ⟨oQ, cQ, rfl, hcQ, hsQ, hb4⟩; have hres := HRES.out.below hb4; have r0 := hres.cell 0; have r1 := hres.cell 1; have r2 := hres.cell 2; have r3 := hres.cell 3; have r4 := hres.cell 4; have r5 := hres.cell 5; have r6 := hres.cell 6; have r7 := hres.cell 7; have rf := hres.free; simp only [List.getElem?_cons_zero, List.getElem?_cons_succ] at r0 r1 r2 r3 r4 r5 r6 r7; have HRS := hide hres; have HSQ := hide hsQ; have HB4 := hide hb4; clear hres hsQ hb4)
      have hfin := (((((((HRS.out.put 0 (.slice oQ n cQ)).put 1 (.slice (some ⟨L.gs, 0, none⟩) n L.cs)).put 2 (.slice (some ⟨L.gw, 0, none⟩) n L.cw)).put 3 (.slice (some ⟨L.gc, 0, none⟩) n L.cc)).put 4 (.int .i64 (tkn : Nat))).put 5 (.int .i64 (sen : Nat))).put 6 (.int .i64 (fln : Nat))).put 7 (.int .i64 (qun : Nat))
      simp only [List.set_cons_zero, List.set_cons_succ] at hfin
      obtain ⟨W5, e5⟩ : ∃ W5, (((((((w4.setCell ⟨W1.heap.size, 0, none⟩ (.slice oQ n cQ)).setCell ⟨W1.heap.size, 1, none⟩ (.slice (some ⟨L.gs, 0, none⟩) n L.cs)).setCell ⟨W1.heap.size, 2, none⟩ (.slice (some ⟨L.gw, 0, none⟩) n L.cw)).setCell ⟨W1.heap.size, 3, none⟩ (.slice (some ⟨L.gc, 0, none⟩) n L.cc)).setCell ⟨W1.heap.size, 4, none⟩ (.int .i64 (tkn : Nat))).setCell ⟨W1.heap.size, 5, none⟩ (.int .i64 (sen : Nat))).setCell ⟨W1.heap.size, 6, none⟩ (.int .i64 (fln : Nat))).setCell ⟨W1.heap.size, 7, none⟩ (.int .i64 (qun : Nat)) = W5 := ⟨_, rfl⟩
      rw [e5] at hfin
      have hk5 : ∀ k, k ≠ W1.heap.size → W5.heap[k]? = w4.heap[k]? := fun k hk => by
        rw [← e5]
        rw [Below.heap_setCell _ _ _ k hk, Below.heap_setCell _ _ _ k hk, Below.heap_setCell _ _ _ k hk, Below.heap_setCell _ _ _ k hk, Below.heap_setCell _ _ _ k hk, Below.heap_setCell _ _ _ k hk, Below.heap_setCell _ _ _ k hk, Below.heap_setCell _ _ _ k hk]
      have hszw := HBW.out.size
      have hB4 : Below w.heap.size w w4 := (HBB.out.trans (HBW.out.mono (by omega))).trans (HB4.out.mono (by omega))
      have hB5 : Below w.heap.size w W5 := by
        rw [← e5]
        exact (((((((hB4.setCell hlw _).setCell hlw _).setCell hlw _).setCell hlw _).setCell hlw _).setCell hlw _).setCell hlw _).setCell hlw _
      have hsQ5 : SliceR prcR 3 (fun k => F k ∨ w.heap.size ≤ k) W5 oQ x.procs := (HSQ.out.keep prcR_ok (w' := W5) fun k hk _ => hk5 k (by
        rcases hk with hk | hk
        · have : k < w.heap.size := hk.2; omega
        · omega)).wide prcR_ok (by decide) (fun k hk _ => hk.elim (fun h => .inl h.1) fun h => .inr (Nat.le_trans (by omega) h))
      have hcaps : Caps n x.waiting (x.waiting.map fun l => List.replicate l.length 0) L := by
        obtain ⟨a, b, e⟩ := HG.out.fix
        rw [e]
        exact ⟨HC3.out.cs, HC3.out.cw, HC3.out.cc, HC3.out.kw, HC3.out.kc⟩
      have hW := HW.out
      rw [HSE.out, HN.out] at hW
      rw [HN.out] at hcaps
      obtain ⟨s1, s2, s3⟩ := wireAt_slices HR.out fates (t := t) (by omega) hW hcaps
      have hfix : ∀ k, W2.heap.size ≤ k → k < wr.heap.size → W5.heap[k]? = wr.heap[k]? := fun k hk hkl => (hk5 k (by omega)).trans (HB4.out.block k hkl)
      have t1 := (s1.keep intR_ok (w' := W5) fun k hk hkl => hfix k hk hkl).wide intR_ok (by decide) (F' := fun k => F k ∨ w.heap.size ≤ k) (fun k hk _ => .inr (Nat.le_trans (by omega) hk))
      have t2 := (s2.keep (slcR_ok intR_ok (by decide)) (w' := W5) fun k hk hkl => hfix k hk hkl).wide (slcR_ok intR_ok (by decide)) (by decide) (F' := fun k => F k ∨ w.heap.size ≤ k) (fun k hk _ => .inr (Nat.le_trans (by omega) hk))
      have t3 := (s3.keep (slcR_ok intR_ok (by decide)) (w' := W5) fun k hk hkl => hfix k hk hkl).wide (slcR_ok intR_ok (by decide)) (by decide) (F' := fun k => F k ∨ w.heap.size ≤ k) (fun k hk _ => .inr (Nat.le_trans (by omega) hk))
      have hinv := wireAt_inv HR.out fates (t := t) (by omega)
      obtain ⟨g1, g2, g3, g4⟩ := H4.out
      rw [e5]
      refine bodyPost_ret (results_cell_tmp_row rfl _ _ W1.heap.size 28 _ (0, 0) _ rfl hfin Try.underlying28 rfl (by kernel_rfl)) rfl ?_
      refine ⟨_, rfl, ⟨oQ, cQ, some ⟨L.gs, 0, none⟩, L.cs, some ⟨L.gw, 0, none⟩, L.cw, some ⟨L.gc, 0, none⟩, L.cc, ?_, ?_, ?_, ?_, ?_, hsQ5, t1, t2, t3⟩, hB5⟩
      · unfold seenS
        simp only
        rw [hinv.nst, hinv.nwt, hinv.nct, ← HN.out, ← HSE.out, g1, g2, g3, g4]
      · unfold seenS; simp only; rw [← HN.out]; exact hcQ
      · unfold seenS; simp only; rw [hinv.nst]; exact hcaps.cs
      · unfold seenS; simp only; rw [hinv.nwt]; exact hcaps.cw
      · unfold seenS; simp only; rw [hinv.nct]; exact hcaps.cc

set_option maxRecDepth 100000 in
set_option maxHeartbeats 4000000 in
theorem run_any (x : Nwk) (op : Option Addr) (cp : Nat) (os : Option Addr) (cs : Nat) (ow : Option Addr) (cw : Nat) (fates : List Int) (oF : Option Addr) (cF : Nat) (limit : Nat) (F G : Foot) (w : World)
    (hp : SliceR prcR 3 F w op x.procs) (hs : SliceR intR 1 F w os x.state) (ht : SliceR (slcR intR 1) 1 F w ow x.waiting) (hz : netErr x = 0) (hF : SliceR intR 1 G w oF fates) (hfz : fateErr fates = 0) (hpc : x.procs.length ≤ cp) (hsc : x.state.length ≤ cs) (ht1 : limit ≤ 4096)
    (hlg : ∀ t, t ≤ limit → (wireAt x fates t).lg = false) :
    Calls Try.prog 23 #[.agg #[.slice op x.procs.length cp, .slice os x.state.length cs, .slice ow x.waiting.length cw], .slice oF fates.length cF, .int .i64 limit] w fun e w' =>
      ∃ v c, e = .returned (.tuple #[v, .int .i64 c]) ∧ RunPost (fun k => F k ∨ w.heap.size ≤ k) x fates w' v c (quietAt x.procs.length (nextP x.procs) (sentP x.procs) fates (beginS x.state x.waiting x.procs.length) limit) ∧ Below w.heap.size w w' := by
  obtain ⟨qa, hqa⟩ : ∃ qa, qa = quietAt x.procs.length (nextP x.procs) (sentP x.procs) fates (beginS x.state x.waiting x.procs.length) limit := ⟨_, rfl⟩
  have HQA := hide hqa
  rw [← hqa]
  clear hqa
  have hr := netErr_zero hz
  have hfl : fates.length ≤ 4096 := by
    unfold fateErr at hfz
    split at hfz
    · cases hfz
    · omega
  obtain ⟨n, hn⟩ : ∃ n, n = x.procs.length := ⟨_, rfl⟩
  have hsn : x.state.length = n := by rw [hn]; exact hr.nst
  have htn : x.waiting.length = n := by rw [hn]; exact hr.nwt
  obtain ⟨W1, e1⟩ : ∃ W1, w.alloc (.cells #[.slice op n cp, .slice os n cs, .slice ow n cw] 26) = W1 := ⟨_, rfl⟩
  have bx1 : Box W1 w.heap.size [.slice op n cp, .slice os n cs, .slice ow n cw] 26 := by rw [← e1]; exact Box.new w [.slice op n cp, .slice os n cs, .slice ow n cw] 26
  have bb1 := bnew (Below.refl w.heap.size w) (.cells #[.slice op n cp, .slice os n cs, .slice ow n cw] 26)
  rw [e1] at bb1
  obtain ⟨W2, e2⟩ : ∃ W2, W1.alloc (.cells #[.slice none 0 0, .slice none 0 0, .slice none 0 0, .slice none 0 0, .int .i64 0, .int .i64 0, .int .i64 0, .int .i64 0] 28) = W2 := ⟨_, rfl⟩
  have bx2 : Box W2 W1.heap.size [.slice none 0 0, .slice none 0 0, .slice none 0 0, .slice none 0 0, .int .i64 0, .int .i64 0, .int .i64 0, .int .i64 0] 28 := by rw [← e2]; exact Box.new W1 [.slice none 0 0, .slice none 0 0, .slice none 0 0, .slice none 0 0, .int .i64 0, .int .i64 0, .int .i64 0, .int .i64 0] 28
  have bb2 := bnew (Below.refl W1.heap.size W1) (.cells #[.slice none 0 0, .slice none 0 0, .slice none 0 0, .slice none 0 0, .int .i64 0, .int .i64 0, .int .i64 0, .int .i64 0] 28)
  rw [e2] at bb2
  have hbB := bb1.trans (bb2.mono bb1.size)
  have x0 := (bx1.below bb2).cell 0
  have x1 := (bx1.below bb2).cell 1
  have x2 := (bx1.below bb2).cell 2
  simp only [List.getElem?_cons_zero, List.getElem?_cons_succ] at x0 x1 x2
  have hcall := begun_any x op cp os cs ow cw fates oF cF limit F G W2 (hp.below prcR_ok hbB) (hs.below intR_ok hbB) (ht.below (slcR_ok intR_ok (by decide)) hbB) hz (hF.below intR_ok hbB) hfz hsc (by omega) (by omega)
  have HPB : Hid (SliceR prcR 3 (fun k => F k ∧ k < w.heap.size) W2 op x.procs) := (hp.wide prcR_ok (by decide) (fun _ h1 h => ⟨h1, h⟩)).keep prcR_ok (fun q hq hql => hbB.block q hql)
  have HFB : Hid (SliceR intR 1 (Lt W2.heap.size) W2 oF fates) := (hF.below intR_ok hbB).wide intR_ok (by decide) (fun _ _ h => h)
  rw [hsn, htn] at hcall
  rw [hsn, htn]
  rw [← hn] at hcall hpc ⊢
  obtain ⟨nF, hnF⟩ : ∃ nF, nF = fates.length := ⟨_, rfl⟩
  rw [← hnF] at hcall hfl ⊢
  have HC := hide hcall
  have HN := hide hn
  have HNF := hide hnF
  have HR := hide hr
  have HBX2 := hide bx2
  have HBB := hide hbB
  have HLG := hide hlg
  have HSN := hide hsn
  have HTN := hide htn
  have hlt1 : W1.heap.size < W2.heap.size := bx2.lt
  have hlw : w.heap.size ≤ W1.heap.size := bb1.size
  clear hcall hp hs ht hz hF hfz hsc hr hn hsn htn hnF bx1 bx2 bb1 bb2 hbB hlg
  go_enter Try.func23, Try.ntmps23
  go_wp2_with (go_at_call 69; refine HC.out.mono ?_; rintro e w3 ⟨L0, rfl, hW3, hC3, hB3⟩; have HW3 := hide hW3; have HC3 := hide hC3; have HB3 := hide hB3; clear hW3 hC3 hB3)
  go_loopg [] limit (fun k wr => ∃ (t : Nat) (L : WLay), t ≤ limit ∧ k = limit - t ∧ Hid (Wires W2.heap.size n L op cp oF nF cF (wireAt x fates t) wr) ∧ Hid (Went n L0 w3 L wr) ∧ Hid (∀ j, j < t → busyS (wireAt x fates j) = true))
  case atStart => exact ⟨0, L0, by omega, by omega, by show Wires _ _ _ _ _ _ _ _ _ _; unfold wireAt; rw [← HN.out]; exact HW3.out, Went.refl _ _ _, fun j hj => absurd hj (Nat.not_lt_zero j)⟩
  case round =>
    obtain ⟨t, L, htk, hkt, HW, HG, HBU⟩ := hrel
    have HBW : Hid (Below W2.heap.size W2 wr) := HB3.out.trans (HW3.out.went_below HG.out HB3.out.size)
    have hinv := wireAt_inv HR.out fates (t := t) (by omega)
    have HIV := hide hinv
    have HNL : Hid (∀ (p : Nat) (row : List Int), (wireAt x fates t).wt[p]? = some row → row.length ≤ 9223372036854775807 ∧ ∀ y ∈ row, I64 y) := fun p row hrw => by
      have hpn : p < x.procs.length := by have := (List.getElem?_eq_some_iff.1 hrw).1; have := HIV.out.nwt; omega
      refine ⟨by rw [HIV.out.wl p row hrw]; have := (HR.out.letters p hpn).2; omega, fun y hy => ?_⟩
      obtain ⟨j, hj, rfl⟩ := List.mem_iff_getElem.1 hy
      have h1 := HIV.out.wb p row hrw j _ (List.getElem?_eq_getElem hj)
      have h2 := Lc_nonneg ([] ++ (wireAt x fates t).fl)
      exact i64_of (by omega) (by omega)
    have hn12 : n ≤ 12 := by have := HR.out.n.2; have := HN.out; omega
    have hbcall := busy_any HW.out hn12 HNL.out
    rw [HG.out.p] at hbcall
    have d7 := HW.out.cells.2.2.2.2.2.2.2.1
    rw [HG.out.p, wireAt_tk] at d7
    obtain ⟨bu, hbu⟩ : ∃ b, b = busyS (wireAt x fates t) := ⟨_, rfl⟩
    rw [← hbu] at hbcall
    have HBC := hide hbcall
    have HBE := hide hbu
    clear hinv hbcall hbu
    cases bu
    case true =>
      by_cases hlt : t < limit
      · have hPr : SliceR prcR 3 (Lt W2.heap.size) wr op x.procs := (HPB.out.keep prcR_ok fun q hq hql => HBW.out.block q hql).wide prcR_ok (by decide) (fun k hk _ => Nat.lt_of_lt_of_le hk.2 (by omega))
        have hFr : SliceR intR 1 (Lt W2.heap.size) wr oF fates := HFB.out.keep intR_ok fun q hq hql => HBW.out.block q hq
        have hn12 : n ≤ 12 := by have := HR.out.n.2; have := HN.out; omega
        have hnn : n * n ≤ 144 := Nat.le_trans (Nat.mul_le_mul hn12 hn12) (by omega)
        have hinv := wireAt_inv HR.out fates (t := t) (by omega)
        rw [← HN.out] at hinv
        have hcall := tick_any HW.out HR.out HN.out hinv hPr HBW.out.size fates HNF.out hFr (by have := HNF.out; omega) (by omega) (by omega) (by omega) (by omega) (by omega) (by rw [wireAt_tk]; omega)
        rw [HG.out.p] at hcall
        have HCT := hide hcall
        have hst : wireAt x fates (t + 1) = tickS n (nextP x.procs) (sentP x.procs) fates (wireAt x fates t) := by rw [HN.out]; rfl
        rw [← hst] at HCT
        have HL1 : Hid ((wireAt x fates (t + 1)).lg = false) := HLG.out (t + 1) (by omega)
        have q1 : (((t : Nat) : Int) == ((limit : Nat) : Int)) = false := by simp; omega
        have HKT := hide hkt
        clear hPr hFr hinv hcall hst hkt
        go_wp2_with (first | (go_at_call 70; refine HBC.out.mono ?_; rintro e w4' ⟨rfl, rfl⟩) | (go_at_call 71; refine HCT.out.mono ?_; rintro e w4 ⟨rfl, L4, h4, g4⟩; have c9 := h4.cells.2.2.2.2.2.2.2.2.2; rw [g4.p, HG.out.p, HL1.out] at c9; have HW4 := hide h4; have HG4 := hide (HG.out.trans g4); clear h4 g4))
        go_roundg (limit - (t + 1))
        case measure => have := HKT.out; omega
        case rel => exact ⟨t + 1, L4, by omega, rfl, HW4, HG4, fun j hj => by
          rcases Nat.lt_or_ge j t with h | h
          · exact HBU.out j h
          · rw [show j = t by omega]; exact HBE.out.symm⟩
      · have hte : t = limit := by omega
        subst hte
        have HQN : Hid (qa = none) := by
          show _ = _
          rw [HQA.out]
          exact quietAt_none fun j hj => by
            rcases Nat.lt_or_ge j t with h | h
            · exact HBU.out j h
            · rw [show j = t by omega]; exact HBE.out.symm
        have hres := HBX2.out.keep (HBW.out.block _ hlt1)
        have r0 := hres.cell 0
        have r1 := hres.cell 1
        have r2 := hres.cell 2
        have r3 := hres.cell 3
        have r4 := hres.cell 4
        have r5 := hres.cell 5
        have r6 := hres.cell 6
        have r7 := hres.cell 7
        have rf := hres.free
        simp only [List.getElem?_cons_zero, List.getElem?_cons_succ] at r0 r1 r2 r3 r4 r5 r6 r7
        have HRS := hide hres
        have q1 : (((t : Nat) : Int) == ((t : Nat) : Int)) = true := by simp
        clear hres hkt
        go_wp2_with (go_at_call 70; refine HBC.out.mono ?_; rintro e w4' ⟨rfl, rfl⟩)
        have hfin := (((((((HRS.out.put 0 (.slice none 0 0)).put 1 (.slice none 0 0)).put 2 (.slice none 0 0)).put 3 (.slice none 0 0)).put 4 (.int .i64 0)).put 5 (.int .i64 0)).put 6 (.int .i64 0)).put 7 (.int .i64 0)
        simp only [List.set_cons_zero, List.set_cons_succ] at hfin
        obtain ⟨W5, e5⟩ : ∃ W5, (((((((wr.setCell ⟨W1.heap.size, 0, none⟩ (.slice none 0 0)).setCell ⟨W1.heap.size, 1, none⟩ (.slice none 0 0)).setCell ⟨W1.heap.size, 2, none⟩ (.slice none 0 0)).setCell ⟨W1.heap.size, 3, none⟩ (.slice none 0 0)).setCell ⟨W1.heap.size, 4, none⟩ (.int .i64 0)).setCell ⟨W1.heap.size, 5, none⟩ (.int .i64 0)).setCell ⟨W1.heap.size, 6, none⟩ (.int .i64 0)).setCell ⟨W1.heap.size, 7, none⟩ (.int .i64 0) = W5 := ⟨_, rfl⟩
        rw [e5] at hfin
        have hB4 : Below w.heap.size w wr := HBB.out.trans (HBW.out.mono (by omega))
        have hB5 : Below w.heap.size w W5 := by
          rw [← e5]
          exact (((((((hB4.setCell hlw _).setCell hlw _).setCell hlw _).setCell hlw _).setCell hlw _).setCell hlw _).setCell hlw _).setCell hlw _
        rw [e5]
        refine bodyPost_ret (results_cell_tmp_row rfl _ _ W1.heap.size 28 _ (0, 0) _ rfl hfin Try.underlying28 rfl (by kernel_rfl)) rfl ?_
        refine ⟨_, 12, rfl, ?_, hB5⟩
        rw [HQN.out]
        exact ⟨rfl, none, 0, none, 0, none, 0, none, 0, rfl, by simp [snp0], by simp [snp0], by simp [snp0], by simp [snp0], SliceR.nil _ _ _ _ _, SliceR.nil _ _ _ _ _, SliceR.nil _ _ _ _ _, SliceR.nil _ _ _ _ _⟩
    case false =>
      have hPr : SliceR prcR 3 (fun k => F k ∧ k < w.heap.size) wr op x.procs := HPB.out.keep prcR_ok fun q hq hql => HBW.out.block q hql
      have hcall := seen_any HW.out HR.out HN.out hPr (fun k hk => Nat.lt_of_lt_of_le hk.2 (by omega)) hpc (by have := wireAt_queued HR.out fates (t := t) (by omega); omega) HBW.out.size
      rw [HG.out.p] at hcall
      have hres := HBX2.out.keep (HBW.out.block _ hlt1)
      have HRES := hide hres
      obtain ⟨S, hS⟩ : ∃ S, S = wireAt x fates t := ⟨_, rfl⟩
      rw [← hS] at hcall HW
      have HSE := hide hS
      unfold slV at hcall
      obtain ⟨tkn, htkn⟩ : ∃ m, m = S.tk := ⟨_, rfl⟩
      obtain ⟨sen, hsen⟩ : ∃ m, m = S.se := ⟨_, rfl⟩
      obtain ⟨fln, hfln⟩ : ∃ m, m = S.fl.length := ⟨_, rfl⟩
      obtain ⟨qun, hqun⟩ : ∃ m, m = queuedS S.ls := ⟨_, rfl⟩
      rw [← htkn, ← hsen, ← hfln, ← hqun] at hcall
      have HCS := hide hcall
      have H4 := hide (And.intro htkn (And.intro hsen (And.intro hfln hqun)))
      have HQS : Hid (qa = some t) := by
        show _ = _
        rw [HQA.out]
        exact quietAt_some htk HBE.out.symm HBU.out
      clear hkt hPr hcall hres hS htkn hsen hfln hqun
      go_wp2_with (first | (go_at_call 70; refine HBC.out.mono ?_; rintro e w4' ⟨rfl, rfl⟩) | (go_at_call 72; refine HCS.out.mono ?_; rintro e w4 ⟨oQ, cQ, rfl, hcQ, hsQ, hb4⟩; have hres := HRES.out.below hb4; have r0 := hres.cell 0; have r1 := hres.cell 1; have r2 := hres.cell 2; have r3 := hres.cell 3; have r4 := hres.cell 4; have r5 := hres.cell 5; have r6 := hres.cell 6; have r7 := hres.cell 7; have rf := hres.free; simp only [List.getElem?_cons_zero, List.getElem?_cons_succ] at r0 r1 r2 r3 r4 r5 r6 r7; have HRS := hide hres; have HSQ := hide hsQ; have HB4 := hide hb4; clear hres hsQ hb4))
      have hfin := (((((((HRS.out.put 0 (.slice oQ n cQ)).put 1 (.slice (some ⟨L.gs, 0, none⟩) n L.cs)).put 2 (.slice (some ⟨L.gw, 0, none⟩) n L.cw)).put 3 (.slice (some ⟨L.gc, 0, none⟩) n L.cc)).put 4 (.int .i64 (tkn : Nat))).put 5 (.int .i64 (sen : Nat))).put 6 (.int .i64 (fln : Nat))).put 7 (.int .i64 (qun : Nat))
      simp only [List.set_cons_zero, List.set_cons_succ] at hfin
      obtain ⟨W5, e5⟩ : ∃ W5, (((((((w4.setCell ⟨W1.heap.size, 0, none⟩ (.slice oQ n cQ)).setCell ⟨W1.heap.size, 1, none⟩ (.slice (some ⟨L.gs, 0, none⟩) n L.cs)).setCell ⟨W1.heap.size, 2, none⟩ (.slice (some ⟨L.gw, 0, none⟩) n L.cw)).setCell ⟨W1.heap.size, 3, none⟩ (.slice (some ⟨L.gc, 0, none⟩) n L.cc)).setCell ⟨W1.heap.size, 4, none⟩ (.int .i64 (tkn : Nat))).setCell ⟨W1.heap.size, 5, none⟩ (.int .i64 (sen : Nat))).setCell ⟨W1.heap.size, 6, none⟩ (.int .i64 (fln : Nat))).setCell ⟨W1.heap.size, 7, none⟩ (.int .i64 (qun : Nat)) = W5 := ⟨_, rfl⟩
      rw [e5] at hfin
      have hk5 : ∀ k, k ≠ W1.heap.size → W5.heap[k]? = w4.heap[k]? := fun k hk => by
        rw [← e5]
        rw [Below.heap_setCell _ _ _ k hk, Below.heap_setCell _ _ _ k hk, Below.heap_setCell _ _ _ k hk, Below.heap_setCell _ _ _ k hk, Below.heap_setCell _ _ _ k hk, Below.heap_setCell _ _ _ k hk, Below.heap_setCell _ _ _ k hk, Below.heap_setCell _ _ _ k hk]
      have hszw := HBW.out.size
      have hB4 : Below w.heap.size w w4 := (HBB.out.trans (HBW.out.mono (by omega))).trans (HB4.out.mono (by omega))
      have hB5 : Below w.heap.size w W5 := by
        rw [← e5]
        exact (((((((hB4.setCell hlw _).setCell hlw _).setCell hlw _).setCell hlw _).setCell hlw _).setCell hlw _).setCell hlw _).setCell hlw _
      have hsQ5 : SliceR prcR 3 (fun k => F k ∨ w.heap.size ≤ k) W5 oQ x.procs := (HSQ.out.keep prcR_ok (w' := W5) fun k hk _ => hk5 k (by
        rcases hk with hk | hk
        · have : k < w.heap.size := hk.2; omega
        · omega)).wide prcR_ok (by decide) (fun k hk _ => hk.elim (fun h => .inl h.1) fun h => .inr (Nat.le_trans (by omega) h))
      have hcaps : Caps n x.waiting (x.waiting.map fun l => List.replicate l.length 0) L := by
        obtain ⟨a, b, e⟩ := HG.out.fix
        rw [e]
        exact ⟨HC3.out.cs, HC3.out.cw, HC3.out.cc, HC3.out.kw, HC3.out.kc⟩
      have hW := HW.out
      rw [HSE.out, HN.out] at hW
      rw [HN.out] at hcaps
      obtain ⟨s1, s2, s3⟩ := wireAt_slices HR.out fates (t := t) (by omega) hW hcaps
      have hfix : ∀ k, W2.heap.size ≤ k → k < wr.heap.size → W5.heap[k]? = wr.heap[k]? := fun k hk hkl => (hk5 k (by omega)).trans (HB4.out.block k hkl)
      have t1 := (s1.keep intR_ok (w' := W5) fun k hk hkl => hfix k hk hkl).wide intR_ok (by decide) (F' := fun k => F k ∨ w.heap.size ≤ k) (fun k hk _ => .inr (Nat.le_trans (by omega) hk))
      have t2 := (s2.keep (slcR_ok intR_ok (by decide)) (w' := W5) fun k hk hkl => hfix k hk hkl).wide (slcR_ok intR_ok (by decide)) (by decide) (F' := fun k => F k ∨ w.heap.size ≤ k) (fun k hk _ => .inr (Nat.le_trans (by omega) hk))
      have t3 := (s3.keep (slcR_ok intR_ok (by decide)) (w' := W5) fun k hk hkl => hfix k hk hkl).wide (slcR_ok intR_ok (by decide)) (by decide) (F' := fun k => F k ∨ w.heap.size ≤ k) (fun k hk _ => .inr (Nat.le_trans (by omega) hk))
      have hinv := wireAt_inv HR.out fates (t := t) (by omega)
      obtain ⟨g1, g2, g3, g4⟩ := H4.out
      rw [e5]
      refine bodyPost_ret (results_cell_tmp_row rfl _ _ W1.heap.size 28 _ (0, 0) _ rfl hfin Try.underlying28 rfl (by kernel_rfl)) rfl ?_
      refine ⟨_, 0, rfl, ?_, hB5⟩
      rw [HQS.out]
      refine ⟨rfl, ⟨oQ, cQ, some ⟨L.gs, 0, none⟩, L.cs, some ⟨L.gw, 0, none⟩, L.cw, some ⟨L.gc, 0, none⟩, L.cc, ?_, ?_, ?_, ?_, ?_, hsQ5, t1, t2, t3⟩⟩
      · unfold seenS
        simp only
        rw [hinv.nst, hinv.nwt, hinv.nct, ← HN.out, ← HSE.out, g1, g2, g3, g4]
      · unfold seenS; simp only; rw [← HN.out]; exact hcQ
      · unfold seenS; simp only; rw [hinv.nst]; exact hcaps.cs
      · unfold seenS; simp only; rw [hinv.nwt]; exact hcaps.cw
      · unfold seenS; simp only; rw [hinv.nct]; exact hcaps.cc

end Go.Proofs.Ytmjcjmljnliaoaa

set_option linter.unusedVariables false
namespace Go.Proofs.Ytmjcjmljnliaoaa
open Go.RowKit Go.ChangeShapes Go.WideShapes Go.ChangeAt Go.Deep

section
variable {H : Type} {enc : TypeId × Value → H} {P : Program} {w : World} {base : Nat} {spare : Nat → Bool} {held : Bool}
theorem fld {fs : Array Field} {t : TypeId} {fuel : Nat} {cs : List Value} {x : DataW H × List MemPlace} (hs : P.underlying t = some (.struct fs)) (h : DataW.trod enc P w base spare held fuel t cs = some x) :
    cs.length = P.cellsOf t ∧ ∃ n, ∀ (i : Nat) (f : Field), fs[i]? = some f → ∃ y, DataW.trod enc P w base spare held n f.type ((cs.drop f.offset).take (P.cellsOf f.type)) = some y := by
  obtain ⟨xs, n, _, _, hcl, hxl, hg⟩ := DataW.trod_struct hs h
  refine ⟨hcl, n, fun i f hf => ?_⟩
  have hi : i < xs.length := by rw [hxl]; exact (Array.getElem?_eq_some_iff.1 hf).1
  exact ⟨xs[i], by rw [hg i f hf]; exact List.getElem?_eq_getElem hi⟩
theorem fld_at {fs : Array Field} {t : TypeId} {fuel : Nat} {cs : List Value} {x : DataW H × List MemPlace} (hs : P.underlying t = some (.struct fs)) (h : DataW.trod enc P w base spare held fuel t cs = some x)
    (i : Nat) (f : Field) (hf : fs[i]? = some f) (o : Nat) (ty : TypeId) (k : Nat) (ho : f.offset = o) (ht : f.type = ty) (hk : P.cellsOf ty = k) : ∃ n y, DataW.trod enc P w base spare held n ty ((cs.drop o).take k) = some y := by
  obtain ⟨_, n, hg⟩ := fld hs h
  obtain ⟨y, hy⟩ := hg i f hf
  rw [ho, ht, hk] at hy
  exact ⟨n, y, hy⟩
end

section
variable {H : Type} {enc : TypeId × Value → H} {w : World} {base : Nat} {spare : Nat → Bool} {held : Bool}
theorem reads_prcs : ReadsAs enc Try.prog w base spare held 23 (slcR prcR 3) := ReadsAs.slice prcR_ok (by omega) Try.underlying23 (by kernel_rfl) reads_prc
theorem reads_table : ReadsAs enc Try.prog w base spare held 24 (slcR (slcR intR 1) 1) := ReadsAs.slice (slcR_ok intR_ok (by omega)) (by omega) Try.underlying24 (by kernel_rfl) reads_ints

/-- A network that a statement is given. -/
structure NetIn (w : World) (ps : List Prc) (st : List Int) (wt : List (List Int)) (oa : Option Addr) (c : Nat) (ob : Option Addr) (e : Nat) (oc : Option Addr) (g : Nat) : Prop where
  pc : ps.length ≤ c
  sc : st.length ≤ e
  wc : wt.length ≤ g
  pl : ps.length ≤ 9223372036854775807
  sl : st.length ≤ 9223372036854775807
  wl : wt.length ≤ 9223372036854775807
  p : SliceR prcR 3 All w oa ps
  s : SliceR intR 1 All w ob st
  t : SliceR (slcR intR 1) 1 All w oc wt

theorem net_cells {fuel : Nat} {cs : List Value} {x : DataW H × List MemPlace} (hf : DataW.trod enc Try.prog w base spare held fuel 26 cs = some x) :
    ∃ ps st wt oa c ob e oc g, cs = [.slice oa (List.length ps) c, .slice ob (List.length st) e, .slice oc (List.length wt) g] ∧ NetIn w ps st wt oa c ob e oc g := by
  obtain ⟨c0, c1, c2, n, y0, y1, y2, rfl, h0, h1, h2⟩ := part3 Try.underlying26 rfl rfl rfl (by kernel_rfl) (by kernel_rfl) (by kernel_rfl) (by kernel_rfl) hf
  obtain ⟨ps, oa, c, a1, a2, a3, a4⟩ := reads_prcs _ _ _ h0
  obtain ⟨st, ob, e, b1, b2, b3, b4⟩ := reads_ints _ _ _ h1
  obtain ⟨wt, oc, g, d1, d2, d3, d4⟩ := reads_table _ _ _ h2
  simp at a1 b1 d1
  subst a1 b1 d1
  exact ⟨ps, st, wt, oa, c, ob, e, oc, g, rfl, ⟨a2, b2, d2, a3, b3, d3, a4, b4, d4⟩⟩
set_option maxRecDepth 100000 in
theorem open_net {r : Reach} {b0 : Nat} {v : Value} {d : DataW H} {p : List MemPlace} (hv : Value.okWide Try.prog w r b0 26 v) (h : DataW.Trod enc Try.prog w base spare held 26 v d p) :
    ∃ ps st wt oa c ob e oc g, v = .agg #[.slice oa (List.length ps) c, .slice ob (List.length st) e, .slice oc (List.length wt) g] ∧ NetIn w ps st wt oa c ob e oc g := by
  obtain ⟨l, fuel, rfl, hf⟩ := agg_cells Try.underlying26 hv h
  obtain ⟨ps, st, wt, oa, c, ob, e, oc, g, rfl, hn⟩ := net_cells hf
  exact ⟨ps, st, wt, oa, c, ob, e, oc, g, rfl, hn⟩
set_option maxRecDepth 100000 in
theorem open_snap {r : Reach} {b0 : Nat} {v : Value} {d : DataW H} {p : List MemPlace} (hv : Value.okWide Try.prog w r b0 28 v) (h : DataW.Trod enc Try.prog w base spare held 28 v d p) :
    ∃ s : Snp, SnapAt w v s ∧ s.net.waiting.length ≤ 9223372036854775807 ∧ s.counts.length ≤ 9223372036854775807 := by
  obtain ⟨l, fuel, rfl, hf⟩ := agg_cells Try.underlying28 hv h
  have hl := (fld Try.underlying28 hf).1
  have k8 : Try.prog.cellsOf 28 = 8 := by kernel_rfl
  rw [k8] at hl
  obtain ⟨_, y0, h0⟩ := fld_at Try.underlying28 hf 0 _ rfl 0 26 3 rfl rfl (by kernel_rfl)
  obtain ⟨_, y1, h1⟩ := fld_at Try.underlying28 hf 1 _ rfl 3 24 1 rfl rfl (by kernel_rfl)
  obtain ⟨_, y2, h2⟩ := fld_at Try.underlying28 hf 2 _ rfl 4 3 1 rfl rfl (by kernel_rfl)
  obtain ⟨_, y3, h3⟩ := fld_at Try.underlying28 hf 3 _ rfl 5 3 1 rfl rfl (by kernel_rfl)
  obtain ⟨_, y4, h4⟩ := fld_at Try.underlying28 hf 4 _ rfl 6 3 1 rfl rfl (by kernel_rfl)
  obtain ⟨_, y5, h5⟩ := fld_at Try.underlying28 hf 5 _ rfl 7 3 1 rfl rfl (by kernel_rfl)
  match l, hl with
  | [c0, c1, c2, c3, c4, c5, c6, c7], _ =>
    simp at h0 h1 h2 h3 h4 h5
    obtain ⟨ps, st, wt, oa, c, ob, e, oc, g, e0, hn⟩ := net_cells h0
    obtain ⟨ct, od, q, e1, b2, b3, b4⟩ := reads_table _ _ _ h1
    obtain ⟨n2, e2, i2⟩ := reads_int _ _ _ h2
    obtain ⟨n3, e3, i3⟩ := reads_int _ _ _ h3
    obtain ⟨n4, e4, i4⟩ := reads_int _ _ _ h4
    obtain ⟨n5, e5, i5⟩ := reads_int _ _ _ h5
    simp at e0 e1 e2 e3 e4 e5
    obtain ⟨rfl, rfl, rfl⟩ := e0
    subst e1 e2 e3 e4 e5
    exact ⟨⟨⟨ps, st, wt⟩, ct, n2, n3, n4, n5⟩, ⟨oa, c, ob, e, oc, g, od, q, rfl, hn.pc, hn.sc, hn.wc, b2, hn.p, hn.s, hn.t, b4⟩, hn.wl, b3⟩
set_option maxRecDepth 100000 in
theorem open_u8 {r : Reach} {b0 : Nat} {v : Value} {d : DataW H} {p : List MemPlace} (hv : Value.okWide Try.prog w r b0 5 v) (h : DataW.Trod enc Try.prog w base spare held 5 v d p) :
    ∃ n, v = .int .u8 n ∧ 0 ≤ n ∧ n ≤ 255 := by
  obtain ⟨n, rfl, rfl, rfl, hw⟩ := open_int Try.underlying5 hv h
  exact ⟨n, rfl, by simpa [Lit.wf, IntKind.min, IntKind.max, IntKind.signed, IntKind.bits] using hw⟩
end

end Go.Proofs.Ytmjcjmljnliaoaa

set_option linter.unusedVariables false
namespace Go.Proofs.Ytmjcjmljnliaoaa
open Go.RowKit

def QuietB (b : Bool) (w : World) (e : Ending) (w' : World) : Prop := e = .returned (.bool b) ∧ ∃ m, w' = w.drewN m
theorem QuietB.below {b : Bool} {w : World} {e : Ending} {w' : World} (h : QuietB b w e w') : e = .returned (.bool b) ∧ Below w.heap.size w w' := by
  obtain ⟨rfl, m, rfl⟩ := h
  exact ⟨rfl, below_drewN (Below.refl _ _) _⟩
theorem drawn_more {w wr : World} (h : Hid (∃ n, wr = w.drewN n)) (k : Nat) : ∃ n, wr.drewN k = w.drewN n := by
  obtain ⟨n, rfl⟩ := h.out
  exact ⟨n + k, by rw [World.drewN_drewN]⟩
theorem drawn_slice {α : Type} {R : Rep α} {sz : Nat} {F : Foot} {oa : Option Addr} {xs : List α} {w wr : World} (h : Hid (∃ n, wr = w.drewN n)) (ok : RepOk R sz) (hs : SliceR R sz F w oa xs) : SliceR R sz F wr oa xs := by
  obtain ⟨n, rfl⟩ := h.out
  exact hs.drewN ok n
theorem tabR_ok : RepOk (slcR intR 1) 1 := slcR_ok intR_ok (by omega)

set_option maxHeartbeats 400000 in
theorem sameInts08_any (l m : List Int) (oa ob : Option Addr) (c d : Nat) (F G : Foot) (w : World) (hs : SliceR intR 1 F w oa l) (ht : SliceR intR 1 G w ob m) (hc2 : l.length ≤ 9223372036854775807) :
    Calls Try.prog 73 #[.slice oa l.length c, .slice ob m.length d] w (QuietB (decide (l = m)) w) := by
  by_cases hlen : l.length = m.length
  case neg =>
    have hl' : ((l.length : Int) != m.length) = true := by simp; omega
    have HL : Hid (decide (l = m) = false) := decide_eq_false fun h => hlen (by rw [h])
    clear hlen
    go_enter Try.func73, Try.ntmps73
    go_wp2_with fail
    go_ret; exact ⟨ret_bool HL.out.symm, 0, rfl⟩
  have hl' : ((l.length : Int) != m.length) = false := by simp [hlen]
  have HL := hide hlen
  clear hlen
  go_enter Try.func73, Try.ntmps73
  go_wp2_with fail
  go_loopw [5] (fun i wr => ∃ k : Nat, k ≤ l.length ∧ i = .int .i64 k ∧ Hid (l = m ↔ l.drop k = m.drop k) ∧ Hid (∃ n, wr = w.drewN n)) (fun i _ => l.length - (intOf i).toNat)
  case atStart => exact ⟨0, by omega, rfl, Iff.rfl, 0, rfl⟩
  case round =>
    obtain ⟨k, hk, rfl, HE, HW⟩ := hrel
    by_cases hlt : k < l.length
    · obtain ⟨x, hd, _, _, b, off, rfl, _, c0⟩ := (drawn_slice HW intR_ok hs).int_at hlt
      have hlt2 : k < m.length := by rw [← HL.out]; exact hlt
      obtain ⟨x', hd', _, _, b', off', rfl, _, c0'⟩ := (drawn_slice HW intR_ok ht).int_at hlt2
      have HD := hide hd
      have HD' := hide hd'
      clear hd hd' hs ht
      by_cases hx : x = x'
      · obtain rfl := hx
        go_wp2_with fail
        go_quiet (fail)
        go_wp2_with fail
        go_roundw
        case rel =>
          refine ⟨k + 1, by omega, by go_num, ?_, drawn_more HW nq⟩
          show _ ↔ _
          rw [HE.out, HD.out, HD'.out]; simp
        case measure => simp [intOf]; omega
      · have hne : (x != x') = true := by simp [hx]
        have HX := hide hx
        clear hx
        go_wp2_with fail
        go_quiet (fail)
        go_wp2_with fail
        go_ret
        refine ⟨ret_bool ?_, drawn_more HW nq⟩
        symm
        refine decide_eq_false fun h => HX.out ?_
        have h2 := HE.out.1 h
        rw [HD.out, HD'.out] at h2
        simp at h2
        exact h2.1
    · go_wp2_with fail
      go_ret
      refine ⟨ret_bool ?_, HW.out⟩
      symm
      refine decide_eq_true (HE.out.2 ?_)
      rw [List.drop_eq_nil_of_le (by omega), List.drop_eq_nil_of_le (by have := HL.out; omega)]

set_option maxHeartbeats 400000 in
theorem sameTables_any (l m : List (List Int)) (oa ob : Option Addr) (c d : Nat) (F G : Foot) (w : World) (hs : SliceR (slcR intR 1) 1 F w oa l) (ht : SliceR (slcR intR 1) 1 G w ob m) (hc2 : l.length ≤ 9223372036854775807) :
    Calls Try.prog 26 #[.slice oa l.length c, .slice ob m.length d] w (QuietB (decide (l = m)) w) := by
  by_cases hlen : l.length = m.length
  case neg =>
    have hl' : ((l.length : Int) != m.length) = true := by simp; omega
    have HL : Hid (decide (l = m) = false) := decide_eq_false fun h => hlen (by rw [h])
    clear hlen
    go_enter Try.func26, Try.ntmps26
    go_wp2_with fail
    go_ret; exact ⟨ret_bool HL.out.symm, 0, rfl⟩
  have hl' : ((l.length : Int) != m.length) = false := by simp [hlen]
  have HL := hide hlen
  clear hlen
  go_enter Try.func26, Try.ntmps26
  go_wp2_with fail
  go_loopw [5] (fun i wr => ∃ k : Nat, k ≤ l.length ∧ i = .int .i64 k ∧ Hid (l = m ↔ l.drop k = m.drop k) ∧ Hid (∃ n, wr = w.drewN n)) (fun i _ => l.length - (intOf i).toNat)
  case atStart => exact ⟨0, by omega, rfl, Iff.rfl, 0, rfl⟩
  case round =>
    obtain ⟨k, hk, rfl, HE, HW⟩ := hrel
    by_cases hlt : k < l.length
    · obtain ⟨x, hd, _, b, off, oa', c', rfl, _, c0, _, hl2, hsx⟩ := (drawn_slice HW tabR_ok hs).slc_at hlt
      have hlt2 : k < m.length := by rw [← HL.out]; exact hlt
      obtain ⟨x', hd', _, b', off', ob', d', rfl, _, c0', _, _, hsx'⟩ := (drawn_slice HW tabR_ok ht).slc_at hlt2
      have HD := hide hd
      have HD' := hide hd'
      have HC : Hid (∀ k, Calls Try.prog 73 #[.slice oa' x.length c', .slice ob' x'.length d'] (wr.drewN k) (QuietB (decide (x = x')) (wr.drewN k))) := fun k => sameInts08_any x x' oa' ob' c' d' F G _ (hsx.drewN intR_ok k) (hsx'.drewN intR_ok k) hl2
      clear hd hd' hs ht hsx hsx'
      by_cases hx : x = x'
      · rw [decide_eq_true hx] at HC
        obtain ⟨lx, hlx⟩ : ∃ n, n = x.length := ⟨_, rfl⟩
        obtain ⟨ly, hly⟩ : ∃ n, n = x'.length := ⟨_, rfl⟩
        have HX := hide hx
        rw [← hlx] at c0 HC
        rw [← hly] at c0' HC
        clear hx hlx hly
        go_wp2_with fail
        go_quiet ((go_at_call 73; exact Calls.quiet_of (HC.out _)))
        go_wp2_with fail
        go_roundw
        case rel =>
          refine ⟨k + 1, by omega, by go_num, ?_, drawn_more HW nq⟩
          show _ ↔ _
          rw [HE.out, HD.out, HD'.out, HX.out]; simp
        case measure => simp [intOf]; omega
      · rw [decide_eq_false hx] at HC
        obtain ⟨lx, hlx⟩ : ∃ n, n = x.length := ⟨_, rfl⟩
        obtain ⟨ly, hly⟩ : ∃ n, n = x'.length := ⟨_, rfl⟩
        have HX := hide hx
        rw [← hlx] at c0 HC
        rw [← hly] at c0' HC
        clear hx hlx hly
        go_wp2_with fail
        go_quiet ((go_at_call 73; exact Calls.quiet_of (HC.out _)))
        go_wp2_with fail
        go_ret
        refine ⟨ret_bool ?_, drawn_more HW nq⟩
        symm
        refine decide_eq_false fun h => HX.out ?_
        have h2 := HE.out.1 h
        rw [HD.out, HD'.out] at h2
        simp at h2
        exact h2.1
    · go_wp2_with fail
      go_ret
      refine ⟨ret_bool ?_, HW.out⟩
      symm
      refine decide_eq_true (HE.out.2 ?_)
      rw [List.drop_eq_nil_of_le (by omega), List.drop_eq_nil_of_le (by have := HL.out; omega)]

end Go.Proofs.Ytmjcjmljnliaoaa

set_option linter.unusedVariables false
set_option linter.unusedSimpArgs false
namespace Go.Proofs.Ytmjcjmljnliaoaa
open Go.RowKit

theorem drop_get {α : Type} {l : List α} {k : Nat} {x : α} (h : l[k]? = some x) : l.drop k = x :: l.drop (k + 1) := by
  obtain ⟨hk, rfl⟩ := List.getElem?_eq_some_iff.1 h
  exact List.drop_eq_getElem_cons hk
theorem quiet_eq (ps : List Prc) (st : List Int) (wt ct : List (List Int)) (n2 n3 n4 n5 : Int) : quietS ⟨⟨ps, st, wt⟩, ct, n2, n3, n4, n5⟩ = ((!wt.any nzRow) && (n4 == 0) && (n5 == 0)) := rfl

set_option maxHeartbeats 1000000 in
theorem quiet_any (v : Value) (s : Snp) (w : World) (h : SnapAt w v s) (hl : s.net.waiting.length ≤ 9223372036854775807) :
    Calls Try.prog 20 #[v] w fun e w' => e = .returned (.bool (quietS s)) ∧ Below w.heap.size w w' := by
  obtain ⟨⟨ps, st, wt⟩, ct, n2, n3, n4, n5⟩ := s
  obtain ⟨oq, cq, os, cs, ow, cw, oc, cc, rfl, -, -, -, -, -, -, hw, -⟩ := h
  simp only at hl hw ⊢
  have HC : Hid (∀ o, Calls Try.prog 64 #[.slice ow wt.length cw] (w.alloc o) fun e w' => e = .returned (.bool (wt.any nzRow)) ∧ w.alloc o = w') := fun o =>
    waiting_any wt ow cw _ (SliceR.rowsAt (hw.below tabR_ok (bnew (Below.refl _ _) _))) hl
  have HQ := hide (quiet_eq ps st wt ct n2 n3 n4 n5)
  obtain ⟨nw, hnw⟩ : ∃ n, n = wt.length := ⟨_, rfl⟩
  rw [← hnw] at HC ⊢
  generalize wt.any nzRow = b at HC HQ
  generalize ps.length = np at *
  generalize st.length = ns at *
  generalize ct.length = nc at *
  clear hnw hw hl
  rcases hb4 : (n4 == 0) with _ | _ <;> rcases hb5 : (n5 == 0) with _ | _ <;> rw [hb4, hb5] at HQ <;> cases b <;>
    (go_enter Try.func20, Try.ntmps20
     go_wp2_with (go_at_call 64; refine (HC.out _).mono ?_; rintro e w' ⟨rfl, rfl⟩)
     go_ret
     exact ⟨ret_bool (by rw [HQ.out]; rfl), bnew (Below.refl _ _) _⟩)

set_option maxRecDepth 100000 in
set_option maxHeartbeats 1000000 in
theorem rquiet_any (v : Value) (s : Snp) (w : World) (h : SnapAt w v s) (hl : s.net.waiting.length ≤ 9223372036854775807) :
    Calls Try.prog 21 #[v] w fun e w' => e = .returned (.bool (quietS s)) ∧ Below w.heap.size w w' := by
  obtain ⟨⟨ps, st, wt⟩, ct, n2, n3, n4, n5⟩ := s
  obtain ⟨oq, cq, os, cs, ow, cw, oc, cc, rfl, -, -, -, -, -, -, hw, -⟩ := h
  simp only at hl hw ⊢
  have HQ := hide (quiet_eq ps st wt ct n2 n3 n4 n5)
  generalize ps.length = np at *
  generalize st.length = ns at *
  generalize ct.length = nc at *
  obtain ⟨W1, e1⟩ : ∃ W1, w.alloc (.cells #[.slice oq np cq, .slice os ns cs, .slice ow wt.length cw, .slice oc nc cc, .int .i64 n2, .int .i64 n3, .int .i64 n4, .int .i64 n5] 37) = W1 := ⟨_, rfl⟩
  have bx1 : Box W1 w.heap.size [.slice oq np cq, .slice os ns cs, .slice ow wt.length cw, .slice oc nc cc, .int .i64 n2, .int .i64 n3, .int .i64 n4, .int .i64 n5] 37 := by rw [← e1]; exact Box.new w [.slice oq np cq, .slice os ns cs, .slice ow wt.length cw, .slice oc nc cc, .int .i64 n2, .int .i64 n3, .int .i64 n4, .int .i64 n5] 37
  have bb1 := bnew (Below.refl w.heap.size w) (.cells #[.slice oq np cq, .slice os ns cs, .slice ow wt.length cw, .slice oc nc cc, .int .i64 n2, .int .i64 n3, .int .i64 n4, .int .i64 n5] 37)
  rw [e1] at bb1
  have HR : Hid (RowsAt W1 ow wt) := SliceR.rowsAt (hw.below tabR_ok bb1)
  have c2 := bx1.cell 2
  have c6 := bx1.cell 6
  have c7 := bx1.cell 7
  simp only [List.getElem?_cons_zero, List.getElem?_cons_succ] at c2 c6 c7
  have HB := hide bb1
  clear bx1 bb1 hw
  obtain ⟨nw, hnw⟩ : ∃ n, n = wt.length := ⟨_, rfl⟩
  rw [← hnw] at c2 e1 hl ⊢
  have HNW := hide hnw
  clear hnw
  go_enter Try.func21, Try.ntmps21
  go_wp2_with fail
  go_loop [3] (fun i => ∃ k : Nat, k ≤ nw ∧ i = .int .i64 k ∧ Hid (wt.any nzRow = (wt.drop k).any nzRow)) (fun i => nw - (intOf i).toNat)
  case atStart => exact ⟨0, by omega, rfl, rfl⟩
  case round =>
    obtain ⟨k, hk, rfl, HE⟩ := hrel
    by_cases hlt : k < nw
    · obtain ⟨row, b, off, oa', c', hxx, rfl, c0, hrl, hrs⟩ := HR.out.at (k := k) (by rw [← HNW.out]; exact hlt)
      have HD : Hid (wt.drop k = row :: wt.drop (k + 1)) := drop_get hxx
      have HRS := hide hrs
      obtain ⟨nr, hnr⟩ : ∃ n, n = row.length := ⟨_, rfl⟩
      rw [← hnr] at c0 hrl
      have HNR := hide hnr
      clear hxx hrs hnr
      go_wp2_with fail
      go_loop [4] (fun i => ∃ j : Nat, j ≤ nr ∧ i = .int .i64 j ∧ Hid (nzRow row = nzRow (row.drop j))) (fun i => nr - (intOf i).toNat)
      case atStart => exact ⟨0, by omega, rfl, rfl⟩
      case round =>
        obtain ⟨j, hj, rfl, HF⟩ := hrel
        by_cases hlj : j < nr
        · obtain ⟨x, hdx, _, _, b2, off2, rfl, _, c3⟩ := HRS.out.int_at (i := j) (by rw [← HNR.out]; exact hlj)
          have HDX := hide hdx
          clear hdx
          by_cases hx : x = 0
          · have q1 : (x != 0) = false := by simp [hx]
            have HX := hide hx
            clear hx
            go_wp2_with fail
            go_round
            case rel => exact ⟨j + 1, by omega, by go_num, by show _ = _; rw [HF.out, HDX.out, HX.out]; rfl⟩
            case measure => simp [intOf]; omega
          · have q1 : (x != 0) = true := by simp [hx]
            have HX := hide q1
            clear hx
            have HS : Hid (wt.any nzRow = true) := by
              show _ = _
              rw [HE.out, HD.out, List.any_cons, HF.out, HDX.out]
              unfold nzRow
              rw [List.any_cons, HX.out]
              rfl
            go_wp2_with fail
            go_ret
            exact ⟨ret_bool (by rw [HQ.out, HS.out]; rfl), HB.out⟩
        · have HZ : Hid (nzRow row = false) := by show _ = _; rw [HF.out, List.drop_eq_nil_of_le (by have := HNR.out; omega)]; rfl
          go_wp2_with fail
          go_round
          case rel => exact ⟨k + 1, by omega, by go_num, by show _ = _; rw [HE.out, HD.out, List.any_cons, HZ.out, Bool.false_or]⟩
          case measure => simp [intOf]; omega
    · have HZ : Hid (wt.any nzRow = false) := by show _ = _; rw [HE.out, List.drop_eq_nil_of_le (by have := HNW.out; omega)]; rfl
      rcases hb4 : (n4 == 0) with _ | _
      · go_wp2_with fail
        go_ret
        exact ⟨ret_bool (by rw [HQ.out, HZ.out, hb4]; rfl), HB.out⟩
      · rcases hb5 : (n5 == 0) with _ | _
        · go_wp2_with fail
          go_ret
          exact ⟨ret_bool (by rw [HQ.out, HZ.out, hb4, hb5]; rfl), HB.out⟩
        · go_wp2_with fail
          go_ret
          exact ⟨ret_bool (by rw [HQ.out, HZ.out, hb4, hb5]; rfl), HB.out⟩

end Go.Proofs.Ytmjcjmljnliaoaa

set_option linter.unusedVariables false
set_option linter.unusedSimpArgs false
namespace Go.Proofs.Ytmjcjmljnliaoaa
open Go.RowKit

/-- Few letters: it does not become large within 2000 ticks. -/
theorem wireAt_never {x : Nwk} (h : Right x) (fates : List Int) (hs : ∀ t ∈ x.waiting, ∀ k ∈ t, k ≤ 40) {t : Nat} (ht : t ≤ 2000) : (wireAt x fates t).lg = false := by
  obtain ⟨n, hn⟩ : ∃ n, n = x.procs.length := ⟨_, rfl⟩
  have h1 := h.n.1
  have h12 := h.n.2
  have hb := h.begin_ (M := 40) (X := 1048576) hs (by omega)
  have hok := h.ok
  unfold wireAt
  rw [← hn] at h1 h12 hb hok ⊢
  have hnn : n * n ≤ 144 := Nat.le_trans (Nat.mul_le_mul h12 h12) (by omega)
  exact WInv.never hok fates (by omega) hb (n := 2000) (by omega) ht
theorem wireAt_more {x : Nwk} {fates : List Int} {T : Nat} (h : busyS (wireAt x fates T) = false) (i : Nat) : wireAt x fates (T + i) = { wireAt x fates T with tk := T + i } := by
  have h1 := ticksS_quiet x.procs.length (nextP x.procs) (sentP x.procs) fates h i
  have h2 := wireAt_tk x fates T
  unfold wireAt at h1 h2 ⊢
  rw [h1, h2]
/-- What the snapshot is later on. -/
theorem seen_more {x : Nwk} {fates : List Int} {T : Nat} (h : busyS (wireAt x fates T) = false) (i : Nat) :
    seenS x.procs (wireAt x fates (T + i)) = { seenS x.procs (wireAt x fates T) with ticks := ((T + i : Nat) : Int) } := by
  rw [wireAt_more h i]
  rfl
theorem quiet_later {x : Nwk} {fates : List Int} {T : Nat} (h : busyS (wireAt x fates T) = false) (i : Nat) : quietS (seenS x.procs (wireAt x fates (T + i))) = true := by
  rw [quietS_seen, wireAt_more h i]
  have : busyS { wireAt x fates T with tk := T + i } = busyS (wireAt x fates T) := rfl
  rw [this, h]
  rfl

end Go.Proofs.Ytmjcjmljnliaoaa

set_option linter.unusedVariables false
namespace Go.Proofs.Ytmjcjmljnliaoaa
open Go.RowKit

theorem box_free {w wr : World} {cs : Array Value} {t : TypeId} (hb : Below (w.heap.size + 1) (w.alloc (.cells cs t)) wr) (i : Nat) : wr.frozen? ⟨w.heap.size, i, none⟩ = false := by
  rw [hb.frozen (p := ⟨w.heap.size, i, none⟩) (by simp)]
  exact frozen_of_row (w.alloc (.cells cs t)) w.heap.size i cs t (heap_alloc_new w _)

theorem flatten_get {sz : Nat} : ∀ {css : List (List Value)}, (∀ cs ∈ css, cs.length = sz) → ∀ {i : Nat} {cs : List Value}, css[i]? = some cs → ∀ {j : Nat} {u : Value}, cs[j]? = some u → css.flatten[i * sz + j]? = some u
  | [], _, i, cs, h, _, _, _ => by simp at h
  | c :: r, hl, 0, cs, h, j, u, hj => by
    simp at h
    subst h
    have h1 : j < c.length := (List.getElem?_eq_some_iff.1 hj).1
    rw [List.flatten_cons, Nat.zero_mul, Nat.zero_add, List.getElem?_append_left h1]
    exact hj
  | c :: r, hl, i + 1, cs, h, j, u, hj => by
    have h1 := hl c (by simp)
    have h2 := flatten_get (css := r) (fun x hx => hl x (by simp [hx])) (i := i) (cs := cs) (by simpa using h) hj
    rw [List.flatten_cons, List.getElem?_append_right (by rw [h1, Nat.succ_mul]; omega), h1]
    rw [show (i + 1) * sz + j - sz = i * sz + j from by rw [Nat.succ_mul]; omega]
    exact h2

theorem SliceR.lit {α : Type} {R : Rep α} {sz : Nat} {F G : Foot} (ok : RepOk R sz) (w : World) (e : TypeId) (css : List (List Value)) (xs : List α)
    (h : ∀ (i : Nat) (x : α), xs[i]? = some x → ∃ cs, css[i]? = some cs ∧ R F w cs x) (hl : css.length = xs.length) (hFG : ∀ k, F k → G k) (hG : G w.heap.size) :
    SliceR R sz G (w.alloc (.cells css.flatten.toArray e)) (some ⟨w.heap.size, 0, none⟩) xs := by
  have hlen : ∀ cs ∈ css, cs.length = sz := by
    intro cs hcs
    obtain ⟨i, hi, rfl⟩ := List.getElem_of_mem hcs
    obtain ⟨cs, hc, hR⟩ := h i _ (List.getElem?_eq_getElem (by omega))
    rw [List.getElem?_eq_getElem hi] at hc
    injection hc with hc
    rw [hc]
    exact ok.len hR
  intro i x hx
  obtain ⟨cs, hcs, hR⟩ := h i x hx
  refine ⟨w.heap.size, 0, cs, rfl, hG, ok.keep (ok.wide hR fun k hk _ => hFG k hk) (SameOn.of_below (bnew (Below.refl _ _) _)), fun j u hu => ?_⟩
  rw [cell_of_row (w.alloc (.cells css.flatten.toArray e)) w.heap.size _ _ e (0, 0) (heap_alloc_new w _)]
  have := flatten_get hlen hcs hu
  rw [show 0 + i * sz + j = i * sz + j from by omega]
  simpa using this

theorem ints_lit {F G : Foot} (w : World) (e : TypeId) (xs : List Int) (h : ∀ x ∈ xs, I64 x) (hG : G w.heap.size) : SliceR intR 1 G (w.alloc (.cells (xs.map (Value.int .i64)).toArray e)) (some ⟨w.heap.size, 0, none⟩) xs := by
  have h1 : xs.map (Value.int .i64) = (xs.map fun x => [Value.int .i64 x]).flatten := by
    induction xs with
    | nil => rfl
    | cons x r ih => simp [ih fun y hy => h y (by simp [hy])]
  rw [h1]
  refine SliceR.lit (F := fun _ => False) intR_ok w e _ xs (fun i x hx => ⟨[.int .i64 x], by simp [hx], rfl, h x (List.mem_of_getElem? hx)⟩) (by simp) (fun _ h => h.elim) hG

/-- The list of ints that a literal lays, as the call's own. -/
theorem OwnS.ints (w : World) (e : TypeId) (xs : List Int) (h : ∀ x ∈ xs, I64 x) (hl : xs.length ≤ 1000000000000) :
    OwnS intR 1 w.heap.size e Non (w.alloc (.cells (xs.map (Value.int .i64)).toArray e)) (.slice (some ⟨w.heap.size, 0, none⟩) xs.length xs.length) xs := by
  have h1 := World.ownsRow_lit (base := w.heap.size) (e := e) (size := 1) w (xs.map (Value.int .i64)).toArray xs.length (Nat.le_refl _) (by unfold maxLen; omega) (by simp)
  refine ⟨xs.map (Value.int .i64), by simpa using h1, ?_, ?_⟩
  · intro u hu
    obtain ⟨x, _, rfl⟩ := List.mem_map.1 hu
    rfl
  · intro i x hx
    refine ⟨?_, h x (List.mem_of_getElem? hx)⟩
    apply List.ext_getElem?
    intro j
    unfold chunk
    rw [List.getElem?_take]
    split
    · have : j = 0 := by omega
      subst this
      simp [hx]
    · rw [List.getElem?_eq_none (by simp; omega)]

end Go.Proofs.Ytmjcjmljnliaoaa

set_option linter.unusedVariables false
namespace Go.Proofs.Ytmjcjmljnliaoaa
open Go.RowKit

theorem one_any (t : Int) (w : World) : Calls Try.prog 78 #[.int .i64 t] w fun e w' => e = .returned (.agg #[.int .i64 t, .int .i64 0]) ∧ Below w.heap.size w w' := by
  go_enter Try.func78, Try.ntmps78
  go_wp2_with fail
  refine bodyPost_ret (v := .agg #[.int .i64 t, .int .i64 0]) (by simp [results, Try.results78, go_sem]) rfl ⟨rfl, ?_⟩
  exact bnew (Below.refl _ _) _

def vertexRs : List (List Rul) := [[⟨1, []⟩], [⟨0, [⟨1, 0⟩, ⟨2, 0⟩]⟩]]
def rotorRs : List (List Rul) := [[⟨1, [⟨1, 0⟩]⟩], [⟨0, [⟨2, 0⟩]⟩]]
def setterRs : List (List Rul) := [[⟨0, []⟩, ⟨1, []⟩], [⟨0, []⟩, ⟨1, []⟩]]
def PrcPost (w : World) (S L : Int) (rs : List (List Rul)) (e : Ending) (w' : World) : Prop :=
  ∃ oa c, e = .returned (.agg #[.int .i64 S, .int .i64 L, .slice oa rs.length c]) ∧ rs.length ≤ c ∧ SliceR (slcR ruleR 2) 1 All w' oa rs ∧ Below w.heap.size w w'

theorem i64_0 : I64 0 := by unfold I64; omega
theorem i64_1 : I64 1 := by unfold I64; omega
theorem i64_2 : I64 2 := by unfold I64; omega
theorem i64_4 {x : Int} (h : 0 ≤ x ∧ x ≤ 1000) : I64 x := by unfold I64; omega

theorem rule_lit {F : Foot} {w : World} {nx : Int} {oa : Option Addr} {c : Nat} {st : List Out} (h : I64 nx) (hc : st.length ≤ c) (hl : st.length ≤ 1000) (hs : SliceR outR 2 F w oa st) : ruleR F w [.int .i64 nx, .slice oa st.length c] ⟨nx, st⟩ :=
  ⟨oa, c, rfl, h, hc, by show st.length ≤ _; omega, hs⟩
theorem row_lit {F : Foot} {w : World} {oa : Option Addr} {c : Nat} {row : List Rul} (hc : row.length ≤ c) (hl : row.length ≤ 1000) (hs : SliceR ruleR 2 F w oa row) : slcR ruleR 2 F w [.slice oa row.length c] row :=
  ⟨oa, c, rfl, hc, by omega, hs⟩
theorem lit1 {α : Type} {R : Rep α} {sz : Nat} {F G : Foot} (ok : RepOk R sz) (w : World) (e : TypeId) (cs : List Value) (x : α) (h : R F w cs x) (hFG : ∀ k, F k → G k) (hG : G w.heap.size) :
    SliceR R sz G (w.alloc (.cells [cs].flatten.toArray e)) (some ⟨w.heap.size, 0, none⟩) [x] :=
  SliceR.lit ok w e [cs] [x] (fun i y hy => by match i, hy with | 0, hy => simp at hy; subst hy; exact ⟨cs, rfl, h⟩) rfl hFG hG
theorem lit2 {α : Type} {R : Rep α} {sz : Nat} {F G : Foot} (ok : RepOk R sz) (w : World) (e : TypeId) (cs cs' : List Value) (x x' : α) (h : R F w cs x) (h' : R F w cs' x') (hFG : ∀ k, F k → G k) (hG : G w.heap.size) :
    SliceR R sz G (w.alloc (.cells [cs, cs'].flatten.toArray e)) (some ⟨w.heap.size, 0, none⟩) [x, x'] :=
  SliceR.lit ok w e [cs, cs'] [x, x'] (fun i y hy => by match i, hy with | 0, hy => simp at hy; subst hy; exact ⟨cs, rfl, h⟩ | 1, hy => simp at hy; subst hy; exact ⟨cs', rfl, h'⟩) rfl hFG hG

/-- A block that is written alone: other blocks read as they did. -/
theorem set3 (w3 : World) (B : Nat) (x y z x' y' z' : Value) (t : TypeId) (h : w3.heap[B]? = some (.cells #[x', y', z'] t (0, 0))) :
    (((w3.setCell ⟨B, 0, none⟩ x).setCell ⟨B, 1, none⟩ y).setCell ⟨B, 2, none⟩ z).heap.size = w3.heap.size ∧ w3.grownBy (((w3.setCell ⟨B, 0, none⟩ x).setCell ⟨B, 1, none⟩ y).setCell ⟨B, 2, none⟩ z) (some B) ∧
    (((w3.setCell ⟨B, 0, none⟩ x).setCell ⟨B, 1, none⟩ y).setCell ⟨B, 2, none⟩ z).heap[B]? = some (.cells #[x, y, z] t (0, 0)) := by
  have h1 := heap_setCell_same w3 B 0 _ _ x h
  have h2 := heap_setCell_same _ B 1 _ _ y h1
  have h3 := heap_setCell_same _ B 2 _ _ z h2
  refine ⟨by simp [World.setCell], ⟨rfl, rfl, rfl, by simp [World.setCell], fun k _ hne => ?_⟩, by rw [h3]; rfl⟩
  have hk : k ≠ B := fun e => hne (by rw [e])
  rw [Below.heap_setCell _ _ _ _ hk, Below.heap_setCell _ _ _ _ hk, Below.heap_setCell _ _ _ _ hk]
theorem same_of_grown {w w' : World} {B : Nat} (h : w.grownBy w' (some B)) : SameOn (Ge (B + 1)) w w' := fun k hk hl => h.block k hl fun e => by injection e with e; unfold Ge at hk; omega

set_option maxHeartbeats 1000000 in
theorem setter_any (w : World) : Calls Try.prog 77 #[] w (PrcPost w 2 2 setterRs) := by
  go_enter Try.func77, Try.ntmps77
  go_wp2_with fail
  let Z : Obj := .cells #[.int .i64 2, .int .i64 2, .slice (some ⟨w.heap.size + 1 + 1 + 1, 0, none⟩) 2 2] 47
  let R : Obj := .cells #[.int .i64 0, .slice none 0 0, .int .i64 1, .slice none 0 0] 115
  have z : ∀ (nx : Int) (wx : World), I64 nx → ruleR All wx [.int .i64 nx, .slice none 0 0] ⟨nx, []⟩ := fun nx wx h => rule_lit h (by simp) (by simp) (SliceR.nil _ _ _ _ _)
  have s1 := lit2 (F := All) (G := All) ruleR_ok (w.alloc Z) 115 _ _ _ _ (z 0 _ i64_0) (z 1 _ i64_1) (fun _ h => h) trivial
  have s2 := lit2 (F := All) (G := All) ruleR_ok ((w.alloc Z).alloc R) 115 _ _ _ _ (z 0 _ i64_0) (z 1 _ i64_1) (fun _ h => h) trivial
  have s1' : SliceR ruleR 2 All (((w.alloc Z).alloc R).alloc R) (some ⟨w.heap.size + 1, 0, none⟩) [⟨0, []⟩, ⟨1, []⟩] := by simpa using s1.below ruleR_ok (bnew (Below.refl _ _) R)
  have s2' : SliceR ruleR 2 All (((w.alloc Z).alloc R).alloc R) (some ⟨w.heap.size + 1 + 1, 0, none⟩) [⟨0, []⟩, ⟨1, []⟩] := by simpa using s2
  have s3 := lit2 (F := All) (G := All) rowR_ok (((w.alloc Z).alloc R).alloc R) 113 _ _ _ _ (row_lit (c := 2) (by decide) (by decide) s1') (row_lit (c := 2) (by decide) (by decide) s2') (fun _ h => h) trivial
  refine bodyPost_ret (v := .agg #[.int .i64 2, .int .i64 2, .slice (some ⟨w.heap.size + 1 + 1 + 1, 0, none⟩) 2 2]) (by simp [results, Try.results77, go_sem]) rfl ⟨_, 2, rfl, by decide, ?_, bnew (bnew (bnew (bnew (Below.refl _ _) _) _) _) _⟩
  unfold setterRs
  simpa [Z, R] using s3

set_option maxHeartbeats 1000000 in
theorem vertex_any (w : World) : Calls Try.prog 75 #[] w (PrcPost w 2 1 vertexRs) := by
  go_enter Try.func75, Try.ntmps75
  go_wp2_with fail
  refine (one_any _ _).mono ?_
  rintro e w2 ⟨rfl, hb2⟩
  have s1 := lit1 (F := Ge (w.heap.size + 1)) (G := Ge (w.heap.size + 1)) ruleR_ok (w.alloc (.cells #[.int .i64 0, .int .i64 0, .slice none 0 0] 47)) 115 _ _ (rule_lit (nx := 1) (c := 0) (oa := none) (st := []) i64_1 (by simp) (by simp) (SliceR.nil _ _ _ _ _)) (fun _ h => h) (by simp [Ge])
  have hx2 := box_then (box_new (box_refl w (.cells #[.int .i64 0, .int .i64 0, .slice none 0 0] 47)) (by simp) (.cells #[.int .i64 1, .slice none 0 0] 115)) (by simp) hb2
  have s1 := s1.below ruleR_ok hb2
  go_wp2_with fail
  refine (one_any _ _).mono ?_
  rintro e w3 ⟨rfl, hb3⟩
  have hx3 := box_then hx2 (by simp) hb3
  have s1 := s1.below ruleR_ok hb3
  have d0 := box_cell hx3 0
  have d1 := box_cell hx3 1
  have d2 := box_cell hx3 2
  simp at d0 d1 d2
  have f0 := box_free hx3 0
  have f1 := box_free hx3 1
  have f2 := box_free hx3 2
  have hsz := box_lt hx3
  have hsz1 : w.heap.size < w3.heap.size + 1 := by omega
  have hsz2 : w.heap.size < w3.heap.size + 1 + 1 := by omega
  have HB := hide ((hx3.block w.heap.size (by omega)).trans (heap_alloc_new w _))
  have S1 := hide s1
  clear s1
  go_wp2_with fail
  have hs3 := set3 w3 w.heap.size (.int .i64 2) (.int .i64 1) (.slice (some ⟨w3.heap.size + 1 + 1, 0, none⟩) 2 2) _ _ _ _ HB.out
  have s1 := S1.out.keep ruleR_ok (same_of_grown hs3.2.1)
  have hbw : Below w.heap.size w (((w3.setCell ⟨w.heap.size, 0, none⟩ (.int .i64 2)).setCell ⟨w.heap.size, 1, none⟩ (.int .i64 1)).setCell ⟨w.heap.size, 2, none⟩ (.slice (some ⟨w3.heap.size + 1 + 1, 0, none⟩) 2 2)) :=
    (below_box hx3).grown hs3.2.1 (below_box hx3).size (fun k hk => by injection hk with hk; omega)
  obtain ⟨h4, _, hB⟩ := hs3
  generalize ((w3.setCell ⟨w.heap.size, 0, none⟩ (.int .i64 2)).setCell ⟨w.heap.size, 1, none⟩ (.int .i64 1)).setCell ⟨w.heap.size, 2, none⟩ (.slice (some ⟨w3.heap.size + 1 + 1, 0, none⟩) 2 2) = w4 at *
  have G4 : Ge (w.heap.size + 1) w4.heap.size := by unfold Ge; omega
  rw [← h4] at hsz hsz1 hsz2 hB ⊢
  have s2 := lit2 (F := Ge (w.heap.size + 1)) (G := Ge (w.heap.size + 1)) outR_ok w4 80 _ _ ⟨1, 0⟩ ⟨2, 0⟩ ⟨rfl, i64_1, i64_0⟩ ⟨rfl, i64_2, i64_0⟩ (fun _ h => h) G4
  have s3 := lit1 (F := Ge (w.heap.size + 1)) (G := Ge (w.heap.size + 1)) ruleR_ok _ 115 _ _ (rule_lit (nx := 0) (c := 2) i64_0 (by decide) (by decide) s2) (fun _ h => h) (by unfold Ge; simp; omega)
  have s1 := (s1.below ruleR_ok (bnew (Below.refl _ _) (.cells #[.int .i64 1, .int .i64 0, .int .i64 2, .int .i64 0] 80))).below ruleR_ok (bnew (Below.refl _ _) (.cells #[.int .i64 0, .slice (some ⟨w4.heap.size, 0, none⟩) 2 2] 115))
  have s4 := lit2 (F := Ge (w.heap.size + 1)) (G := All) rowR_ok _ 113 _ _ _ _ (row_lit (c := 1) (by decide) (by decide) s1) (row_lit (c := 1) (by decide) (by decide) s3) (fun _ _ => trivial) trivial
  have q := fun i => cell_of_row w4 w.heap.size i _ _ _ hB
  have q0 := q 0
  have q1 := q 1
  have q2 := q 2
  simp at q0 q1 q2
  have l0 : w.heap.size < w4.heap.size := hsz
  have S4 := hide s4
  clear s4 s1 s2 s3 q
  refine bodyPost_ret (v := .agg #[.int .i64 2, .int .i64 1, .slice (some ⟨w4.heap.size + 1 + 1, 0, none⟩) 2 2]) (by simp [results, Try.results75, go_sem, q0, q1, q2, hsz, hsz1, hsz2]) rfl ⟨_, 2, rfl, by decide, ?_, bnew (bnew (bnew hbw _) _) _⟩
  have := S4.out
  first | unfold vertexRs | unfold rotorRs
  simpa using this

set_option maxHeartbeats 1000000 in
theorem rotor_any (w : World) : Calls Try.prog 76 #[] w (PrcPost w 2 1 rotorRs) := by
  go_enter Try.func76, Try.ntmps76
  go_wp2_with fail
  refine (one_any _ _).mono ?_
  rintro e w2 ⟨rfl, hb2⟩
  have hx2 := box_then (box_refl w (.cells #[.int .i64 0, .int .i64 0, .slice none 0 0] 47)) (by simp) hb2
  have hsz0 := box_lt hx2
  have s0 := lit1 (F := Ge (w.heap.size + 1)) (G := Ge (w.heap.size + 1)) outR_ok w2 80 _ ⟨1, 0⟩ ⟨rfl, i64_1, i64_0⟩ (fun _ h => h) (by unfold Ge; omega)
  have s1 := lit1 (F := Ge (w.heap.size + 1)) (G := Ge (w.heap.size + 1)) ruleR_ok _ 115 _ _ (rule_lit (nx := 1) (c := 1) i64_1 (by decide) (by decide) s0) (fun _ h => h) (by unfold Ge; simp; omega)
  go_wp2_with fail
  refine (one_any _ _).mono ?_
  rintro e w3 ⟨rfl, hb3⟩
  have s1 := s1.below ruleR_ok hb3
  have hx2 := box_new (box_new hx2 (by simp) (.cells #[.int .i64 1, .int .i64 0] 80)) (by simp) (.cells #[.int .i64 1, .slice (some ⟨w2.heap.size, 0, none⟩) 1 1] 115)
  have hx3 := box_then hx2 (by simp) hb3
  have d0 := box_cell hx3 0
  have d1 := box_cell hx3 1
  have d2 := box_cell hx3 2
  simp at d0 d1 d2
  have f0 := box_free hx3 0
  have f1 := box_free hx3 1
  have f2 := box_free hx3 2
  have hsz := box_lt hx3
  have hsz1 : w.heap.size < w3.heap.size + 1 := by omega
  have hsz2 : w.heap.size < w3.heap.size + 1 + 1 := by omega
  have HB := hide ((hx3.block w.heap.size (by omega)).trans (heap_alloc_new w _))
  have S1 := hide s1
  clear s1
  go_wp2_with fail
  have hs3 := set3 w3 w.heap.size (.int .i64 2) (.int .i64 1) (.slice (some ⟨w3.heap.size + 1 + 1, 0, none⟩) 2 2) _ _ _ _ HB.out
  have s1 := S1.out.keep ruleR_ok (same_of_grown hs3.2.1)
  have hbw : Below w.heap.size w (((w3.setCell ⟨w.heap.size, 0, none⟩ (.int .i64 2)).setCell ⟨w.heap.size, 1, none⟩ (.int .i64 1)).setCell ⟨w.heap.size, 2, none⟩ (.slice (some ⟨w3.heap.size + 1 + 1, 0, none⟩) 2 2)) :=
    (below_box hx3).grown hs3.2.1 (below_box hx3).size (fun k hk => by injection hk with hk; omega)
  obtain ⟨h4, _, hB⟩ := hs3
  generalize ((w3.setCell ⟨w.heap.size, 0, none⟩ (.int .i64 2)).setCell ⟨w.heap.size, 1, none⟩ (.int .i64 1)).setCell ⟨w.heap.size, 2, none⟩ (.slice (some ⟨w3.heap.size + 1 + 1, 0, none⟩) 2 2) = w4 at *
  have G4 : Ge (w.heap.size + 1) w4.heap.size := by unfold Ge; omega
  rw [← h4] at hsz hsz1 hsz2 hB ⊢
  have s2 := lit1 (F := Ge (w.heap.size + 1)) (G := Ge (w.heap.size + 1)) outR_ok w4 80 _ ⟨2, 0⟩ ⟨rfl, i64_2, i64_0⟩ (fun _ h => h) G4
  have s3 := lit1 (F := Ge (w.heap.size + 1)) (G := Ge (w.heap.size + 1)) ruleR_ok _ 115 _ _ (rule_lit (nx := 0) (c := 1) i64_0 (by decide) (by decide) s2) (fun _ h => h) (by unfold Ge; simp; omega)
  have s1 := (s1.below ruleR_ok (bnew (Below.refl _ _) (.cells #[.int .i64 2, .int .i64 0] 80))).below ruleR_ok (bnew (Below.refl _ _) (.cells #[.int .i64 0, .slice (some ⟨w4.heap.size, 0, none⟩) 1 1] 115))
  have s4 := lit2 (F := Ge (w.heap.size + 1)) (G := All) rowR_ok _ 113 _ _ _ _ (row_lit (c := 1) (by decide) (by decide) s1) (row_lit (c := 1) (by decide) (by decide) s3) (fun _ _ => trivial) trivial
  have q := fun i => cell_of_row w4 w.heap.size i _ _ _ hB
  have q0 := q 0
  have q1 := q 1
  have q2 := q 2
  simp at q0 q1 q2
  have l0 : w.heap.size < w4.heap.size := hsz
  have S4 := hide s4
  clear s4 s1 s2 s3 q
  refine bodyPost_ret (v := .agg #[.int .i64 2, .int .i64 1, .slice (some ⟨w4.heap.size + 1 + 1, 0, none⟩) 2 2]) (by simp [results, Try.results76, go_sem, q0, q1, q2, hsz, hsz1, hsz2]) rfl ⟨_, 2, rfl, by decide, ?_, bnew (bnew (bnew hbw _) _) _⟩
  have := S4.out
  first | unfold vertexRs | unfold rotorRs
  simpa using this

end Go.Proofs.Ytmjcjmljnliaoaa

set_option linter.unusedVariables false
set_option linter.unusedSimpArgs false
namespace Go.Proofs.Ytmjcjmljnliaoaa
open Go.RowKit

theorem up {α : Type} {R : Rep α} {sz : Nat} {F : Foot} {w : World} {oa : Option Addr} {xs : List α} (ok : RepOk R sz) (o : Obj) (h : SliceR R sz F w oa xs) : SliceR R sz F (w.alloc o) oa xs := h.below ok (bnew (Below.refl _ _) o)
theorem prc_lit {F : Foot} {w : World} {S L : Int} {oa : Option Addr} {c : Nat} {rs : List (List Rul)} (h : I64 S) (h' : I64 L) (hc : rs.length ≤ c) (hl : rs.length ≤ 1000) (hs : SliceR (slcR ruleR 2) 1 F w oa rs) : prcR F w [.int .i64 S, .int .i64 L, .slice oa rs.length c] ⟨S, L, rs⟩ :=
  ⟨oa, c, rfl, h, h', hc, by show rs.length ≤ _; omega, hs⟩
theorem ints_row {F : Foot} {w : World} {oa : Option Addr} {c : Nat} {row : List Int} (hc : row.length ≤ c) (hl : row.length ≤ 1000) (hs : SliceR intR 1 F w oa row) : slcR intR 1 F w [.slice oa row.length c] row :=
  ⟨oa, c, rfl, hc, by omega, hs⟩
def pairPs : List Prc := [⟨1, 1, [[⟨0, [⟨1, 0⟩]⟩]]⟩, ⟨1, 1, [[⟨0, []⟩]]⟩]
def pairX : Nwk := ⟨pairPs, [0, 0], [[1], [0]]⟩
set_option maxHeartbeats 1000000 in
theorem pair_any (w : World) : Calls Try.prog 61 #[] w fun e w' => ∃ op os ow, e = .returned (.agg #[.slice op 2 2, .slice os 2 2, .slice ow 2 2]) ∧
    SliceR prcR 3 (Ge w.heap.size) w' op pairPs ∧ SliceR intR 1 (Ge w.heap.size) w' os [0, 0] ∧ SliceR (slcR intR 1) 1 (Ge w.heap.size) w' ow [[1], [0]] ∧ Below w.heap.size w w' := by
  go_enter Try.func61, Try.ntmps61
  go_wp2_with fail
  let o0 : Obj := .cells #[.slice (some ⟨w.heap.size + 1 + 1 + 1 + 1 + 1 + 1 + 1 + 1, 0, none⟩) 2 2, .slice (some ⟨w.heap.size + 1 + 1 + 1 + 1 + 1 + 1 + 1 + 1 + 1, 0, none⟩) 2 2, .slice (some ⟨w.heap.size + 1 + 1 + 1 + 1 + 1 + 1 + 1 + 1 + 1 + 1 + 1 + 1, 0, none⟩) 2 2] 26
  let o1 : Obj := .cells #[.int .i64 1, .int .i64 0] 80
  let o2 : Obj := .cells #[.int .i64 0, .slice (some ⟨w.heap.size + 1, 0, none⟩) 1 1] 115
  let o3 : Obj := .cells #[.slice (some ⟨w.heap.size + 1 + 1, 0, none⟩) 1 1] 113
  let o4 : Obj := .cells #[.int .i64 1, .int .i64 1, .slice (some ⟨w.heap.size + 1 + 1 + 1, 0, none⟩) 1 1] 47
  let o5 : Obj := .cells #[.int .i64 0, .slice none 0 0] 115
  let o6 : Obj := .cells #[.slice (some ⟨w.heap.size + 1 + 1 + 1 + 1 + 1, 0, none⟩) 1 1] 113
  let o7 : Obj := .cells #[.int .i64 1, .int .i64 1, .slice (some ⟨w.heap.size + 1 + 1 + 1 + 1 + 1 + 1, 0, none⟩) 1 1] 47
  let o8 : Obj := .cells #[.int .i64 1, .int .i64 1, .slice (some ⟨w.heap.size + 1 + 1 + 1, 0, none⟩) 1 1, .int .i64 1, .int .i64 1, .slice (some ⟨w.heap.size + 1 + 1 + 1 + 1 + 1 + 1, 0, none⟩) 1 1] 47
  let o9 : Obj := .cells #[.int .i64 0, .int .i64 0] 3
  let o10 : Obj := .cells #[.int .i64 1] 3
  let o11 : Obj := .cells #[.int .i64 0] 3
  let o12 : Obj := .cells #[.slice (some ⟨w.heap.size + 1 + 1 + 1 + 1 + 1 + 1 + 1 + 1 + 1 + 1, 0, none⟩) 1 1, .slice (some ⟨w.heap.size + 1 + 1 + 1 + 1 + 1 + 1 + 1 + 1 + 1 + 1 + 1, 0, none⟩) 1 1] 22
  have s1 : SliceR (outR) 2 (Ge w.heap.size) ((w.alloc o0).alloc o1) (some ⟨w.heap.size + 1, 0, none⟩) [⟨1, 0⟩] := by simpa [o0, o1] using lit1 (F := Ge w.heap.size) (G := Ge w.heap.size) outR_ok (w.alloc o0) 80 _ ⟨1, 0⟩ ⟨rfl, i64_1, i64_0⟩ (fun _ h => h) (by unfold Ge; simp; try omega)
  have s2 : SliceR (ruleR) 2 (Ge w.heap.size) (((w.alloc o0).alloc o1).alloc o2) (some ⟨w.heap.size + 1 + 1, 0, none⟩) [⟨0, [⟨1, 0⟩]⟩] := by simpa [o0, o1, o2] using lit1 (F := Ge w.heap.size) (G := Ge w.heap.size) ruleR_ok ((w.alloc o0).alloc o1) 115 _ _ (rule_lit (nx := 0) (c := 1) i64_0 (by decide) (by decide) s1) (fun _ h => h) (by unfold Ge; simp; try omega)
  have s3 : SliceR (slcR ruleR 2) 1 (Ge w.heap.size) ((((w.alloc o0).alloc o1).alloc o2).alloc o3) (some ⟨w.heap.size + 1 + 1 + 1, 0, none⟩) [[⟨0, [⟨1, 0⟩]⟩]] := by simpa [o0, o1, o2, o3] using lit1 (F := Ge w.heap.size) (G := Ge w.heap.size) rowR_ok (((w.alloc o0).alloc o1).alloc o2) 113 _ _ (row_lit (c := 1) (by decide) (by decide) s2) (fun _ h => h) (by unfold Ge; simp; try omega)
  have s5 : SliceR (ruleR) 2 (Ge w.heap.size) ((((((w.alloc o0).alloc o1).alloc o2).alloc o3).alloc o4).alloc o5) (some ⟨w.heap.size + 1 + 1 + 1 + 1 + 1, 0, none⟩) [⟨0, []⟩] := by simpa [o0, o1, o2, o3, o4, o5] using lit1 (F := Ge w.heap.size) (G := Ge w.heap.size) ruleR_ok (((((w.alloc o0).alloc o1).alloc o2).alloc o3).alloc o4) 115 _ _ (rule_lit (nx := 0) (c := 0) (oa := none) (st := []) i64_0 (by simp) (by simp) (SliceR.nil _ _ _ _ _)) (fun _ h => h) (by unfold Ge; simp; try omega)
  have s6 : SliceR (slcR ruleR 2) 1 (Ge w.heap.size) (((((((w.alloc o0).alloc o1).alloc o2).alloc o3).alloc o4).alloc o5).alloc o6) (some ⟨w.heap.size + 1 + 1 + 1 + 1 + 1 + 1, 0, none⟩) [[⟨0, []⟩]] := by simpa [o0, o1, o2, o3, o4, o5, o6] using lit1 (F := Ge w.heap.size) (G := Ge w.heap.size) rowR_ok ((((((w.alloc o0).alloc o1).alloc o2).alloc o3).alloc o4).alloc o5) 113 _ _ (row_lit (c := 1) (by decide) (by decide) s5) (fun _ h => h) (by unfold Ge; simp; try omega)
  have s8 : SliceR (prcR) 3 (Ge w.heap.size) (((((((((w.alloc o0).alloc o1).alloc o2).alloc o3).alloc o4).alloc o5).alloc o6).alloc o7).alloc o8) (some ⟨w.heap.size + 1 + 1 + 1 + 1 + 1 + 1 + 1 + 1, 0, none⟩) pairPs := by unfold pairPs; simpa [o0, o1, o2, o3, o4, o5, o6, o7, o8] using lit2 (F := Ge w.heap.size) (G := Ge w.heap.size) prcR_ok ((((((((w.alloc o0).alloc o1).alloc o2).alloc o3).alloc o4).alloc o5).alloc o6).alloc o7) 47 _ _ ⟨1, 1, [[⟨0, [⟨1, 0⟩]⟩]]⟩ ⟨1, 1, [[⟨0, []⟩]]⟩ (prc_lit (c := 1) i64_1 i64_1 (by decide) (by decide) (up rowR_ok o7 (up rowR_ok o6 (up rowR_ok o5 (up rowR_ok o4 s3))))) (prc_lit (c := 1) i64_1 i64_1 (by decide) (by decide) (up rowR_ok o7 s6)) (fun _ h => h) (by unfold Ge; simp; try omega)
  have s9 : SliceR (intR) 1 (Ge w.heap.size) ((((((((((w.alloc o0).alloc o1).alloc o2).alloc o3).alloc o4).alloc o5).alloc o6).alloc o7).alloc o8).alloc o9) (some ⟨w.heap.size + 1 + 1 + 1 + 1 + 1 + 1 + 1 + 1 + 1, 0, none⟩) [0, 0] := by simpa [o0, o1, o2, o3, o4, o5, o6, o7, o8, o9] using ints_lit (F := Ge w.heap.size) (G := Ge w.heap.size) (((((((((w.alloc o0).alloc o1).alloc o2).alloc o3).alloc o4).alloc o5).alloc o6).alloc o7).alloc o8) 3 [0, 0] (by intro x hx; simp at hx; subst hx; exact i64_0) (by unfold Ge; simp; try omega)
  have s10 : SliceR (intR) 1 (Ge w.heap.size) (((((((((((w.alloc o0).alloc o1).alloc o2).alloc o3).alloc o4).alloc o5).alloc o6).alloc o7).alloc o8).alloc o9).alloc o10) (some ⟨w.heap.size + 1 + 1 + 1 + 1 + 1 + 1 + 1 + 1 + 1 + 1, 0, none⟩) [1] := by simpa [o0, o1, o2, o3, o4, o5, o6, o7, o8, o9, o10] using ints_lit (F := Ge w.heap.size) (G := Ge w.heap.size) ((((((((((w.alloc o0).alloc o1).alloc o2).alloc o3).alloc o4).alloc o5).alloc o6).alloc o7).alloc o8).alloc o9) 3 [1] (by intro x hx; simp at hx; subst hx; exact i64_1) (by unfold Ge; simp; try omega)
  have s11 : SliceR (intR) 1 (Ge w.heap.size) ((((((((((((w.alloc o0).alloc o1).alloc o2).alloc o3).alloc o4).alloc o5).alloc o6).alloc o7).alloc o8).alloc o9).alloc o10).alloc o11) (some ⟨w.heap.size + 1 + 1 + 1 + 1 + 1 + 1 + 1 + 1 + 1 + 1 + 1, 0, none⟩) [0] := by simpa [o0, o1, o2, o3, o4, o5, o6, o7, o8, o9, o10, o11] using ints_lit (F := Ge w.heap.size) (G := Ge w.heap.size) (((((((((((w.alloc o0).alloc o1).alloc o2).alloc o3).alloc o4).alloc o5).alloc o6).alloc o7).alloc o8).alloc o9).alloc o10) 3 [0] (by intro x hx; simp at hx; subst hx; exact i64_0) (by unfold Ge; simp; try omega)
  have s12 : SliceR (slcR intR 1) 1 (Ge w.heap.size) (((((((((((((w.alloc o0).alloc o1).alloc o2).alloc o3).alloc o4).alloc o5).alloc o6).alloc o7).alloc o8).alloc o9).alloc o10).alloc o11).alloc o12) (some ⟨w.heap.size + 1 + 1 + 1 + 1 + 1 + 1 + 1 + 1 + 1 + 1 + 1 + 1, 0, none⟩) [[1], [0]] := by simpa [o0, o1, o2, o3, o4, o5, o6, o7, o8, o9, o10, o11, o12] using lit2 (F := Ge w.heap.size) (G := Ge w.heap.size) tabR_ok ((((((((((((w.alloc o0).alloc o1).alloc o2).alloc o3).alloc o4).alloc o5).alloc o6).alloc o7).alloc o8).alloc o9).alloc o10).alloc o11) 22 _ _ [1] [0] (ints_row (c := 1) (by decide) (by decide) (up intR_ok o11 s10)) (ints_row (c := 1) (by decide) (by decide) s11) (fun _ h => h) (by unfold Ge; simp; try omega)
  refine bodyPost_ret (v := .agg #[.slice (some ⟨w.heap.size + 1 + 1 + 1 + 1 + 1 + 1 + 1 + 1, 0, none⟩) 2 2, .slice (some ⟨w.heap.size + 1 + 1 + 1 + 1 + 1 + 1 + 1 + 1 + 1, 0, none⟩) 2 2, .slice (some ⟨w.heap.size + 1 + 1 + 1 + 1 + 1 + 1 + 1 + 1 + 1 + 1 + 1 + 1, 0, none⟩) 2 2]) (by simp [results, Try.results61, go_sem]) rfl ⟨_, _, _, rfl, ?_, ?_, ?_, ?_⟩
  · exact (up prcR_ok o12 (up prcR_ok o11 (up prcR_ok o10 (up prcR_ok o9 s8))))
  · exact (up intR_ok o12 (up intR_ok o11 (up intR_ok o10 s9)))
  · exact s12
  · exact (bnew (bnew (bnew (bnew (bnew (bnew (bnew (bnew (bnew (bnew (bnew (bnew (bnew (Below.refl _ _) _) _) _) _) _) _) _) _) _) _) _) _) _)

def pairOkX (fates : List Int) (t s : Nat) : Bool :=
  (List.range t).all (fun i => busyS (wireAt pairX fates i)) && !busyS (wireAt pairX fates t) && (wireAt pairX fates t).se == s && (wireAt pairX fates t).ct == [[1], [1]]
theorem pairX_none : pairOkX [] 3 2 = true := by decide +kernel
theorem pairX_lost : pairOkX [1] 7 3 = true := by decide +kernel
theorem pairX_twice : pairOkX [2] 4 3 = true := by decide +kernel
theorem pairX_one : (wireAt pairX [] 1).fl.length = 1 ∧ queuedS (wireAt pairX [] 1).ls = 1 ∧ busyS (wireAt pairX [] 1) = true := by decide +kernel
theorem pairX_right : netErr pairX = 0 := by decide +kernel
theorem pairX_few : ∀ t ∈ pairX.waiting, ∀ k ∈ t, k ≤ 40 := by decide
def SnapIs (F : Foot) (w : World) (T S : Int) (v : Value) (s : Snp) : Prop := SnapF F w v s ∧ s.ticks = T ∧ s.sent = S ∧ s.net.waiting.length ≤ 9223372036854775807 ∧ s.counts.length ≤ 9223372036854775807
theorem seen_len {x : Nwk} (h : Right x) (fates : List Int) {t : Nat} (ht : t ≤ 4096) : (seenS x.procs (wireAt x fates t)).net.waiting.length = x.procs.length ∧ (seenS x.procs (wireAt x fates t)).counts.length = x.procs.length ∧ (seenS x.procs (wireAt x fates t)).net.state.length = x.procs.length :=
  have hi := wireAt_inv h fates ht
  ⟨hi.nwt, hi.nct, hi.nst⟩
theorem pair_run (op os ow oF : Option Addr) (fates : List Int) (cF : Nat) (T S : Nat) (w : World) (hk : pairOkX fates T S = true) (hT : T ≤ 20) (hf : fateErr fates = 0) (hF : SliceR intR 1 All w oF fates) {F : Foot}
    (hp : SliceR prcR 3 F w op pairPs) (hs : SliceR intR 1 F w os [0, 0]) (ht : SliceR (slcR intR 1) 1 F w ow [[1], [0]]) :
    Calls Try.prog 23 #[.agg #[.slice op 2 2, .slice os 2 2, .slice ow 2 2], .slice oF fates.length cF, .int .i64 20] w fun e w' => ∃ v s, e = .returned (.tuple #[v, .int .i64 0]) ∧ SnapIs (fun k => F k ∨ w.heap.size ≤ k) w' T S v s ∧ quietS s = true ∧ s.counts = [[1], [1]] ∧ Below w.heap.size w w' := by
  have hr := netErr_zero pairX_right
  simp only [pairOkX, Bool.and_eq_true, List.all_eq_true, List.mem_range, Bool.not_eq_true', beq_iff_eq] at hk
  obtain ⟨⟨⟨k1, k2⟩, k3⟩, k4⟩ := hk
  have hq : quietAt pairX.procs.length (nextP pairX.procs) (sentP pairX.procs) fates (beginS pairX.state pairX.waiting pairX.procs.length) 20 = some T := quietAt_some hT k2 k1
  refine (run_any pairX op 2 os 2 ow 2 fates oF cF 20 F All w hp hs ht pairX_right hF hf (by decide) (by decide) (by omega) (fun t ht => wireAt_never hr fates pairX_few (by omega))).mono ?_
  rintro e w' ⟨v, c, rfl, hv, hb⟩
  rw [hq] at hv
  obtain ⟨rfl, hv⟩ := hv
  have hl := seen_len hr fates (t := T) (by omega)
  refine ⟨v, _, rfl, ⟨hv, ?_, ?_, ?_, ?_⟩, ?_, k4, hb⟩
  · show ((wireAt pairX fates T).tk : Int) = T
    rw [wireAt_tk]
  · show ((wireAt pairX fates T).se : Int) = S
    rw [k3]
  · rw [hl.1]; decide
  · rw [hl.2.1]; decide
  · rw [quietS_seen, k2]; rfl
theorem pair_run_n (op os ow oF : Option Addr) (fates : List Int) (cF n : Nat) (T S : Nat) (w : World) (hn : n = fates.length) (hk : pairOkX fates T S = true) (hT : T ≤ 20) (hf : fateErr fates = 0) (hF : SliceR intR 1 All w oF fates) {F : Foot}
    (hp : SliceR prcR 3 F w op pairPs) (hs : SliceR intR 1 F w os [0, 0]) (ht : SliceR (slcR intR 1) 1 F w ow [[1], [0]]) :
    Calls Try.prog 23 #[.agg #[.slice op 2 2, .slice os 2 2, .slice ow 2 2], .slice oF n cF, .int .i64 20] w fun e w' => ∃ v s, e = .returned (.tuple #[v, .int .i64 0]) ∧ SnapIs (fun k => F k ∨ w.heap.size ≤ k) w' T S v s ∧ quietS s = true ∧ s.counts = [[1], [1]] ∧ Below w.heap.size w w' := by
  subst hn
  exact pair_run op os ow oF fates cF T S w hk hT hf hF hp hs ht
theorem pair_after (op os ow : Option Addr) (w : World) {F : Foot} (hp : SliceR prcR 3 F w op pairPs) (hs : SliceR intR 1 F w os [0, 0]) (ht : SliceR (slcR intR 1) 1 F w ow [[1], [0]]) :
    Calls Try.prog 24 #[.agg #[.slice op 2 2, .slice os 2 2, .slice ow 2 2], .slice none 0 0, .int .i64 1] w fun e w' => ∃ v s, e = .returned (.tuple #[v, .int .i64 0]) ∧ SnapF (fun k => F k ∨ w.heap.size ≤ k) w' v s ∧ s.flying = 1 ∧ s.queued = 1 ∧ s.net.waiting.length ≤ 9223372036854775807 ∧ quietS s = false ∧ Below w.heap.size w w' := by
  have hr := netErr_zero pairX_right
  refine (after_any pairX op 2 os 2 ow 2 [] none 0 1 F All w hp hs ht pairX_right (SliceR.nil _ _ _ _ _) (by decide) (by decide) (by decide) (by omega) (fun t ht => wireAt_never hr [] pairX_few (by omega))).mono ?_
  rintro e w' ⟨v, rfl, hv, hb⟩
  obtain ⟨f1, f2, f3⟩ := pairX_one
  refine ⟨v, _, rfl, hv, ?_, ?_, ?_, ?_, hb⟩
  · show (((wireAt pairX [] 1).fl.length : Nat) : Int) = 1
    rw [f1]; rfl
  · show ((queuedS (wireAt pairX [] 1).ls : Nat) : Int) = 1
    rw [f2]; rfl
  · rw [(seen_len hr [] (t := 1) (by omega)).1]; decide
  · rw [quietS_seen, f3]; rfl

end Go.Proofs.Ytmjcjmljnliaoaa

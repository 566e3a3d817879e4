/-
  From the reading of an argument to the list or the structure that it stands for.
-/
import Derived.Test.YtmjcjmljnliaoaaProg
import Derived.Test.YtmjcjmljnliaoaaData
import Derived.ProofKit
import Derived.Deep.Slices
import Derived.Lib.RowBridge
set_option linter.unusedVariables false
namespace Go.Proofs.Ytmjcjmljnliaoaa
open Go.RowKit Go.ChangeShapes Go.WideShapes Go.ChangeAt Go.Deep

section
variable {H : Type} {enc : TypeId × Value → H} {P : Program} {w : World} {base : Nat} {spare : Nat → Bool} {held : Bool}

/-- Whatever reads as data of type t stands for something. -/
def ReadsAs {α : Type} (enc : TypeId × Value → H) (P : Program) (w : World) (base : Nat) (spare : Nat → Bool) (held : Bool) (t : TypeId) (R : Rep α) : Prop :=
  ∀ fuel cs x, DataW.trod enc P w base spare held fuel t cs = some x → ∃ y, R All w cs y

theorem ReadsAs.int {t : TypeId} (ht : P.underlying t = some (.int .i64)) : ReadsAs enc P w base spare held t intR := by
  intro fuel cs x h
  obtain ⟨n, rfl, _, hw⟩ := DataW.trod_int ht h
  refine ⟨n, rfl, ?_⟩
  simpa [Lit.wf, IntKind.min, IntKind.max, IntKind.signed, IntKind.bits, I64] using hw

theorem listOf {α : Type} {Q : Nat → α → Prop} : ∀ n, (∀ i, i < n → ∃ y, Q i y) → ∃ ys : List α, ys.length = n ∧ ∀ i y, ys[i]? = some y → Q i y
  | 0, _ => ⟨[], rfl, by simp⟩
  | n + 1, h => by
    obtain ⟨ys, hl, hq⟩ := listOf n fun i hi => h i (by omega)
    obtain ⟨y, hy⟩ := h n (by omega)
    refine ⟨ys ++ [y], by simp [hl], fun i z hz => ?_⟩
    rcases Nat.lt_or_ge i n with hi | hi
    · rw [List.getElem?_append_left (by omega)] at hz
      exact hq i z hz
    · rw [List.getElem?_append_right (by omega)] at hz
      have : i - ys.length = 0 := by
        rcases Nat.eq_zero_or_pos (i - ys.length) with h0 | h0
        · exact h0
        · rw [List.getElem?_eq_none (by simp; omega)] at hz; cases hz
      rw [this] at hz
      simp at hz
      subst hz
      have : i = n := by omega
      subst this
      exact hy

theorem ReadsAs.slice {α : Type} {R : Rep α} {sz : Nat} {t e : TypeId} (ok : RepOk R sz) (hsz : 0 < sz) (ht : P.underlying t = some (.slice e)) (hC : P.cellsOf e = sz) (hR : ReadsAs enc P w base spare held e R) :
    ReadsAs enc P w base spare held t (slcR R sz) := by
  intro fuel cs x h
  rcases open_slice ht h with ⟨rfl, _⟩ | ⟨a, len, cap, m, n, D, Pl, rfl, _, hl, hm, hmm, _, hi⟩
  · exact ⟨[], none, 0, rfl, by simp, by simp, SliceR.nil _ _ _ _ _⟩
  · have hlm : len ≤ m := by rw [hmm]; split <;> omega
    have key : ∀ i, i < len → ∃ y cs', R All w cs' y ∧ ∀ j, j < sz → w.cell? ((a.add (i * sz)).add j) = cs'[j]? := by
      intro i hil
      obtain ⟨cs', hc, hd⟩ := hi i (by omega)
      rw [hC] at hc
      obtain ⟨_, hcl, hat⟩ := World.cells?_some hc
      obtain ⟨y, hy⟩ := hR _ _ _ hd
      exact ⟨y, cs', hy, hat⟩
    rcases Nat.eq_zero_or_pos len with h0 | h0
    · subst h0
      exact ⟨[], some a, cap, rfl, by simp, by simp, SliceR.nil _ _ _ _ _⟩
    obtain ⟨y0, cs0, hR0, hat0⟩ := key 0 h0
    obtain ⟨b, off, spot⟩ := a
    have hspot : spot = none := by
      have h1 := hat0 0 hsz
      have h2 : cs0[0]? = some (cs0[0]'(by rw [ok.len hR0]; exact hsz)) := List.getElem?_eq_getElem _
      rw [h2] at h1
      simpa [Addr.add] using World.cell?_spot h1
    subst hspot
    obtain ⟨ys, hyl, hyq⟩ := listOf len key
    refine ⟨ys, some ⟨b, off, none⟩, cap, by rw [hyl], by omega, by unfold maxLen at hm; omega, fun i y hy => ?_⟩
    obtain ⟨cs', hRy, hat⟩ := hyq i y hy
    refine ⟨b, off, cs', rfl, trivial, hRy, fun j u hu => ?_⟩
    have hj : j < sz := by rw [← ok.len hRy]; exact (List.getElem?_eq_some_iff.1 hu).1
    have := hat j hj
    rw [Addr.add_lit, Addr.add_lit, hu] at this
    exact this

theorem part2 {f0 f1 : Field} {t : TypeId} {fuel : Nat} {cs : List Value} {x : DataW H × List MemPlace} (hs : P.underlying t = some (.struct #[f0, f1])) (o0 : f0.offset = 0) (o1 : f1.offset = 1) (k0 : P.cellsOf f0.type = 1) (k1 : P.cellsOf f1.type = 1) (kt : P.cellsOf t = 2)
    (h : DataW.trod enc P w base spare held fuel t cs = some x) : ∃ c0 c1 n y0 y1, cs = [c0, c1] ∧ DataW.trod enc P w base spare held n f0.type [c0] = some y0 ∧ DataW.trod enc P w base spare held n f1.type [c1] = some y1 := by
  obtain ⟨xs, n, _, _, hcl, hxl, hg⟩ := DataW.trod_struct hs h
  rw [kt] at hcl
  match cs, hcl, xs, hxl with
  | [c0, c1], _, [y0, y1], _ =>
    exact ⟨c0, c1, n, y0, y1, rfl, by simpa [o0, k0] using hg 0 f0 rfl, by simpa [o1, k1] using hg 1 f1 rfl⟩
theorem part3 {f0 f1 f2 : Field} {t : TypeId} {fuel : Nat} {cs : List Value} {x : DataW H × List MemPlace} (hs : P.underlying t = some (.struct #[f0, f1, f2])) (o0 : f0.offset = 0) (o1 : f1.offset = 1) (o2 : f2.offset = 2) (k0 : P.cellsOf f0.type = 1) (k1 : P.cellsOf f1.type = 1) (k2 : P.cellsOf f2.type = 1) (kt : P.cellsOf t = 3)
    (h : DataW.trod enc P w base spare held fuel t cs = some x) : ∃ c0 c1 c2 n y0 y1 y2, cs = [c0, c1, c2] ∧ DataW.trod enc P w base spare held n f0.type [c0] = some y0 ∧ DataW.trod enc P w base spare held n f1.type [c1] = some y1 ∧ DataW.trod enc P w base spare held n f2.type [c2] = some y2 := by
  obtain ⟨xs, n, _, _, hcl, hxl, hg⟩ := DataW.trod_struct hs h
  rw [kt] at hcl
  match cs, hcl, xs, hxl with
  | [c0, c1, c2], _, [y0, y1, y2], _ =>
    exact ⟨c0, c1, c2, n, y0, y1, y2, rfl, by simpa [o0, k0] using hg 0 f0 rfl, by simpa [o1, k1] using hg 1 f1 rfl, by simpa [o2, k2] using hg 2 f2 rfl⟩

theorem agg_cells {r : Reach} {b0 : Nat} {t : TypeId} {fs : Array Field} {v : Value} {d : DataW H} {p : List MemPlace} (hs : P.underlying t = some (.struct fs))
    (hv : Value.okWide P w r b0 t v) (h : DataW.Trod enc P w base spare held t v d p) : ∃ l fuel, v = .agg ⟨l⟩ ∧ DataW.trod enc P w base spare held fuel t l = some (d, p) := by
  obtain ⟨cs, rfl, _⟩ := okWide_struct hs hv
  obtain ⟨l⟩ := cs
  obtain ⟨fuel, hf⟩ := h
  exact ⟨l, fuel, rfl, by simpa [Value.cells] using hf⟩
end

section
variable {H : Type} {enc : TypeId × Value → H} {w : World} {base : Nat} {spare : Nat → Bool} {held : Bool}
theorem reads_int : ReadsAs enc Try.prog w base spare held 3 intR := ReadsAs.int Try.underlying3
theorem reads_ints : ReadsAs enc Try.prog w base spare held 22 (slcR intR 1) := ReadsAs.slice intR_ok (by omega) Try.underlying22 (by kernel_rfl) reads_int
theorem reads_out : ReadsAs enc Try.prog w base spare held 80 outR := by
  intro fuel cs x h
  obtain ⟨c0, c1, n, y0, y1, rfl, h0, h1⟩ := part2 Try.underlying80 rfl rfl (by kernel_rfl) (by kernel_rfl) (by kernel_rfl) h
  obtain ⟨a, h2, h3⟩ := reads_int _ _ _ h0
  obtain ⟨b, h4, h5⟩ := reads_int _ _ _ h1
  simp at h2 h4
  subst h2 h4
  exact ⟨⟨a, b⟩, rfl, h3, h5⟩
theorem reads_outs : ReadsAs enc Try.prog w base spare held 56 (slcR outR 2) := ReadsAs.slice outR_ok (by omega) Try.underlying56 (by kernel_rfl) reads_out
theorem reads_rule : ReadsAs enc Try.prog w base spare held 115 ruleR := by
  intro fuel cs x h
  obtain ⟨c0, c1, n, y0, y1, rfl, h0, h1⟩ := part2 Try.underlying115 rfl rfl (by kernel_rfl) (by kernel_rfl) (by kernel_rfl) h
  obtain ⟨a, h2, h3⟩ := reads_int _ _ _ h0
  obtain ⟨st, oa, c, h4, h5, h6, h7⟩ := reads_outs _ _ _ h1
  simp at h2 h4
  subst h2 h4
  exact ⟨⟨a, st⟩, oa, c, rfl, h3, h5, h6, h7⟩
theorem reads_row : ReadsAs enc Try.prog w base spare held 113 (slcR ruleR 2) := ReadsAs.slice ruleR_ok (by omega) Try.underlying113 (by kernel_rfl) reads_rule
theorem reads_rows : ReadsAs enc Try.prog w base spare held 45 (slcR (slcR ruleR 2) 1) := ReadsAs.slice rowR_ok (by omega) Try.underlying45 (by kernel_rfl) reads_row
theorem reads_prc : ReadsAs enc Try.prog w base spare held 47 prcR := by
  intro fuel cs x h
  obtain ⟨c0, c1, c2, n, y0, y1, y2, rfl, h0, h1, h2⟩ := part3 Try.underlying47 rfl rfl rfl (by kernel_rfl) (by kernel_rfl) (by kernel_rfl) (by kernel_rfl) h
  obtain ⟨a, ha, ia⟩ := reads_int _ _ _ h0
  obtain ⟨b, hb, ib⟩ := reads_int _ _ _ h1
  obtain ⟨rs, oa, c, h4, h5, h6, h7⟩ := reads_rows _ _ _ h2
  simp at ha hb h4
  subst ha hb h4
  exact ⟨⟨a, b, rs⟩, oa, c, rfl, ia, ib, h5, h6, h7⟩

set_option maxRecDepth 100000 in
theorem open_prc {r : Reach} {b0 : Nat} {v : Value} {d : DataW H} {p : List MemPlace} (hv : Value.okWide Try.prog w r b0 47 v) (h : DataW.Trod enc Try.prog w base spare held 47 v d p) :
    ∃ S L rs oa c, v = .agg #[.int .i64 S, .int .i64 L, .slice oa rs.length c] ∧ I64 S ∧ I64 L ∧ rs.length ≤ c ∧ rs.length ≤ 9223372036854775807 ∧ SliceR (slcR ruleR 2) 1 All w oa rs := by
  obtain ⟨l, fuel, rfl, hf⟩ := agg_cells Try.underlying47 hv h
  obtain ⟨⟨S, L, rs⟩, oa, c, rfl, h1, h2, h3, h4, h5⟩ := reads_prc _ _ _ hf
  exact ⟨S, L, rs, oa, c, rfl, h1, h2, h3, h4, h5⟩
set_option maxRecDepth 100000 in
theorem open_i64 {r : Reach} {b0 : Nat} {v : Value} {d : DataW H} {p : List MemPlace} (hv : Value.okWide Try.prog w r b0 3 v) (h : DataW.Trod enc Try.prog w base spare held 3 v d p) :
    ∃ n, v = .int .i64 n ∧ I64 n := by
  obtain ⟨n, rfl, rfl, rfl, hw⟩ := open_int Try.underlying3 hv h
  exact ⟨n, rfl, by simpa [Lit.wf, IntKind.min, IntKind.max, IntKind.signed, IntKind.bits, I64] using hw⟩
set_option maxRecDepth 100000 in
theorem open_is {r : Reach} {b0 : Nat} {v : Value} {d : DataW H} {p : List MemPlace} (hv : Value.okWide Try.prog w r b0 22 v) (h : DataW.Trod enc Try.prog w base spare held 22 v d p) :
    ∃ xs oa c, v = .slice oa xs.length c ∧ xs.length ≤ c ∧ xs.length ≤ 9223372036854775807 ∧ SliceR intR 1 All w oa xs := by
  obtain ⟨oa, n, c, rfl⟩ := okWide_slice Try.underlying22 hv
  obtain ⟨fuel, hf⟩ := h
  obtain ⟨xs, oa', c', h1, h2, h3, h4⟩ := reads_ints _ _ _ hf
  simp [Value.cells] at h1
  obtain ⟨rfl, rfl, rfl⟩ := h1
  exact ⟨xs, _, _, rfl, h2, h3, h4⟩
set_option maxRecDepth 100000 in
theorem open_outs {r : Reach} {b0 : Nat} {v : Value} {d : DataW H} {p : List MemPlace} (hv : Value.okWide Try.prog w r b0 56 v) (h : DataW.Trod enc Try.prog w base spare held 56 v d p) :
    ∃ xs oa c, v = .slice oa xs.length c ∧ xs.length ≤ c ∧ xs.length ≤ 9223372036854775807 ∧ SliceR outR 2 All w oa xs := by
  obtain ⟨oa, n, c, rfl⟩ := okWide_slice Try.underlying56 hv
  obtain ⟨fuel, hf⟩ := h
  obtain ⟨xs, oa', c', h1, h2, h3, h4⟩ := reads_outs _ _ _ hf
  simp [Value.cells] at h1
  obtain ⟨rfl, rfl, rfl⟩ := h1
  exact ⟨xs, _, _, rfl, h2, h3, h4⟩
end

theorem own_knob : ownKnob Try.prog.godebug = none := by kernel_rfl
theorem laid_out : laidOutB Try.prog = true := by kernel_rfl

end Go.Proofs.Ytmjcjmljnliaoaa

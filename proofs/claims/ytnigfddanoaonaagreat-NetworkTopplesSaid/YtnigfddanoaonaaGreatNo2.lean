/-
  The wire machine in plain Lean: what stays true of it while it goes on, and how great its numbers become.
  The wire machine over a right network: its rules are within bounds.
  The reference of networks: Few, Small, Commutes.
  slices.Clone at the lists of a network (printed by wip/mkClone.py).
  A slice of the call's own of which one element is open: a store into an element of a list of lists. No program is named here.
  The wire machine: processors with lists of their own.
  append to a slice of the call's own, as one step of a region that draws its order. No program is named here.
  append of one element to a slice of the call's own, as one step of a region that draws its order: and where the new slice lies. No program is named here.
  network.copied: a network that shares no memory with the given one.
  A network that runs, in memory: start, network, moves.
  network.Check, whole.
  Rows of outputs: swapping two parts of the same length, and rotating two parts.
  Merging two sorted lists: plain Lean.
  The merge of two sorted parts of a row: one part has one element.
  The merge of two sorted parts of a row: the second part has one element.
  The merge of two sorted parts of a row: both parts have at least two elements.
  The stable sort of a row of outputs: blocks of 20, then merges.
  The examples of chapter 54: Vertex, Rotor, Setter.
  awake: the examples of chapter 54 hold.
  The walk of ProcessorRuns.
  The walk of ProcessorCommutes.
  right: whether a processor, a state and a word are right and small.
  slices.Grow of the nil slice, and slices.Concat, at lists of outputs.
  The walk of ProcessorSplits.
  slices.Min of ints: whether it is negative.
  slices.Repeat of a list of one integer.
  Counts of letters: the least count, the error of counts, the word of counts.
  The word of counts and the error of counts: the reference.
  The error of counts: the reference.
  Many: the program.
  An abelian processor reads a word in whatever order with the same end and the same outputs up to order.
  network.Abelian, network.Moves.
  The wire machine: letters that were acknowledged are removed.
  The wire machine: packets are sent.
  The wire machine in memory: the letters of a line grow.
  slices.IndexFunc and slices.ContainsFunc at the closures of the wire machine (printed by wip/mkIdx.py).
  The wire machine: a packet that arrives is handled.
-/
import Derived.Test.YtnigfddanoaonaaGreatNo1
import Derived.Test.YtnigfddanoaonaaGreatProg
import Derived.WalkKit
import Derived.BigQuiet
import Derived.Deep.RegionHeld3
import Derived.Deep.RegionLaw
import Derived.Deep.AppendLies
import Derived.Deep.LoopGhost
import Derived.Deep.DeepCutAuto
import Derived.Laws.ResultCell
import Derived.Lib.AppendZeros
import Derived.Deep.QuietTactic
import Derived.StillTailTactics
import Derived.Laws.CopyOwn
import Derived.OwnWalk
import Derived.Laws.Bits64b

set_option linter.unusedVariables false
set_option linter.unusedSimpArgs false
set_option linter.unnecessarySimpa false
namespace Go.Proofs.YtnigfddanoaonaaGreat
open Go.RowKit

def Ln.tot (l : Ln) : Nat := l.rm + l.q.length
def Pk.L : Pk → Int
  | .lett _ _ _ => 1
  | .ack _ _ => 0
def Pk.W : Pk → Int
  | .lett _ _ _ => 3
  | .ack _ _ => 1
def Lc : List (Pk × Nat) → Int
  | [] => 0
  | a :: r => a.1.L + Lc r
def Wc : List (Pk × Nat) → Int
  | [] => 0
  | a :: r => a.1.W + Wc r
theorem Pk.L_nonneg (p : Pk) : 0 ≤ p.L := by cases p <;> simp [Pk.L]
theorem Pk.W_pos (p : Pk) : 1 ≤ p.W := by cases p <;> simp [Pk.W]
theorem Lc_nonneg : ∀ l, 0 ≤ Lc l
  | [] => by simp [Lc]
  | a :: r => by have := Lc_nonneg r; have := a.1.L_nonneg; simp only [Lc]; omega
theorem Lc_append : ∀ l k, Lc (l ++ k) = Lc l + Lc k
  | [], k => by simp [Lc]
  | a :: r, k => by simp only [List.cons_append, Lc, Lc_append r k]; omega
theorem Wc_append : ∀ l k, Wc (l ++ k) = Wc l + Wc k
  | [], k => by simp [Wc]
  | a :: r, k => by simp only [List.cons_append, Wc, Wc_append r k]; omega
def PkOk (N : Nat) (m : Nat → Nat) (ls : List Ln) : Pk → Prop
  | .lett l num kind => l < N * N ∧ num ≤ (ls.getD l Ln.none).tot ∧ 0 ≤ kind ∧ kind < (m (l % N) : Nat)
  | .ack l num => l < N * N ∧ num ≤ (ls.getD l Ln.none).tot

/-- m: letters of a processor, ns: its states; pend: packets that arrived and were not handled yet. -/
structure WInv (N : Nat) (m : Nat → Nat) (ns : Nat → Int) (X M K A T : Int) (pend : List (Pk × Nat)) (S : Wr) : Prop where
  nst : S.st.length = N
  nwt : S.wt.length = N
  nct : S.ct.length = N
  nls : S.ls.length = N * N
  st : ∀ (p : Nat) (s : Int), S.st[p]? = some s → 0 ≤ s ∧ s < ns p
  wl : ∀ (p : Nat) (row : List Int), S.wt[p]? = some row → row.length = m p
  cl : ∀ (p : Nat) (row : List Int), S.ct[p]? = some row → row.length = m p
  wb : ∀ (p : Nat) (row : List Int), S.wt[p]? = some row → ∀ (k : Nat) (x : Int), row[k]? = some x → 0 ≤ x ∧ x + Lc (pend ++ S.fl) ≤ M
  cb : ∀ (p : Nat) (row : List Int), S.ct[p]? = some row → ∀ (k : Nat) (x : Int), row[k]? = some x → 0 ≤ x ∧ x ≤ T
  lb : ∀ (j : Nat) (l : Ln), S.ls[j]? = some l → (l.tot : Int) ≤ T ∧ l.ac ≤ l.tot ∧ l.sn ≤ S.tk ∧ ∀ a ∈ l.q, 0 ≤ a ∧ a < (m (j % N) : Nat)
  pk : ∀ a ∈ pend ++ S.fl, PkOk N m S.ls a.1
  wgt : Wc (pend ++ S.fl) ≤ K
  seb : S.se + Lc (pend ++ S.fl) ≤ A
  lg : X ≤ 1048576 → S.lg = false
  mx : M ≤ X

structure NetOk (N σ : Nat) (m : Nat → Nat) (ns : Nat → Int) (next : Nat → Int → Nat → Int) (sent : Nat → Int → Nat → List (Int × Int)) : Prop where
  next : ∀ p s k, p < N → 0 ≤ s → s < ns p → k < m p → 0 ≤ next p s k ∧ next p s k < ns p
  few : ∀ p s k, p < N → 0 ≤ s → s < ns p → k < m p → (sent p s k).length ≤ σ
  out : ∀ p s k, p < N → 0 ≤ s → s < ns p → k < m p → ∀ x ∈ sent p s k, 0 ≤ x.1 ∧ x.1 < N ∧ 0 ≤ x.2 ∧ x.2 < (m x.1.toNat : Nat)

theorem set_get {α : Type} {l : List α} {i j : Nat} {y x : α} (h : (l.set i y)[j]? = some x) : (j = i ∧ x = y) ∨ (j ≠ i ∧ l[j]? = some x) := by
  rw [List.getElem?_set] at h
  split at h
  · rename_i e
    split at h
    · injection h with h; exact .inl ⟨e.symm, h.symm⟩
    · cases h
  · rename_i e
    exact .inr ⟨fun h => e h.symm, h⟩
theorem getD_some {α : Type} {l : List α} {i : Nat} {d x : α} (h : l[i]? = some x) : l.getD i d = x := by
  rw [List.getD_eq_getElem?_getD, h]; rfl
theorem getD_set {α : Type} {l : List α} {i j : Nat} {d y : α} : (l.set i y).getD j d = if j = i ∧ i < l.length then y else l.getD j d := by
  rw [List.getD_eq_getElem?_getD, List.getD_eq_getElem?_getD, List.getElem?_set]
  by_cases e : i = j
  · subst e
    by_cases h : i < l.length
    · simp [h]
    · simp [h, List.getElem?_eq_none (Nat.le_of_not_lt h)]
  · have : ¬ j = i := fun h => e h.symm
    simp [e, this]

section
variable {N : Nat} {m : Nat → Nat} {ns : Nat → Int} {X M K A T : Int} {pend : List (Pk × Nat)} {S : Wr}

theorem PkOk.grow {ls ls' : List Ln} (h : ∀ j, (ls.getD j Ln.none).tot ≤ (ls'.getD j Ln.none).tot) {p : Pk} (hp : PkOk N m ls p) : PkOk N m ls' p := by
  cases p with
  | lett l num kind => obtain ⟨h1, h2, h3⟩ := hp; exact ⟨h1, Nat.le_trans h2 (h l), h3⟩
  | ack l num => obtain ⟨h1, h2⟩ := hp; exact ⟨h1, Nat.le_trans h2 (h l)⟩
theorem tot_set {ls : List Ln} {j : Nat} {l : Ln} (h : (ls.getD j Ln.none).tot ≤ l.tot) (i : Nat) : (ls.getD i Ln.none).tot ≤ ((ls.set j l).getD i Ln.none).tot := by
  rw [getD_set]
  split
  · rename_i e; rw [e.1]; exact h
  · exact Nat.le_refl _

theorem WInv.mono (h : WInv N m ns X M K A T pend S) {X' M' K' A' T' : Int} (h1 : M ≤ M') (h2 : K ≤ K') (h3 : A ≤ A') (h4 : T ≤ T') (h5 : X ≤ X') (h6 : M' ≤ X') : WInv N m ns X' M' K' A' T' pend S :=
  { h with
    wb := fun p row hp k x hx => by have := h.wb p row hp k x hx; omega
    cb := fun p row hp k x hx => by have := h.cb p row hp k x hx; omega
    lb := fun j l hl => by obtain ⟨a, b⟩ := h.lb j l hl; exact ⟨by omega, b⟩
    wgt := by have := h.wgt; omega
    seb := by have := h.seb; omega
    lg := fun hM => h.lg (by omega)
    mx := h6 }
theorem WInv.line (h : WInv N m ns X M K A T pend S) {j : Nat} (hj : j < N * N) : ∃ l, S.ls[j]? = some l ∧ S.ls.getD j Ln.none = l := by
  have : j < S.ls.length := by rw [h.nls]; exact hj
  exact ⟨_, List.getElem?_eq_getElem this, getD_some (List.getElem?_eq_getElem this)⟩
theorem WInv.wrow (h : WInv N m ns X M K A T pend S) {p : Nat} (hp : p < N) : ∃ row, S.wt[p]? = some row ∧ S.wt.getD p [] = row ∧ row.length = m p := by
  have : p < S.wt.length := by rw [h.nwt]; exact hp
  exact ⟨_, List.getElem?_eq_getElem this, getD_some (List.getElem?_eq_getElem this), h.wl _ _ (List.getElem?_eq_getElem this)⟩
theorem WInv.state (h : WInv N m ns X M K A T pend S) {p : Nat} (hp : p < N) : ∃ s, S.st[p]? = some s ∧ S.st.getD p 0 = s ∧ 0 ≤ s ∧ s < ns p := by
  have : p < S.st.length := by rw [h.nst]; exact hp
  exact ⟨_, List.getElem?_eq_getElem this, getD_some (List.getElem?_eq_getElem this), h.st _ _ (List.getElem?_eq_getElem this)⟩

/-- A packet is sent. -/
theorem WInv.send (h : WInv N m ns X M K A T pend S) (fates : List Int) {p : Pk} (hp : PkOk N m S.ls p) (hX : M + 2 * p.L ≤ X) : WInv N m ns X (M + 2 * p.L) (K + 2 * p.W) (A + 1 + 2 * p.L) T pend (sendS fates p S) := by
  have hL : Lc (pend ++ (sendS fates p S).fl) ≤ Lc (pend ++ S.fl) + 2 * p.L := by
    have := p.L_nonneg
    unfold sendS delayS
    simp only [Lc_append]
    split
    · simp [Lc]; omega
    · split
      · simp [Lc]; omega
      · split
        · simp [Lc]; omega
        · simp [Lc]; omega
  have hW : Wc (pend ++ (sendS fates p S).fl) ≤ Wc (pend ++ S.fl) + 2 * p.W := by
    have := p.W_pos
    unfold sendS delayS
    simp only [Wc_append]
    split
    · simp [Wc]; omega
    · split
      · simp [Wc]; omega
      · split
        · simp [Wc]; omega
        · simp [Wc]; omega
  exact { h with
    wb := fun q row hq k x hx => by have := h.wb q row hq k x hx; omega
    pk := fun b hb => by
      rcases List.mem_append.1 hb with hb | hb
      · exact h.pk b (List.mem_append_left _ hb)
      · rcases List.mem_append.1 hb with hb | hb
        · exact h.pk b (List.mem_append_right _ hb)
        · obtain ⟨n, _, rfl⟩ := List.mem_map.1 hb
          exact hp
    wgt := by have := h.wgt; omega
    seb := by
      have := h.seb
      have e : (sendS fates p S).se = S.se + 1 := rfl
      rw [e]
      omega
    mx := hX }
/-- A letter waits. -/
theorem WInv.wait (h : WInv N m ns X M K A T pend S) {p k : Nat} (hp : p < N) (hk : k < m p) (hX : M + 1 ≤ X) : WInv N m ns X (M + 1) K A T pend (waitS p k S) := by
  obtain ⟨row, hr, hg, hl⟩ := h.wrow hp
  have hk' : k < row.length := by omega
  have hx := List.getElem?_eq_getElem hk'
  have e : waitS p k S = { S with wt := S.wt.set p (row.set k (row[k] + 1)), lg := S.lg || decide (1048576 < row[k] + 1) } := by
    unfold waitS bump
    rw [hg, getD_some hx]
  rw [e]
  have hb := h.wb p row hr k _ hx
  have hn := Lc_nonneg (pend ++ S.fl)
  exact { h with
    nwt := by show (S.wt.set p _).length = N; rw [List.length_set]; exact h.nwt
    wl := fun q r hq => by
      rcases set_get hq with ⟨rfl, rfl⟩ | ⟨_, hq⟩
      · rw [List.length_set]; exact hl
      · exact h.wl q r hq
    wb := fun q r hq i x hi => by
      show 0 ≤ x ∧ x + Lc (pend ++ S.fl) ≤ M + 1
      rcases set_get hq with ⟨rfl, rfl⟩ | ⟨_, hq⟩
      · rcases set_get hi with ⟨rfl, rfl⟩ | ⟨_, hi⟩
        · omega
        · have := h.wb q row hr i x hi; omega
      · have := h.wb q r hq i x hi; omega
    lg := fun hM => by
      show (S.lg || decide (1048576 < row[k] + 1)) = false
      rw [h.lg hM]
      simp
      omega
    mx := hX }
/-- A line's numbers change, what it holds in all does not become less. -/
theorem WInv.setLn (h : WInv N m ns X M K A T pend S) {j : Nat} {l l' : Ln} (hl : S.ls[j]? = some l) (hj : j < N * N) {T' : Int} (hT : T ≤ T') (ht : l.tot ≤ l'.tot) (htT : (l'.tot : Int) ≤ T') (hac : l'.ac ≤ l'.tot) (hsn : l'.sn ≤ S.tk) (hq : ∀ a ∈ l'.q, 0 ≤ a ∧ a < (m (j % N) : Nat)) :
    WInv N m ns X M K A T' pend { S with ls := S.ls.set j l' } :=
  { h with
    nls := by show (S.ls.set j l').length = N * N; rw [List.length_set]; exact h.nls
    cb := fun p row hp k x hx => by have := h.cb p row hp k x hx; omega
    lb := fun i y hi => by
      rcases set_get hi with ⟨rfl, rfl⟩ | ⟨_, hi⟩
      · exact ⟨htT, hac, hsn, hq⟩
      · obtain ⟨a, b⟩ := h.lb i y hi; exact ⟨by omega, b⟩
    pk := fun b hb => PkOk.grow (tot_set (by rw [getD_some hl]; exact ht)) (h.pk b hb) }

/-- One output. -/
theorem WInv.put (h : WInv N m ns X M K A T pend S) {p : Nat} (hp : p < N) {x : Int × Int} (h1 : 0 ≤ x.1 ∧ x.1 < N) (h2 : 0 ≤ x.2 ∧ x.2 < (m x.1.toNat : Nat)) (hX : M + 1 ≤ X) : WInv N m ns X (M + 1) K A (T + 1) pend (putS N p x S) := by
  unfold putS
  split
  · rename_i e
    have e2 : x.1.toNat = p := by omega
    rw [e2] at h2
    exact (h.wait hp (k := x.2.toNat) (by omega) hX).mono (Int.le_refl _) (Int.le_refl _) (Int.le_refl _) (by omega) (Int.le_refl _) hX
  · have hq : x.1.toNat < N := by omega
    have hj : p * N + x.1.toNat < N * N := by
      have : (p + 1) * N ≤ N * N := Nat.mul_le_mul_right N hp
      rw [Nat.succ_mul] at this
      omega
    obtain ⟨l, hl, hgl⟩ := h.line hj
    obtain ⟨a1, a2, a3, a4⟩ := h.lb _ l hl
    rw [hgl]
    have hm : (p * N + x.1.toNat) % N = x.1.toNat := by rw [Nat.add_comm, Nat.add_mul_mod_self_right, Nat.mod_eq_of_lt hq]
    have e : ({ l with q := l.q ++ [x.2] } : Ln).tot = l.tot + 1 := by unfold Ln.tot; simp; omega
    exact (h.setLn (l' := { l with q := l.q ++ [x.2] }) (T' := T + 1) hl hj (by omega) (by rw [e]; omega) (by rw [e]; push_cast; omega) (by rw [e]; show l.ac ≤ _; omega) a3 (fun a ha => by
      rcases List.mem_append.1 ha with ha | ha
      · exact a4 a ha
      · rw [List.mem_singleton] at ha; rw [ha, hm]; exact h2)).mono (by omega) (Int.le_refl _) (Int.le_refl _) (Int.le_refl _) (Int.le_refl _) hX
/-- A line sends. -/
theorem WInv.lineS (h : WInv N m ns X M K A T [] S) (fates : List Int) {j : Nat} (hj : j < N * N) (hX : M + 2 ≤ X) : WInv N m ns X (M + 2) (K + 6) (A + 3) T [] (lineS fates j S) := by
  obtain ⟨l, hl, hgl⟩ := h.line hj
  obtain ⟨a1, a2, a3, a4⟩ := h.lb _ l hl
  unfold Go.Proofs.YtnigfddanoaonaaGreat.lineS
  rw [hgl]
  rcases hq : l.q with _ | ⟨a, r⟩
  · exact h.mono (by omega) (by omega) (by omega) (Int.le_refl _) (Int.le_refl _) hX
  · simp only
    split
    · have ht : l.rm + 1 ≤ l.tot := by unfold Ln.tot; rw [hq]; simp
      have hp : PkOk N m S.ls (.lett j (l.rm + 1) a) := ⟨hj, by rw [hgl]; exact ht, (a4 a (by rw [hq]; simp)).1, (a4 a (by rw [hq]; simp)).2⟩
      have h1 := h.send fates hp (by simp only [Pk.L]; omega)
      simp only [Pk.L, Pk.W] at h1
      have h2 := h1.setLn (l' := { l with sn := S.tk }) hl hj (Int.le_refl T) (Nat.le_refl _) a1 a2 (Nat.le_refl _) a4
      exact (h2.mono (by omega) (by omega) (by omega) (Int.le_refl _) (Int.le_refl _) hX)
    · exact h.mono (by omega) (by omega) (by omega) (Int.le_refl _) (Int.le_refl _) hX

end

end Go.Proofs.YtnigfddanoaonaaGreat

set_option linter.unusedVariables false
set_option linter.unusedSimpArgs false
set_option linter.unnecessarySimpa false
namespace Go.Proofs.YtnigfddanoaonaaGreat
open Go.RowKit

def ruleP (procs : List Prc) (p : Nat) (s : Int) (k : Nat) : Rul := ruleAt (procs.getD p prc0).rules s k
def nextP (procs : List Prc) (p : Nat) (s : Int) (k : Nat) : Int := (ruleP procs p s k).next
def pairO (o : Out) : Int × Int := (o.dst, o.letter)
def sentP (procs : List Prc) (p : Nat) (s : Int) (k : Nat) : List (Int × Int) := (ruleP procs p s k).sent.map pairO
def lettersP (procs : List Prc) (p : Nat) : Nat := (procs.getD p prc0).letters.toNat
def statesP (procs : List Prc) (p : Nat) : Int := (procs.getD p prc0).states

theorem Right.rule {x : Nwk} (h : Right x) {p k : Nat} {s : Int} (hp : p < x.procs.length) (h0 : 0 ≤ s) (h1 : s < statesP x.procs p) (hk : k < lettersP x.procs p) :
    ∃ pr row r, x.procs[p]? = some pr ∧ x.procs.getD p prc0 = pr ∧ pr.rules[s.toNat]? = some row ∧ row[k]? = some r ∧ ruleP x.procs p s k = r ∧ (0 ≤ r.next ∧ r.next < pr.states) ∧ r.sent.length ≤ 16 ∧
      ∀ o ∈ r.sent, (0 ≤ o.dst ∧ o.dst < x.procs.length) ∧ 0 ≤ o.letter ∧ o.letter < lettersP x.procs o.dst.toNat := by
  have hpr := List.getElem?_eq_getElem hp
  have hg : x.procs.getD p prc0 = x.procs[p] := getD_some hpr
  have hc := h.proc p _ hpr
  unfold statesP at h1
  unfold lettersP at hk
  rw [hg] at h1 hk
  have hz := check_zero hc
  have hs : s.toNat < (x.procs[p]).rules.length := by have := hz.2.2.2.1; omega
  have hrow := List.getElem?_eq_getElem hs
  have hl := valid_row hc hrow
  have hk2 : k < ((x.procs[p]).rules[s.toNat]).length := by omega
  have hr := List.getElem?_eq_getElem hk2
  obtain ⟨v1, v2, v3⟩ := valid_rule hc hrow hr
  refine ⟨_, _, _, hpr, hg, hrow, hr, ?_, v1, v2, fun o ho => ?_⟩
  · unfold ruleP ruleAt
    rw [hg, getD_some hrow, show ((k : Nat) : Int).toNat = k from Int.toNat_natCast k, getD_some hr]
  · obtain ⟨a, b, c⟩ := v3 o ho
    have ha : o.dst < x.procs.length := a.2
    refine ⟨⟨a.1, ha⟩, b, ?_⟩
    have := outsOk_all (rulesOk_all (rowsOk_all (h.und p _ hpr) _ (List.mem_of_getElem? hrow)) _ (List.mem_of_getElem? hr)) o ho
    unfold lettersP
    omega
theorem Right.ok {x : Nwk} (h : Right x) : NetOk x.procs.length 16 (lettersP x.procs) (statesP x.procs) (nextP x.procs) (sentP x.procs) where
  next := fun p s k hp h0 h1 hk => by
    obtain ⟨pr, row, r, e1, e2, e3, e4, e5, e6, _⟩ := h.rule hp h0 h1 hk
    unfold nextP statesP
    rw [e5, e2]
    exact e6
  few := fun p s k hp h0 h1 hk => by
    obtain ⟨pr, row, r, e1, e2, e3, e4, e5, e6, e7, _⟩ := h.rule hp h0 h1 hk
    unfold sentP
    rw [e5, List.length_map]
    exact e7
  out := fun p s k hp h0 h1 hk y hy => by
    obtain ⟨pr, row, r, e1, e2, e3, e4, e5, e6, e7, e8⟩ := h.rule hp h0 h1 hk
    unfold sentP at hy
    rw [e5] at hy
    obtain ⟨o, ho, rfl⟩ := List.mem_map.1 hy
    obtain ⟨a, b, c⟩ := e8 o ho
    exact ⟨a.1, a.2, b, c⟩
theorem Right.letters {x : Nwk} (h : Right x) (p : Nat) (hp : p < x.procs.length) : 1 ≤ lettersP x.procs p ∧ lettersP x.procs p ≤ 8 := by
  have hpr := List.getElem?_eq_getElem hp
  have hz := check_zero (h.proc p _ hpr)
  unfold lettersP
  rw [getD_some hpr]
  omega
end Go.Proofs.YtnigfddanoaonaaGreat

set_option linter.unusedVariables false
set_option linter.unusedSimpArgs false
namespace Go.Proofs.YtnigfddanoaonaaGreat
open Go.RowKit

theorem tabR' : RepOk (slcR intR 1) 1 := slcR_ok intR_ok (by omega)
theorem checkErr_more {p : Prc} {N : Int} (h : checkErr p N = 0) : checkErr p 12 = 0 := by
  obtain ⟨h1, h2, h3, h4, h5⟩ := check_zero h
  have hs : ∀ l : List Out, sentErr N l = 0 → sentErr 12 l = 0 := fun l => by
    induction l with
    | nil => intro _; rfl
    | cons x r ih =>
      intro hl
      unfold sentErr at hl ⊢
      split at hl
      · rename_i hx
        simp [belowB] at hx
        rw [if_pos (by simp [belowB]; omega)]
        exact ih hl
      · cases hl
  have hr : ∀ r : Rul, ruleErr p.states N r = 0 → ruleErr p.states 12 r = 0 := fun r hr => by
    unfold ruleErr at hr ⊢
    split at hr
    · rename_i hx
      rw [if_pos hx]
      split at hr
      · rename_i hy
        rw [if_pos hy]
        exact hs _ hr
      · cases hr
    · cases hr
  have ho : ∀ l : List Rul, rowErr p.states N l = 0 → rowErr p.states 12 l = 0 := fun l => by
    induction l with
    | nil => intro _; rfl
    | cons x r ih =>
      intro hl
      unfold rowErr at hl ⊢
      split at hl
      · rename_i hx
        rw [if_pos (hr x hx)]
        exact ih hl
      · rename_i hx; exact absurd hl hx
  have hw : ∀ l : List (List Rul), rowsErr p.states p.letters N l = 0 → rowsErr p.states p.letters 12 l = 0 := fun l => by
    induction l with
    | nil => intro _; rfl
    | cons x r ih =>
      intro hl
      unfold rowsErr at hl ⊢
      split at hl
      · rename_i hx
        rw [if_pos hx]
        split at hl
        · rename_i hy
          rw [if_pos (ho x hy)]
          exact ih hl
        · rename_i hy; exact absurd hl hy
      · cases hl
  unfold checkErr
  rw [if_neg (by omega), if_neg (by omega), if_neg (by omega)]
  exact hw _ h5

/-- All processors are abelian. -/
def commP (procs : List Prc) : Bool := procs.all fun p => (witS (commN p.rules) p.letters.toNat p.states.toNat 0).isNone

end Go.Proofs.YtnigfddanoaonaaGreat

set_option linter.unusedVariables false
set_option linter.unusedSimpArgs false
set_option linter.unnecessarySimpa false
namespace Go.Proofs.YtnigfddanoaonaaGreat
open Go.RowKit

/-- An empty slice that the call has just made owns nothing. -/
theorem OwnS.fresh {α : Type} (R : Rep α) (sz : Nat) (e : TypeId) (F : Foot) (w : World) : OwnS R sz w.heap.size e F (w.alloc (.cells #[] e)) (.slice (some ⟨w.heap.size, 0, none⟩) 0 0) [] :=
  ⟨[], World.ownsRow_made w #[] 0 (Nat.le_refl _) (by unfold maxLen; omega) (by simp), by simp, by simp⟩

theorem clInfoI : (Tryz.prog.info? 3).map (fun i => (i.zero, i.size, i.bytes)) = some (some (.int .i64 0), 1, 8) := by kernel_rfl
set_option maxHeartbeats 400000 in
theorem cloneIW_any (l : List Int) (oa : Option Addr) (c : Nat) (F : Foot) (w : World) (hs : SliceR intR 1 F w oa l) (hc : l.length ≤ c) (hc2 : l.length ≤ 1000000000000) :
    Calls Tryz.prog 72 #[.slice oa l.length c] w fun e w' => ∃ v, e = .returned v ∧ OwnS intR 1 w.heap.size 3 (fun k => F k ∧ k < w.heap.size) w' v l ∧ Below w.heap.size w w' := by
  cases oa with
  | none =>
    have hl : l = [] := by
      cases l with
      | nil => rfl
      | cons x r => obtain ⟨b, off, cs, h, _⟩ := hs 0 x rfl; cases h
    subst hl
    have hq : ∀ w : World, (binOp .eql 23 (.slice none 0 c) (.slice none 0 0)).run Tryz.prog w = .ok (.bool true) w := fun w => Lib.run_eql_slice_nil w _ 3 none 0 c 0 0 Tryz.underlying23
    go_enter Tryz.func72, Tryz.ntmps72
    go_wp2_with fail
    go_ret
    exact ⟨_, rfl, OwnS.nil _ _ _ _ _ _, Below.refl _ _⟩
  | some ad =>
    have hq : ∀ w : World, (binOp .eql 23 (.slice (some ad) l.length c) (.slice none 0 0)).run Tryz.prog w = .ok (.bool false) w := fun w => Lib.run_eql_slice_nil w _ 3 (some ad) l.length c 0 0 Tryz.underlying23
    go_enter Tryz.func72, Tryz.ntmps72
    go_wp2_with (at_builtin; refine wpList_append_rep rfl (.tmp 5) (.tmp 6) 23 rfl w.heap.size 3 _ 1 8 Tryz.underlying23 clInfoI rfl (by decide) intR_ok (fun k => F k ∧ k < w.heap.size) (fun k => F k ∧ k < w.heap.size) (.slice (some ⟨w.heap.size, 0, none⟩) 0 0) [] rfl (OwnS.fresh _ _ _ _ _) (some ad) c l rfl ((hs.wide intR_ok (by omega) (fun k h1 h2 => ⟨h1, h2⟩)).below intR_ok (bnew (Below.refl _ _) _)) (fun _ _ h => h) (fun _ h => h.2) (by simp; omega) (by simp; omega) (by simp) ?_; intro v' w1 ho hb1 hg)
    go_ret
    exact ⟨_, rfl, by simpa using ho, (bnew (Below.refl _ _) _).trans hb1⟩

theorem clInfoO : (Tryz.prog.info? 102).map (fun i => (i.zero, i.size, i.bytes)) = some (some (.agg #[.int .i64 0, .int .i64 0]), 2, 16) := by kernel_rfl
set_option maxHeartbeats 400000 in
theorem cloneO_any (l : List Out) (oa : Option Addr) (c : Nat) (F : Foot) (w : World) (hs : SliceR outR 2 F w oa l) (hc : l.length ≤ c) (hc2 : l.length ≤ 1000000000000) :
    Calls Tryz.prog 95 #[.slice oa l.length c] w fun e w' => ∃ v, e = .returned v ∧ OwnS outR 2 w.heap.size 102 (fun k => F k ∧ k < w.heap.size) w' v l ∧ Below w.heap.size w w' := by
  cases oa with
  | none =>
    have hl : l = [] := by
      cases l with
      | nil => rfl
      | cons x r => obtain ⟨b, off, cs, h, _⟩ := hs 0 x rfl; cases h
    subst hl
    have hq : ∀ w : World, (binOp .eql 97 (.slice none 0 c) (.slice none 0 0)).run Tryz.prog w = .ok (.bool true) w := fun w => Lib.run_eql_slice_nil w _ 102 none 0 c 0 0 Tryz.underlying97
    go_enter Tryz.func95, Tryz.ntmps95
    go_wp2_with fail
    go_ret
    exact ⟨_, rfl, OwnS.nil _ _ _ _ _ _, Below.refl _ _⟩
  | some ad =>
    have hq : ∀ w : World, (binOp .eql 97 (.slice (some ad) l.length c) (.slice none 0 0)).run Tryz.prog w = .ok (.bool false) w := fun w => Lib.run_eql_slice_nil w _ 102 (some ad) l.length c 0 0 Tryz.underlying97
    go_enter Tryz.func95, Tryz.ntmps95
    go_wp2_with (at_builtin; refine wpList_append_rep rfl (.tmp 5) (.tmp 6) 97 rfl w.heap.size 102 _ 2 16 Tryz.underlying97 clInfoO rfl (by decide) outR_ok (fun k => F k ∧ k < w.heap.size) (fun k => F k ∧ k < w.heap.size) (.slice (some ⟨w.heap.size, 0, none⟩) 0 0) [] rfl (OwnS.fresh _ _ _ _ _) (some ad) c l rfl ((hs.wide outR_ok (by omega) (fun k h1 h2 => ⟨h1, h2⟩)).below outR_ok (bnew (Below.refl _ _) _)) (fun _ _ h => h) (fun _ h => h.2) (by simp; omega) (by simp; omega) (by simp) ?_; intro v' w1 ho hb1 hg)
    go_ret
    exact ⟨_, rfl, by simpa using ho, (bnew (Below.refl _ _) _).trans hb1⟩

end Go.Proofs.YtnigfddanoaonaaGreat

set_option linter.unusedVariables false
set_option linter.unusedSimpArgs false
set_option linter.unnecessarySimpa false
namespace Go.Proofs.YtnigfddanoaonaaGreat
open Go.RowKit

theorem chunk_take {sz i n : Nat} {l : List Value} (hi : i < n) : chunk sz i (l.take (n * sz)) = chunk sz i l := by
  have hle : i * sz + sz ≤ n * sz := by
    have := Nat.mul_le_mul_right sz (Nat.succ_le_of_lt hi)
    rw [Nat.succ_mul] at this
    exact this
  unfold chunk
  rw [List.drop_take, List.take_take, Nat.min_eq_left (by omega)]
theorem chunk_cell {sz i j : Nat} {l : List Value} (hj : j < sz) : (chunk sz i l)[j]? = l[i * sz + j]? := by
  unfold chunk
  rw [List.getElem?_take, if_pos hj, List.getElem?_drop]
theorem chunk_set_same {sz i j : Nat} {l : List Value} {u : Value} (hj : j < sz) : chunk sz i (l.set (i * sz + j) u) = (chunk sz i l).set j u := by
  unfold chunk
  rw [List.drop_set, if_neg (by omega), show i * sz + j - i * sz = j from by omega, List.take_set]
theorem chunk_set_other {sz i j k : Nat} {l : List Value} {u : Value} (hj : j < sz) (hk : k ≠ i) : chunk sz k (l.set (i * sz + j) u) = chunk sz k l := by
  unfold chunk
  apply List.ext_getElem?
  intro n
  rw [List.getElem?_take, List.getElem?_take]
  split
  · rename_i hn
    rw [List.getElem?_drop, List.getElem?_drop, List.getElem?_set]
    rw [if_neg]
    intro e
    rcases Nat.lt_or_ge k i with h | h
    · have := Nat.mul_le_mul_right sz (Nat.succ_le_of_lt h)
      rw [Nat.succ_mul] at this
      omega
    · have h2 : i + 1 ≤ k := by omega
      have := Nat.mul_le_mul_right sz h2
      rw [Nat.succ_mul] at this
      omega
  · rfl

/-- The slice v at block g holds xs, but for element i, of which the cells hc are known. -/
def RowH {α : Type} (R : Rep α) (sz base : Nat) (e : TypeId) (F : Foot) (w : World) (v : Value) (g : Nat) (xs : List α) (i : Nat) (hc : List Value) : Prop :=
  ∃ cap cur, v = .slice (some ⟨g, 0, none⟩) xs.length cap ∧ base ≤ g ∧ w.heap[g]? = some (.cells cur e (0, 0)) ∧ xs.length ≤ cap ∧ cap ≤ maxLen ∧ cur.size = cap * sz ∧
    (∀ u ∈ cur.toList.take (xs.length * sz), u.oneCell' = true) ∧ i < xs.length ∧ hc = chunk sz i cur.toList ∧ ∀ k x, k ≠ i → xs[k]? = some x → R F w (chunk sz k cur.toList) x
section
variable {α : Type} {R : Rep α} {sz base : Nat} {e : TypeId} {F F' : Foot} {w w' : World} {v : Value} {xs : List α} {g i : Nat} {hc : List Value}

theorem OwnS.open_ (h : OwnS R sz base e F w v xs) {i : Nat} {x : α} (hx : xs[i]? = some x) : ∃ g hc, RowH R sz base e F w v g xs i hc ∧ R F w hc x := by
  obtain ⟨cells, ho, h1, hcs⟩ := h
  have hi := (List.getElem?_eq_some_iff.1 hx).1
  rcases ho.2 with ⟨_, hn⟩ | ⟨g, cap, cur, rfl, hg, hh, hle, hm, hsz, ht⟩
  · omega
  · refine ⟨g, chunk sz i cur.toList, ⟨cap, cur, rfl, hg, hh, hle, hm, hsz, by rw [ht]; exact h1, hi, rfl, fun k y hk hy => ?_⟩, ?_⟩
    · have hkl := (List.getElem?_eq_some_iff.1 hy).1
      rw [← chunk_take hkl, ht]
      exact hcs k y hy
    · rw [← chunk_take hi, ht]
      exact hcs i x hx
theorem RowH.form (h : RowH R sz base e F w v g xs i hc) : ∃ cap, v = .slice (some ⟨g, 0, none⟩) xs.length cap ∧ base ≤ g ∧ g < w.heap.size ∧ i < xs.length := by
  obtain ⟨cap, cur, rfl, hg, hh, _, _, _, _, hi, _⟩ := h
  exact ⟨cap, rfl, hg, (Array.getElem?_eq_some_iff.1 hh).1, hi⟩
theorem RowH.free (h : RowH R sz base e F w v g xs i hc) (k : Nat) : w.frozen? ⟨g, k, none⟩ = false := by
  obtain ⟨cap, cur, _, _, hh, _⟩ := h
  exact frozen_of_row w g k _ _ hh
theorem RowH.cell (h : RowH R sz base e F w v g xs i hc) {j : Nat} (hj : j < sz) : w.cell? ⟨g, i * sz + j, none⟩ = hc[j]? := by
  obtain ⟨cap, cur, _, _, hh, _, _, _, _, hi, rfl, _⟩ := h
  rw [chunk_cell hj, cell_of_row w g _ cur e (0, 0) hh]
  simp
theorem RowH.keep (ok : RepOk R sz) (h : RowH R sz base e F w v g xs i hc) (hb : w'.heap[g]? = w.heap[g]?) (hs : SameOn F w w') : RowH R sz base e F w' v g xs i hc := by
  obtain ⟨cap, cur, h1, h2, hh, h3, h4, h5, h6, hi, h7, h8⟩ := h
  exact ⟨cap, cur, h1, h2, by rw [hb]; exact hh, h3, h4, h5, h6, hi, h7, fun k x hk hx => ok.keep (h8 k x hk hx) hs⟩
theorem RowH.wide (ok : RepOk R sz) (h : RowH R sz base e F w v g xs i hc) (hs : ∀ k, F k → k < w.heap.size → F' k) : RowH R sz base e F' w v g xs i hc := by
  obtain ⟨cap, cur, h1, h2, hh, h3, h4, h5, h6, hi, h7, h8⟩ := h
  exact ⟨cap, cur, h1, h2, hh, h3, h4, h5, h6, hi, h7, fun k x hk hx => ok.wide (h8 k x hk hx) hs⟩
theorem RowH.put (ok : RepOk R sz) (h : RowH R sz base e F w v g xs i hc) (hF : ¬ F g) {j : Nat} (hj : j < sz) {u : Value} (hu : u.oneCell' = true) : RowH R sz base e F (w.setCell ⟨g, i * sz + j, none⟩ u) v g xs i (hc.set j u) := by
  obtain ⟨cap, cur, h1, h2, hh, h3, h4, h5, h6, hi, h7, h8⟩ := h
  have hle : i * sz + sz ≤ xs.length * sz := by
    have := Nat.mul_le_mul_right sz (Nat.succ_le_of_lt hi)
    rw [Nat.succ_mul] at this
    exact this
  have hle2 := Nat.mul_le_mul_right sz h3
  have hheap := heap_set1 w g (i * sz + j) cur.toList e u (by simpa using hh)
  refine ⟨cap, (cur.toList.set (i * sz + j) u).toArray, h1, h2, hheap, h3, h4, by simp [h5], ?_, hi, ?_, ?_⟩
  · intro x hx
    simp only [List.take_set] at hx
    rcases List.mem_or_eq_of_mem_set hx with hx | rfl
    · exact h6 x hx
    · exact hu
  · rw [h7]
    exact (chunk_set_same hj).symm
  · intro k x hk hx
    have := h8 k x hk hx
    simp only
    rw [chunk_set_other hj hk]
    exact ok.keep this fun m hm hml => Below.heap_setCell w ⟨g, i * sz + j, none⟩ u m fun e => hF (by rw [show g = m from e.symm]; exact hm)
theorem RowH.fill (h : RowH R sz base e F w v g xs i hc) {x : α} (hx : xs[i]? = some x) (hR : R F w hc x) : OwnS R sz base e F w v xs := by
  obtain ⟨cap, cur, h1, h2, hh, h3, h4, h5, h6, hi, h7, h8⟩ := h
  have hle2 := Nat.mul_le_mul_right sz h3
  refine ⟨cur.toList.take (xs.length * sz), ⟨by rw [List.length_take, show cur.toList.length = cap * sz from by rw [Array.length_toList]; exact h5]; omega, .inr ⟨g, cap, cur, h1, h2, hh, h3, h4, h5, rfl⟩⟩, h6, fun k y hy => ?_⟩
  have hk := (List.getElem?_eq_some_iff.1 hy).1
  rw [chunk_take hk]
  by_cases e : k = i
  · subst e
    rw [hx] at hy
    injection hy with hy
    rw [← hy, ← h7]
    exact hR
  · exact h8 k y e hy
theorem OwnS.wide (ok : RepOk R sz) (h : OwnS R sz base e F w v xs) (hs : ∀ k, F k → k < w.heap.size → F' k) : OwnS R sz base e F' w v xs := by
  obtain ⟨cells, ho, h1, hcs⟩ := h
  exact ⟨cells, ho, h1, fun i x hx => ok.wide (hcs i x hx) hs⟩
end

end Go.Proofs.YtnigfddanoaonaaGreat

set_option linter.unusedVariables false
set_option linter.unusedSimpArgs false
set_option linter.unnecessarySimpa false
namespace Go.Proofs.YtnigfddanoaonaaGreat
open Go.RowKit

/-- The block of a slice that starts at its block's first cell. -/
theorem OwnS.hole {α : Type} {R : Rep α} {sz base : Nat} {e : TypeId} {F : Foot} {w : World} {o : Option Addr} {n c : Nat} {xs : List α} (h : OwnS R sz base e F w (.slice o n c) xs) {i : Nat} {x : α} (hx : xs[i]? = some x) :
    ∃ g hc, o = some ⟨g, 0, none⟩ ∧ base ≤ g ∧ g < w.heap.size ∧ RowH R sz base e F w (.slice o n c) g xs i hc ∧ R F w hc x := by
  obtain ⟨g, hc, h1, h2⟩ := h.open_ hx
  obtain ⟨cap, e1, h3, h4, _⟩ := h1.form
  injection e1 with e1 _ _
  exact ⟨g, hc, e1, h3, h4, h1, h2⟩
theorem copy_small {p : Prc} {N : Int} (h : checkErr p N = 0) : p.rules.length ≤ 16 ∧ ∀ row ∈ p.rules, row.length ≤ 8 ∧ ∀ r ∈ row, r.sent.length ≤ 16 := by
  have hz := check_zero h
  refine ⟨by omega, fun row hr => ?_⟩
  obtain ⟨i, hi, rfl⟩ := List.mem_iff_getElem.1 hr
  have h1 := valid_row h (List.getElem?_eq_getElem hi)
  refine ⟨by omega, fun r hr => ?_⟩
  obtain ⟨j, hj, rfl⟩ := List.mem_iff_getElem.1 hr
  exact (valid_rule h (List.getElem?_eq_getElem hi) (List.getElem?_eq_getElem hj)).2.1

end Go.Proofs.YtnigfddanoaonaaGreat

set_option linter.unusedVariables false
set_option linter.unusedSimpArgs false
namespace Go.Proofs.YtnigfddanoaonaaGreat
open Go.RowKit

theorem step_append_rep {α : Type} {R : Rep α} {P : Program} {ops : Array Oper} {o : Oper} {a : Act} {w : World} {K : Act → World → Prop} {Q : Exit → Act → World → Prop} {E : Prop} (hgd : o.guard = none) (s x : Operand) (t : TypeId)
    (ho : o.op = .call { callee := .builtin .append, args := #[s, x], argTypes := #[t, t] })
    (base : Nat) (e : TypeId) (z : Value) (size bytes : Nat) (ht : P.underlying t = some (.slice e)) (hinfo : (P.info? e).map (fun i => (i.zero, i.size, i.bytes)) = some (some z, size, bytes))
    (hzs : z.cells.size = size) (hsz : 0 < size) (ok : RepOk R size)
    (F G : Foot) (v : Value) (xs : List α) (hs : a.eval s = v) (hown : OwnS R size base e F w v xs)
    (oa : Option Addr) (c : Nat) (ys : List α) (hx : a.eval x = .slice oa ys.length c) (hsrc : SliceR R size G w oa ys) (hW : ∀ cs x, R G w cs x → R F w cs x) (hF : ∀ k, F k → k < base)
    (hbytes : (xs.length + ys.length) * bytes ≤ 140737488355328) (hm : xs.length + ys.length ≤ 9223372036854775807) (hbase : base ≤ w.heap.size)
    (hK : ∀ v' w', OwnS R size base e F w' v' (xs ++ ys) → Below base w w' → w.grownBy w' v.ownBlock → K (a.put o.dst v') w') :
    if Region.wanted o (yielded ops a.tmps) = true then Oper.wp P o a w K Q else E := by
  have hw : Region.wanted o (yielded ops a.tmps) = true := by simp [Region.wanted, hgd]
  rw [if_pos hw]
  obtain ⟨i0, hi, hz0, hz1, hz2⟩ := info_parts hinfo
  obtain ⟨cells, hown0, h1, hc⟩ := hown
  obtain ⟨news, hn1, hn2, hn3, hn4⟩ := hsrc.cells ok
  obtain ⟨v', w', hrun, ho', hg⟩ := run_append_src (P := P) w base t o.type e i0 z size bytes ht hi hz0 hz1 hz2 hzs hsz v xs.length cells hown0 oa ys.length c news hn1 hn2 hn3 (by unfold maxLen; omega) hbytes hbase
  have hb : Below base w w' := (Below.refl base w).grown hg hbase fun k hk => (hown0.lt k hk).1
  have hsame : SameOn F w w' := fun k hk _ => hb.block k (hF k hk)
  have hfin := hK v' w' (OwnS.app hown0.1.symm ho' h1 hn3 (fun i x hx => ok.keep (hc i x hx) hsame) (fun i x hx => ok.keep (hW _ _ (hn4 i x hx)) hsame)) hb hg
  unfold Oper.wp execOp
  simp only [ho, resolve, invoke, builtin, Sem.run_bind, Sem.run_pure, Result.andThen_ok, List.map_toArray, List.map_cons, List.map_nil, hs, hx, hrun]
  exact hfin

end Go.Proofs.YtnigfddanoaonaaGreat

set_option linter.unusedVariables false
set_option linter.unusedSimpArgs false
namespace Go.Proofs.YtnigfddanoaonaaGreat
open Go.RowKit

theorem step_append_at {α : Type} {R : Rep α} {P : Program} {ops : Array Oper} {o : Oper} {a : Act} {w : World} {K : Act → World → Prop} {Q : Exit → Act → World → Prop} {E : Prop} (hgd : o.guard = none) (s x : Operand) (t : TypeId)
    (ho : o.op = .call { callee := .builtin .append, args := #[s, x], argTypes := #[t, t] })
    (base : Nat) (e : TypeId) (z : Value) (size bytes : Nat) (ht : P.underlying t = some (.slice e)) (hinfo : (P.info? e).map (fun i => (i.zero, i.size, i.bytes)) = some (some z, size, bytes))
    (hzs : z.cells.size = size) (hsz : 0 < size) (ok : RepOk R size)
    (F : Foot) (v : Value) (xs : List α) (hs : a.eval s = v) (hown : OwnS R size base e F w v xs)
    (ad : Addr) (c : Nat) (news : List Value) (y : α) (hx : a.eval x = .slice (some ad) 1 c) (hnews : ∀ j u, news[j]? = some u → w.cell? (ad.add j) = some u) (hR : R F w news y) (hF : ∀ k, F k → k < base)
    (hbytes : (xs.length + 1) * bytes ≤ 140737488355328) (hm : xs.length + 1 ≤ maxLen) (hbase : base ≤ w.heap.size)
    (hK : ∀ v' w', OwnS R size base e F w' v' (xs ++ [y]) → Below base w w' → w.grownBy w' v.ownBlock → (∀ k, v'.ownBlock = some k → v.ownBlock = some k ∨ k = w.heap.size) → K (a.put o.dst v') w') :
    if Region.wanted o (yielded ops a.tmps) = true then Oper.wp P o a w K Q else E := by
  obtain ⟨i0, hi, hz0, hz1, hz2⟩ := info_parts hinfo
  obtain ⟨cells, hown0, h1, hc⟩ := hown
  have hnl := ok.len hR
  refine step_append_lies (w := w) hgd s x t ho base e i0 z size bytes ht hi hz0 hz1 hz2 hzs hsz v xs.length cells hs hown0 ad 1 c news hx (by rw [hnl, Nat.one_mul]) hnews (ok.one hR) (by omega) hm hbytes hbase w.heap.size rfl fun g cap w' h2 h3 h4 h5 => ?_
  have hb : Below base w w' := (Below.refl base w).grown h3 hbase fun k hk => (hown0.lt k hk).1
  have hsame : SameOn F w w' := fun k hk _ => hb.block k (hF k hk)
  have hn3 : ∀ u ∈ news, u.oneCell' = true := ok.one hR
  refine hK _ w' ?_ hb h3 fun k hk => ?_
  · have hl : (xs ++ [y]).length = xs.length + 1 := by simp
    refine ⟨cells ++ news, by rw [hl]; exact h2, ?_, ?_⟩
    · intro u hu
      rcases List.mem_append.1 hu with hu | hu
      · exact h1 u hu
      · exact hn3 u hu
    · intro i q hq
      have hcl : cells.length = xs.length * size := hown0.1
      by_cases hlt : i < xs.length
      · rw [chunk_app_left hcl hlt]
        rw [List.getElem?_append_left hlt] at hq
        exact ok.keep (hc i q hq) hsame
      · have hie : i = xs.length := by
          have := (List.getElem?_eq_some_iff.1 hq).1
          simp at this
          omega
        subst hie
        have hqy : q = y := by simpa using hq.symm
        subst hqy
        have : chunk size xs.length (cells ++ news) = news := by
          unfold chunk
          rw [← hcl, List.drop_left, List.take_of_length_le (by omega)]
        rw [this]
        exact ok.keep hR hsame
  · simp [Value.ownBlock] at hk
    subst hk
    exact h4

end Go.Proofs.YtnigfddanoaonaaGreat

set_option linter.unusedVariables false
set_option linter.unusedSimpArgs false
namespace Go.Proofs.YtnigfddanoaonaaGreat
open Go.RowKit

theorem ruleInfoN : (Tryz.prog.info? 99).map (fun i => (i.zero, i.size, i.bytes)) = some (some (.agg #[.int .i64 0, .slice none 0 0]), 2, 32) := by kernel_rfl
theorem rowInfoN : (Tryz.prog.info? 100).map (fun i => (i.zero, i.size, i.bytes)) = some (some (.slice none 0 0), 1, 24) := by kernel_rfl
theorem prcInfoN : (Tryz.prog.info? 89).map (fun i => (i.zero, i.size, i.bytes)) = some (some (.agg #[.int .i64 0, .int .i64 0, .slice none 0 0]), 3, 40) := by kernel_rfl
theorem tabInfoN : (Tryz.prog.info? 23).map (fun i => (i.zero, i.size, i.bytes)) = some (some (.slice none 0 0), 1, 24) := by kernel_rfl
theorem intInfoN : (Tryz.prog.info? 3).map (fun i => (i.zero, i.size, i.bytes)) = some (some (.int .i64 0), 1, 8) := by kernel_rfl
theorem intSizeN : (Tryz.prog.info? 3).map (·.size) = some 1 := by kernel_rfl
theorem ruleSizeN : (Tryz.prog.info? 99).map (·.size) = some 2 := by kernel_rfl
theorem alloc_size' (w : World) (o : Obj) : (w.alloc o).heap.size = w.heap.size + 1 := by simp
theorem results_cell_row {P : Program} {fn : Func} {p : Tmp} {ty : TypeId} (h : fn.results = #[.cell p ty]) (tmps : Array Value) (w : World) (g : Nat) (t : TypeId) (cs : Array Value) (fr : Nat × Nat) (d : TypeDesc)
    (hp : tmps.getD p undef = .pointer (some ⟨g, 0, none⟩)) (hg : w.heap[g]? = some (.cells cs t fr))
    (hu : P.underlying ty = some d) (hd : (match d with | .struct _ | .array _ _ => true | _ => false) = true) (hi : (P.info? ty).map (·.size) = some cs.size) :
    (results fn tmps).run P w = .ok (.agg cs) w := by
  have hp' : tmps[p]?.getD undef = .pointer (some ⟨g, 0, none⟩) := by simpa using hp
  simp only [results, h]
  simp [hp', asAddr, Result.andThen, Sem.run_bind, run_loadVar_row w g t ty cs fr d hg hu hd hi]
theorem ownsRow_lt {w : World} {base : Nat} {e : TypeId} {sz g n m c : Nat} {zs : List Value} (h : w.ownsRow base e sz (.slice (some ⟨g, 0, none⟩) n c) m zs) : g < w.heap.size := by
  rcases h.2 with ⟨hh, _⟩ | ⟨g', cap, cur, hh, _, hg, _⟩
  · cases hh
  · injection hh with hh; injection hh with hh; injection hh with hh; subst hh
    exact (Array.getElem?_eq_some_iff.1 hg).1
/-- In the memory that was there, or in blocks from K on. -/
def OldNew (F : Foot) (B K : Nat) : Foot := fun k => (F k ∧ k < B) ∨ K ≤ k

set_option maxRecDepth 100000 in
set_option maxHeartbeats 4000000 in
theorem ncopied_any (x : Nwk) (op : Option Addr) (cp : Nat) (os : Option Addr) (cs : Nat) (ow : Option Addr) (cw : Nat) (F : Foot) (w : World)
    (hp : SliceR prcR 3 F w op x.procs) (hs : SliceR intR 1 F w os x.state) (ht : SliceR (slcR intR 1) 1 F w ow x.waiting) (hr : Right x) :
    Calls Tryz.prog 50 #[.agg #[.slice op x.procs.length cp, .slice os x.procs.length cs, .slice ow x.procs.length cw]] w fun e w' =>
      ∃ (vp tw : Value) (rs : List Rw) (K H gs : Nat), e = .returned (.agg #[vp, .slice (some ⟨gs, 0, none⟩) x.procs.length x.procs.length, tw]) ∧ w.heap.size ≤ gs ∧ gs < K ∧ K ≤ H ∧ H ≤ w'.heap.size ∧ (∀ g, vp.ownBlock = some g → g < H) ∧
        OwnS prcR 3 K 89 (fun k => InF (OldNew F w.heap.size K) vp k ∧ k < H) w' vp x.procs ∧ Row1 (Value.int .i64) w' gs 3 x.state [] ∧ RTab H tw rs w' ∧ tabL rs = x.waiting ∧ Below w.heap.size w w' := by
  obtain ⟨n, hn⟩ : ∃ n, n = x.procs.length := ⟨_, rfl⟩
  have h1n : 1 ≤ n := by rw [hn]; exact hr.n.1
  have hn12 : n ≤ 12 := by rw [hn]; exact hr.n.2
  have hst : x.state.length = n := by rw [hn]; exact hr.nst
  have hwt : x.waiting.length = n := by rw [hn]; exact hr.nwt
  rw [← hn]
  obtain ⟨W1, e1⟩ : ∃ W1, w.alloc (.cells #[.slice op n cp, .slice os n cs, .slice ow n cw] 26) = W1 := ⟨_, rfl⟩
  have bx1 : Box W1 w.heap.size [.slice op n cp, .slice os n cs, .slice ow n cw] 26 := by rw [← e1]; exact Box.new w [.slice op n cp, .slice os n cs, .slice ow n cw] 26
  have bb1 := bnew (Below.refl w.heap.size w) (.cells #[.slice op n cp, .slice os n cs, .slice ow n cw] 26)
  rw [e1] at bb1
  have z1 : W1.heap.size = w.heap.size + 1 := by rw [← e1]; simp
  obtain ⟨W2, e2⟩ : ∃ W2, W1.alloc (.cells #[.slice none 0 0, .slice none 0 0, .slice none 0 0] 26) = W2 := ⟨_, rfl⟩
  have bx2 : Box W2 W1.heap.size [.slice none 0 0, .slice none 0 0, .slice none 0 0] 26 := by rw [← e2]; exact Box.new W1 [.slice none 0 0, .slice none 0 0, .slice none 0 0] 26
  have bb2 := bnew (Below.refl W1.heap.size W1) (.cells #[.slice none 0 0, .slice none 0 0, .slice none 0 0] 26)
  rw [e2] at bb2
  have z2 : W2.heap.size = W1.heap.size + 1 := by rw [← e2]; simp
  have hb2 := bb1.trans (bb2.mono bb1.size)
  have bx1 := bx1.below bb2
  have hP := hide (hp.wide prcR_ok (by omega) (F' := fun k => F k ∧ k < w.heap.size) (fun k h hl => ⟨h, hl⟩))
  have hS := hide (hs.loc intR_ok (by omega))
  have hT := hide (ht.loc tabR' (by omega))
  have d0 := bx1.cell 0
  have d1 := bx1.cell 1
  have d2 := bx1.cell 2
  simp only [List.getElem?_cons_zero, List.getElem?_cons_succ] at d0 d1 d2
  have HB2 := hide hb2
  have HX1 := hide bx1
  have HX2 := hide bx2
  have HR := hide hr
  have HN := hide hn
  have HST := hide hst
  have HWT := hide hwt
  have Z1 := hide z1
  have Z2 := hide z2
  clear hp hs ht hr hn hst hwt bx1 bx2 bb1 bb2 hb2 z1 z2
  go_enter Tryz.func50, Tryz.ntmps50
  go_wp2_with (first
    | (at_make
       refine wpList_make_cells _ rfl _ _ 23 rfl 3 (.int .i64 0) 1 8 Tryz.underlying23 intInfoN .i64 .i64 _ _ n rfl rfl rfl rfl (by omega) (by unfold maxLen; omega) (fun w3 zs h3 g3 => ?_)
       have hb3 : Below W2.heap.size W2 w3 := (Below.refl _ _).grown g3 (Nat.le_refl _) fun k hk => by cases hk
       have m2 := (HX1.out.below hb3).cell 1
       have lw3 := (HX1.out.below hb3).lt
       simp only [List.getElem?_cons_zero, List.getElem?_cons_succ] at m2
       have HO3 := hide h3
       have HB3 := hide hb3
       clear h3 g3 hb3)
    | (refine wpList_copy_fresh intR_ok rfl _ _ 23 23 rfl 3 Tryz.underlying23 intSizeN W2.heap.size n os cs rfl rfl x.state zs (ownsRow_keep HO3.out (fun g hg => (bnew (Below.refl w3.heap.size w3) _).block g (by simp [Value.ownBlock] at hg; have := ownsRow_lt HO3.out; omega))) HST.out (by omega) (by omega) ((hS.out.below intR_ok HB2.out).below intR_ok (HB3.out.alloc HB3.out.size _)) (fun h => by have h9 : W2.heap.size < w.heap.size := h; have := Z1.out; have := Z2.out; omega) (fun w5 h5 g5 => ?_)
       have hs3 := ownsRow_lt HO3.out
       have bx4 := Box.new w3 [.slice none 0 0, .slice (some ⟨W2.heap.size, 0, none⟩) n n, .slice none 0 0] 26
       have hb4 : Below W2.heap.size W2 (w3.alloc (.cells #[.slice none 0 0, .slice (some ⟨W2.heap.size, 0, none⟩) n n, .slice none 0 0] 26)) := HB3.out.alloc HB3.out.size _
       have hb5 : Below W2.heap.size W2 w5 := hb4.trans ((Below.refl _ _).grown g5 (by rw [alloc_size']; omega) fun k hk => by injection hk with hk; omega)
       have HX5 := hide (bx4.grown g5 (fun e => by injection e with e; omega))
       have HW5 := hide hb5
       have HS5 := hide h5
       have c0 := (HX1.out.below hb5).cell 0
       simp only [List.getElem?_cons_zero] at c0
       clear bx4 hb4 g5 h5 hb5 m2 lw3))
  obtain ⟨po, hpo⟩ : ∃ po, po = w3.heap.size := ⟨_, rfl⟩
  obtain ⟨gs, hgs⟩ : ∃ gs, gs = W2.heap.size := ⟨_, rfl⟩
  rw [← hpo] at HX5 hs3 ⊢
  rw [← hgs] at HX5 HS5 HW5 hs3 ⊢
  have HPO := hide hpo
  have HGS := hide hgs
  have HRS : Hid (Row1 (Value.int .i64) w5 gs 3 x.state []) := by
    obtain ⟨g, cap, rest, he, _, hc, _, hrow, _⟩ := HS5.out.row (by intro e; have := HST.out; rw [e] at this; simp at this; omega)
    injection he with e1 e2 e3
    injection e1 with e1
    injection e1 with e1
    have := HST.out
    have hr0 : rest = [] := List.eq_nil_of_length_eq_zero (by omega)
    rw [hr0, ← e1] at hrow
    exact hrow
  have hB0 : w.heap.size + 2 ≤ gs := by have := Z1.out; have := Z2.out; omega
  clear hpo hgs HO3 HB3 HS5 d0 d1 d2
  go_loopg [26] n (fun gm iv wr => ∃ (i : Nat) (vp : Value), i ≤ n ∧ gm = n - i ∧ iv = .int .i64 i ∧ Hid (OwnS prcR 3 (po + 1) 89 (InF (OldNew F w.heap.size (po + 1)) vp) wr vp (x.procs.take i)) ∧ Hid (Box wr po [vp, .slice (some ⟨gs, 0, none⟩) n n, .slice none 0 0] 26) ∧ Hid (Below po w5 wr))
  case atStart => exact ⟨0, _, by omega, by omega, rfl, OwnS.nil _ _ _ _ _ _, HX5, Below.refl _ _⟩
  case round =>
    obtain ⟨i, vp, hi, hgm, rfl, HO, HX, HB⟩ := hrel
    have HGM := hide hgm
    clear hgm
    have hbw : Below w.heap.size w wr := HB2.out.trans ((HW5.out.mono (by omega)).trans (HB.out.mono (by omega)))
    have hpl := HX.out.lt
    by_cases hlt : i < n
    · have hip : i < x.procs.length := by have := HN.out; omega
      obtain ⟨S, Le, rs, b7, off7, oR, cR, hd7, hpr, hoP, _, y0, y1, y2, iS, iL, hrc, _, hrs⟩ := (hP.out.keep (w' := wr) prcR_ok (fun k hk _ => hbw.block k hk.2)).prc_at hip
      subst hoP
      obtain ⟨hsm1, hsm2⟩ := copy_small (HR.out.proc i _ hpr)
      simp only at hsm1 hsm2
      have hrl := fun (j : Nat) (row : List Rul) (hj : rs[j]? = some row) => valid_row (HR.out.proc i _ hpr) hj
      simp only at hrl
      have hle := (check_zero (HR.out.proc i _ hpr)).2.2.1.1
      simp only at hle
      obtain ⟨oV, cV, hvp, _, _⟩ := HO.out.slice prcR_ok
      rw [List.length_take, Nat.min_eq_left (by omega)] at hvp
      have o0 := HX.out.cell 0
      simp only [List.getElem?_cons_zero] at o0
      have HPR := hide hpr
      have HSM := hide hsm2
      have HRL := hide hrl
      have HRS2 := hide hrs
      have HRC := hide hrc
      obtain ⟨rn, hrn⟩ : ∃ rn, rn = rs.length := ⟨_, rfl⟩
      have HRN := hide hrn
      rw [← hrn] at y2 hsm1
      have HBW := hide hbw
      have HLE := hide hle
      have HVP := hide hvp
      clear hd7 hpr hsm2 hrl hrs hrc hrn hbw hle hvp o0
      go_wp2_with fail
      obtain ⟨H, hH⟩ : ∃ H, H = wr.heap.size := ⟨_, rfl⟩
      obtain ⟨W7, e7⟩ : ∃ W7, (wr.alloc (.cells #[.int .i64 S, .int .i64 Le, .slice oR rn cR] 89)).alloc (.cells #[.int .i64 S, .int .i64 Le, .slice none 0 0] 89) = W7 := ⟨_, rfl⟩
      have bxp : Box W7 wr.heap.size [.int .i64 S, .int .i64 Le, .slice oR rn cR] 89 := by rw [← e7]; exact (Box.new wr [.int .i64 S, .int .i64 Le, .slice oR rn cR] 89).next _
      have bxq : Box W7 (wr.heap.size + 1) [.int .i64 S, .int .i64 Le, .slice none 0 0] 89 := by
        rw [← e7]
        have := Box.new (wr.alloc (.cells #[.int .i64 S, .int .i64 Le, .slice oR rn cR] 89)) [.int .i64 S, .int .i64 Le, .slice none 0 0] 89
        rw [alloc_size'] at this
        exact this
      have hb7 : Below wr.heap.size wr W7 := by rw [← e7]; exact bnew (bnew (Below.refl _ _) _) _
      have hz7 : W7.heap.size = wr.heap.size + 2 := by rw [← e7, alloc_size', alloc_size']
      rw [e7]
      rw [← hH] at bxp bxq hb7 hz7
      rw [← hH]
      have HXP := hide bxp
      have HXQ := hide bxq
      have HB7 := hide hb7
      have HH := hide hH
      have HOV := hide (HO.out.block)
      have HOH : Hid (OwnS prcR 3 (po + 1) 89 (fun k => InF (OldNew F w.heap.size (po + 1)) vp k ∧ k < H) wr vp (x.procs.take i)) := HO.out.wide prcR_ok fun k hk hkl => ⟨hk, by have := HH.out; omega⟩
      have HXO : Hid (Box wr po [vp, .slice (some ⟨gs, 0, none⟩) n n, .slice none 0 0] 26) := HX.out
      rw [← hH] at HOV hpl
      clear e7 bxp bxq hb7 hH y0 y1 y2 c0
      go_loopg [38] rn (fun gm2 sv wx => ∃ (s : Nat) (vq : Value), s ≤ rn ∧ gm2 = rn - s ∧ sv = .int .i64 s ∧ Hid (OwnS (slcR ruleR 2) 1 (H + 2) 100 (InF (OldNew F w.heap.size (H + 2)) vq) wx vq (rs.take s)) ∧ Hid (Box wx (H + 1) [.int .i64 S, .int .i64 Le, vq] 89) ∧ Hid (Below (H + 1) W7 wx))
      case atStart => exact ⟨0, _, by omega, by omega, rfl, OwnS.nil _ _ _ _ _ _, HXQ, Below.refl _ _⟩
      case round =>
        obtain ⟨s, vq, hs, hgm2, rfl, HOq, HXq, HBq⟩ := hrel
        have HGM2 := hide hgm2
        clear hgm2
        have hql := HXq.out.lt
        have hkeep : ∀ k, k < H → wr.heap[k]? = W7.heap[k]? := fun k hk => HBq.out.block k (by omega)
        by_cases hls : s < rn
        · have hbw2 : ∀ k, k < w.heap.size → wr.heap[k]? = w.heap[k]? := fun k hk => by
            rw [hkeep k (by omega), HB7.out.block k (by omega)]
            exact HBW.out.block k hk
          obtain ⟨row, hd, hrow, b9, off9, oW, cW, hoR, _, y9, hcw, _, hsw⟩ := (HRS2.out.keep (w' := wr) rowR_ok (fun k hk _ => by have hk' : k < w.heap.size := hk.2; rw [hkeep k (by omega), HB7.out.block k (by omega)])).slc_at (i := s) (by have := HRN.out; omega)
          subst hoR
          have hln := HRL.out s row hrow
          have hm := HSM.out row (List.mem_of_getElem? hrow)
          obtain ⟨hm1, hm2⟩ := hm
          have HM2 := hide hm2
          have HRW := hide hrow
          have HSW := hide hsw
          obtain ⟨oQq, cQq, hvq, _, _⟩ := HOq.out.slice rowR_ok
          rw [List.length_take, Nat.min_eq_left (by have := HRN.out; omega)] at hvq
          have HVQ := hide hvq
          obtain ⟨ln, hll⟩ : ∃ ln, ln = row.length := ⟨_, rfl⟩
          have HLL := hide hll
          rw [← hll] at y9 hm1
          have hl1 : 1 ≤ ln := by have := HLE.out; omega
          obtain ⟨G, hG⟩ : ∃ G, G = wr.heap.size := ⟨_, rfl⟩
          have HG := hide hG
          have hGH : H + 2 ≤ G := by have := HBq.out.size; omega
          have HOqG : Hid (OwnS (slcR ruleR 2) 1 (H + 2) 100 (fun k => InF (OldNew F w.heap.size (H + 2)) vq k ∧ k < G) wr vq (rs.take s)) := HOq.out.wide rowR_ok fun k hk hkl => ⟨hk, by omega⟩
          have OVq : Hid (∀ g, vq.ownBlock = some g → H + 2 ≤ g ∧ g < G) := fun g hg => by have := HOq.out.block g hg; omega
          clear hd hrow hsw hln hm2 hll hvq hG hcw
          go_wp2_with (first
            | (at_make
               refine wpList_make_cells _ rfl _ _ 100 rfl 99 (.agg #[.int .i64 0, .slice none 0 0]) 2 32 Tryz.underlying100 ruleInfoN .i64 .i64 _ _ ln rfl rfl rfl rfl (by omega) (by unfold maxLen; omega) (fun y3 zs h3 g3 => ?_)
               have HO3 := hide h3
               have HG3 := hide g3
               clear h3 g3)
            | (refine wpList_copy_fresh ruleR_ok rfl _ _ 100 100 rfl 99 Tryz.underlying100 ruleSizeN wr.heap.size ln oW cW rfl rfl row zs HO3.out HLL.out.symm (by omega) (by omega) (HSW.out.keep (w' := y3) ruleR_ok (fun k hk hkl => HG3.out.block k hkl (fun e => by cases e))) (fun h => by have h9 : wr.heap.size < w.heap.size := h.2; omega) (fun y5 h5 g5 => ?_)
               have hy3 := ownsRow_lt HO3.out
               have HG5 := hide g5
               have HS5 := hide (h5.wide ruleR_ok (F' := fun k => OldNew F w.heap.size wr.heap.size k ∧ k ≠ wr.heap.size) (fun k hk _ => ⟨.inl hk, fun e => by have hk' : k < w.heap.size := hk.2; omega⟩))
               have hb35 : Below wr.heap.size wr y5 := ((Below.refl _ _).grown HG3.out (Nat.le_refl _) fun k hk => by cases hk).trans ((Below.refl _ _).grown g5 (by omega) fun k hk => by injection hk with hk; omega)
               have HB35 := hide hb35
               clear g5 h5 hb35))
          rw [← HG.out] at HS5 HB35
          rw [← HG.out]
          have hy5 : G + 1 ≤ y5.heap.size := by
            have h1 := HG5.out.size
            rw [HG.out]
            omega
          clear HO3 HG3 HG5 hy3
          go_loopg [50] ln (fun gm3 av wy => ∃ (a : Nat), a ≤ ln ∧ gm3 = ln - a ∧ av = .int .i64 a ∧ Hid (OwnS ruleR 2 G 99 (fun k => OldNew F w.heap.size G k ∧ k ≠ G) wy (.slice (some ⟨G, 0, none⟩) ln ln) row) ∧ Hid (Below G y5 wy))
          case atStart => exact ⟨0, by omega, by omega, rfl, HS5, Below.refl _ _⟩
          case round =>
            obtain ⟨a, ha, hgm3, rfl, HOa, HBa⟩ := hrel
            have HGM3 := hide hgm3
            clear hgm3
            by_cases hla : a < ln
            · obtain ⟨⟨nx, st⟩, hru⟩ : ∃ r, row[a]? = some r := ⟨_, List.getElem?_eq_getElem (by have := HLL.out; omega)⟩
              have hm3 := HM2.out _ (List.mem_of_getElem? hru)
              simp only at hm3
              obtain ⟨g33, hc33, hog, hg331, hg332, hrow33, ⟨oQ, cQ, rfl, iN, hcq, _, hsq⟩⟩ := HOa.out.hole hru
              injection hog with hog
              injection hog with hog
              subst hog
              simp only at hrow33 iN hcq hsq
              have zz := hrow33.cell (j := 1) (by omega)
              have zf := hrow33.free (a * 2 + 1)
              simp only [List.getElem?_cons_zero, List.getElem?_cons_succ] at zz
              have HCO := hide (cloneO_any st oQ cQ _ wr hsq hcq (by omega))
              have HRU := hide hru
              have HR33 := hide hrow33
              obtain ⟨sn, hsn⟩ : ∃ sn, sn = st.length := ⟨_, rfl⟩
              have HSN := hide hsn
              rw [← hsn] at HCO zz hm3
              clear hru hrow33 hsq hsn hcq
              go_wp2_with (go_at_call 95; refine HCO.out.mono ?_
                           rintro e w6 ⟨v49, rfl, h49, hb49⟩
                           obtain ⟨o49, c49, hv49, hc49, hs49⟩ := h49.slice outR_ok
                           rw [← HSN.out] at hv49 hc49
                           subst hv49
                           have hr33 := HR33.out.keep ruleR_ok (hb49.block _ hg332) (SameOn.of_below hb49)
                           have zz := hr33.cell (j := 1) (by omega)
                           have zf := hr33.free (a * 2 + 1)
                           simp only [List.getElem?_cons_zero, List.getElem?_cons_succ] at zz
                           have HR34 := hide hr33
                           have HS49 := hide hs49
                           have HB49 := hide hb49
                           clear h49 hb49 hs49 hr33)
              go_roundg (ln - (a + 1))
              case measure => have := HGM3.out; omega
              case rel =>
                have hput := HR34.out.put ruleR_ok (fun h => h.2 rfl) (j := 1) (by omega) (u := .slice o49 sn c49) rfl
                simp only [List.set_cons_succ, List.set_cons_zero] at hput
                have hs50 : SliceR outR 2 (fun k => OldNew F w.heap.size G k ∧ k ≠ G) (w6.setCell ⟨G, a * 2 + 1, none⟩ (.slice o49 sn c49)) o49 st := by
                  refine (HS49.out.wide outR_ok (by decide) (F' := fun k => OldNew F w.heap.size G k ∧ k ≠ G) fun k hk _ => ?_).keep outR_ok fun k hk _ => Below.heap_setCell _ _ _ k hk.2
                  rcases hk with hk | hk
                  · exact hk.1
                  · exact ⟨.inr (by omega), by omega⟩
                have hfill := hput.fill HRU.out ⟨o49, c49, by simp [HSN.out], iN, by simp only; have := HSN.out; omega, by simp only; have := HSN.out; omega, hs50⟩
                exact ⟨a + 1, by omega, rfl, by go_num, hfill, (HBa.out.trans (HB49.out.mono (by omega))).setCell (Nat.le_refl _) _⟩
            · have hla2 := hla
              have hvq := HVQ.out
              subst hvq
              have hbG := HB35.out.trans HBa.out
              have howq := (HOqG.out.keep (w' := wr) rowR_ok (fun g hg => hbG.block g (OVq.out g hg).2) (fun k hk _ => hbG.block k hk.2)).wide rowR_ok (F' := InF (OldNew F w.heap.size (H + 2)) (.slice oQq s cQq)) (fun k hk _ => hk.1)
              have hxq := HXq.out.keep (w' := wr) (hbG.block (H + 1) (by omega))
              have hrep : slcR ruleR 2 (InF (OldNew F w.heap.size (H + 2)) (.slice oQq s cQq)) wr [.slice (some ⟨G, 0, none⟩) ln ln] row := by
                obtain ⟨o9, c9, e9, hc9, hs9⟩ := HOa.out.slice ruleR_ok
                injection e9 with q1 q2 q3
                refine ⟨o9, c9, by rw [q1, ← q2, q3], hc9, by omega, hs9.wide ruleR_ok (by decide) fun k hk _ => ?_⟩
                have hk2 : (F k ∧ k < w.heap.size) ∨ G ≤ k := by
                  rcases hk with hk | hk
                  · exact hk.1
                  · exact .inr hk
                refine ⟨?_, fun he => ?_⟩
                · rcases hk2 with h | h
                  · exact .inl h
                  · exact .inr (by omega)
                · have := OVq.out k he.symm
                  omega
              have k2 := hxq.cell 2
              have k2n := (hxq.next (.cells #[.slice (some ⟨G, 0, none⟩) ln ln] 100)).cell 2
              have lq := hxq.lt
              simp only [List.getElem?_cons_zero, List.getElem?_cons_succ] at k2 k2n
              have HOWQ := hide howq
              have HXQ2 := hide hxq
              have HREP := hide hrep
              have HBG := hide hbG
              have HTL : Hid ((rs.take s).length = s) := by show _ = _; rw [List.length_take, Nat.min_eq_left (by have := HRN.out; omega)]
              clear howq hxq hrep hbG
              go_wp2_with (at_builtin
                           refine wpList_append_in rfl (.tmp 65) (.tmp 67) 87 rfl (H + 2) 100 _ 1 24 Tryz.underlying87 rowInfoN rfl (by decide) rowR_ok (OldNew F w.heap.size (H + 2)) (.slice oQq s cQq) (rs.take s) (by simp [Act.eval, Act.put]) (HOWQ.out.new rowR_ok _) ⟨_, 0, none⟩ 1 [.slice (some ⟨G, 0, none⟩) ln ln] row (by simp [Act.eval, Act.put]) (World.news_of_block (heap_alloc_new _ _)) (rowR_ok.keep HREP.out (SameOn.of_below (bnew (Below.refl _ _) _))) (by rw [HTL.out]; omega) (by rw [HTL.out]; unfold maxLen; omega) (by rw [alloc_size']; omega) (fun v' w8 ho hb8 hg8 hat => ?_)
                           have hbx8 := (HXQ2.out.next (.cells #[.slice (some ⟨G, 0, none⟩) ln ln] 100)).grown hg8 (fun e => by have := OVq.out (H + 1) e.symm; omega)
                           have m2 := hbx8.cell 2
                           have mf := hbx8.free 2
                           obtain ⟨o8, c8, hv8, _, _⟩ := ho.slice rowR_ok
                           rw [List.length_append, HTL.out] at hv8
                           simp only [List.length_cons, List.length_nil, Nat.zero_add] at hv8
                           subst hv8
                           simp only [List.getElem?_cons_zero, List.getElem?_cons_succ] at m2
                           have HOW8 := hide ho
                           have HX8 := hide hbx8
                           have HB8 := hide hb8
                           clear ho hb8 hg8 hat hbx8 k2 k2n)
              go_roundg (rn - (s + 1))
              case measure => have := HGM2.out; omega
              case rel =>
                have hput := HX8.out.put 2 (.slice o8 (s + 1) c8)
                simp only [List.set_cons_zero, List.set_cons_succ] at hput
                refine ⟨s + 1, .slice o8 (s + 1) c8, by omega, rfl, by go_num, ?_, hput, ?_⟩
                · show OwnS _ _ _ _ _ _ _ _
                  rw [List.take_add_one, HRW.out]
                  exact HOW8.out.keep rowR_ok (fun g hg => Below.heap_setCell _ _ _ g (by have := (HOW8.out.block g hg).1; simp only; omega)) (fun k hk _ => Below.heap_setCell _ _ _ k (by have := hk.1; unfold OldNew at this; simp only; omega))
                · exact ((((HBq.out.trans (HBG.out.mono (by omega))).alloc (by omega) _).trans (HB8.out.mono (by omega))).setCell (Nat.le_refl _) _)
        · have hse : s = rn := by omega
          subst hse
          have hvp := HVP.out
          subst hvp
          have hbH := HB7.out.trans (HBq.out.mono (by omega))
          have hown := (HOH.out.keep (w' := wr) prcR_ok (fun g hg => hbH.block g (HOV.out g hg).2) (fun k hk _ => hbH.block k hk.2)).wide prcR_ok (F' := InF (OldNew F w.heap.size (po + 1)) (.slice oV i cV)) (fun k hk _ => hk.1)
          have hxo := HXO.out.keep (w' := wr) (hbH.block po hpl)
          obtain ⟨oq, cq, hvq, hcq, hsq⟩ := HOq.out.slice rowR_ok
          rw [List.take_of_length_le (by have := HRN.out; omega)] at hvq hcq hsq
          rw [← HRN.out] at hvq hcq
          subst hvq
          have hrep : prcR (InF (OldNew F w.heap.size (po + 1)) (.slice oV i cV)) wr [.int .i64 S, .int .i64 Le, .slice oq s cq] ⟨S, Le, rs⟩ := by
            refine ⟨oq, cq, by rw [HRN.out], iS, iL, by simp only; have := HRN.out; omega, by simp only; have := HRN.out; omega, hsq.wide rowR_ok (by decide) fun k hk _ => ?_⟩
            have hk2 : (F k ∧ k < w.heap.size) ∨ H + 2 ≤ k := by
              rcases hk with hk | hk
              · exact hk.1
              · exact .inr hk
            refine ⟨?_, fun he => ?_⟩
            · rcases hk2 with h | h
              · exact .inl h
              · exact .inr (by omega)
            · have := HOV.out k he.symm
              omega
          have q0 := HXq.out.cell 0
          have q1 := HXq.out.cell 1
          have q2 := HXq.out.cell 2
          have k0 := hxo.cell 0
          have k0n := (hxo.next (.cells #[.int .i64 S, .int .i64 Le, .slice oq s cq] 89)).cell 0
          have lpo := hxo.lt
          simp only [List.getElem?_cons_zero, List.getElem?_cons_succ] at q0 q1 q2 k0 k0n
          have HOWN := hide hown
          have HXO2 := hide hxo
          have HREP := hide hrep
          have HBH := hide hbH
          have HTL : Hid ((x.procs.take i).length = i) := by show _ = _; rw [List.length_take, Nat.min_eq_left (by have := HN.out; omega)]
          have HOV2 := hide (fun g hg => (HOV.out g hg).1)
          clear hown hxo hrep hbH hsq hcq
          go_wp2_with (at_builtin
                       refine wpList_append_in rfl (.tmp 72) (.tmp 74) 22 rfl (po + 1) 89 _ 3 40 Tryz.underlying22 prcInfoN rfl (by decide) prcR_ok (OldNew F w.heap.size (po + 1)) (.slice oV i cV) (x.procs.take i) (by simp [Act.eval, Act.put]) (HOWN.out.new prcR_ok _) ⟨_, 0, none⟩ 1 [.int .i64 S, .int .i64 Le, .slice oq s cq] ⟨S, Le, rs⟩ (by simp [Act.eval, Act.put]) (World.news_of_block (heap_alloc_new _ _)) (prcR_ok.keep HREP.out (SameOn.of_below (bnew (Below.refl _ _) _))) (by rw [HTL.out]; omega) (by rw [HTL.out]; unfold maxLen; omega) (by rw [alloc_size']; omega) (fun v' w8 ho hb8 hg8 hat => ?_)
                       have hbx8 := (HXO2.out.next (.cells #[.int .i64 S, .int .i64 Le, .slice oq s cq] 89)).grown hg8 (fun e => by have := HOV2.out po e.symm; omega)
                       have m0 := hbx8.cell 0
                       have mf := hbx8.free 0
                       obtain ⟨o8, c8, hv8, _, _⟩ := ho.slice prcR_ok
                       rw [List.length_append, HTL.out] at hv8
                       simp only [List.length_cons, List.length_nil, Nat.zero_add] at hv8
                       subst hv8
                       simp only [List.getElem?_cons_zero, List.getElem?_cons_succ] at m0
                       have HOW8 := hide ho
                       have HX8 := hide hbx8
                       have HB8 := hide hb8
                       clear ho hb8 hg8 hat hbx8 k0 k0n)
          go_roundg (n - (i + 1))
          case measure => have := HGM.out; omega
          case rel =>
            have hput := HX8.out.put 0 (.slice o8 (i + 1) c8)
            simp only [List.set_cons_zero, List.set_cons_succ] at hput
            refine ⟨i + 1, .slice o8 (i + 1) c8, by omega, rfl, by go_num, ?_, hput, ?_⟩
            · show OwnS _ _ _ _ _ _ _ _
              rw [List.take_add_one, HPR.out]
              exact HOW8.out.keep prcR_ok (fun g hg => Below.heap_setCell _ _ _ g (by have := (HOW8.out.block g hg).1; simp only; omega)) (fun k hk _ => Below.heap_setCell _ _ _ k (by have := hk.1; unfold OldNew at this; simp only; omega))
            · exact ((((HB.out.trans (HBH.out.mono (by omega))).alloc (by omega) _).trans (HB8.out.mono (by omega))).setCell (Nat.le_refl _) _)
    · have hie : i = n := by omega
      subst hie
      obtain ⟨oV, cV, hvp, _, _⟩ := HO.out.slice prcR_ok
      rw [List.length_take, Nat.min_eq_left (by have := HN.out; omega)] at hvp
      subst hvp
      have hO := HO.out
      rw [List.take_of_length_le (by have := HN.out; omega)] at hO
      obtain ⟨Hw, hHw⟩ : ∃ Hw, Hw = wr.heap.size := ⟨_, rfl⟩
      have HHw := hide hHw
      have HOV := hide (fun g hg => (hO.block g hg).2)
      rw [← hHw] at HOV
      have HOH : Hid (OwnS prcR 3 (po + 1) 89 (fun k => InF (OldNew F w.heap.size (po + 1)) (.slice oV i cV) k ∧ k < Hw) wr (.slice oV i cV) x.procs) := hO.wide prcR_ok fun k hk hkl => ⟨hk, by omega⟩
      have HOB := hide (fun g hg => (hO.block g hg).1)
      have hx1 := (HX1.out.under HW5.out (by omega)).under HB.out (by omega)
      have c2 := hx1.cell 2
      have c2o := HX.out.cell 2
      simp only [List.getElem?_cons_zero, List.getElem?_cons_succ] at c2 c2o
      have HBW := hide hbw
      clear hO hHw hx1 hbw
      rw [← HHw.out] at hpl
      go_wp2_with fail
      go_loopg [81] i (fun gm iv wx => ∃ (j : Nat) (tw : Value) (rs : List Rw), j ≤ i ∧ gm = i - j ∧ iv = .int .i64 j ∧ Hid (RTab Hw tw rs wx) ∧ Hid (tabL rs = x.waiting.take j) ∧ Hid (Box wx po [.slice oV i cV, .slice (some ⟨gs, 0, none⟩) i i, tw] 26) ∧ Hid (∀ k, k < Hw → k ≠ po → wx.heap[k]? = wr.heap[k]?) ∧ Hid (Below po wr wx))
      case atStart => exact ⟨0, _, [], by omega, by omega, rfl, RTab.nil _ _, rfl, HX.out, fun _ _ _ => rfl, Below.refl _ _⟩
      case round =>
        obtain ⟨j, tw, rs, hj, hgm2, rfl, HRT, HTB, HXo, HKP, HBj⟩ := hrel
        have HGM2 := hide hgm2
        clear hgm2
        have hbwj : ∀ k, k < w.heap.size → wr.heap[k]? = w.heap[k]? := fun k hk => (HBj.out.block k (by omega)).trans (HBW.out.block k hk)
        have hHwj : Hw ≤ wr.heap.size := by
          have := HBj.out.size
          have := HHw.out
          omega
        have hpoj : po < Hw := hpl
        have HPJ := hide hpoj
        by_cases hlj : j < i
        · obtain ⟨l, _, hwl, b1, off1, ol, cl, how, _, c4, hcl, hcl2, hsl⟩ := (hT.out.keep (w' := wr) tabR' (fun k hk _ => hbwj k hk)).slc_at (i := j) (by have := HWT.out; omega)
          subst how
          have hl8 : 1 ≤ l.length ∧ l.length ≤ 8 := by
            have hip : j < x.procs.length := by have := HN.out; omega
            have hpr := List.getElem?_eq_getElem hip
            have h1 := HR.out.wl j l _ hwl hpr
            have h2 := check_zero (HR.out.proc j _ hpr)
            omega
          have hrl : rs.length = j := by
            have := congrArg List.length HTB.out
            unfold tabL at this
            rw [List.length_map, List.length_take, Nat.min_eq_left (by have := HWT.out; omega)] at this
            exact this
          obtain ⟨ot, ct_, htw, _⟩ := HRT.out.len
          rw [hrl] at htw
          subst htw
          have HLEN : Hid ((rs.map Rw.val).length = j) := by show _ = _; rw [List.length_map]; exact hrl
          have m2 := HXo.out.cell 2
          have mf2 := HXo.out.free 2
          simp only [List.getElem?_cons_zero, List.getElem?_cons_succ] at m2
          have m2d : wr.drew.cell? ⟨po, 2, none⟩ = some (.slice ot j ct_) := m2
          have mf2d : wr.drew.frozen? ⟨po, 2, none⟩ = false := mf2
          have hcl3 := cloneIW_any l ol cl _ wr.drew (hsl.keep intR_ok (fun _ _ _ => rfl)) hcl (by omega)
          obtain ⟨ll, hll⟩ : ∃ ll, ll = l.length := ⟨_, rfl⟩
          have HLL := hide hll
          rw [← hll] at hcl3 c4 hl8 hcl
          have HCL := hide hcl3
          have HWL := hide hwl
          clear hwl hsl hcl2 hcl3 hll hrl
          go_wp2_with fail
          go_region_law (first
              | (refine step_append_at rfl (.tmp 86) (.tmp 89) 24 rfl Hw 23 _ 1 24 Tryz.underlying24 tabInfoN rfl (by decide) valR_ok Non (.slice ot j ct_) (rs.map Rw.val) (by simp [Act.eval, Act.put]) (OwnS.new valR_ok HT7.out _) ⟨_, 0, none⟩ 1 [.slice (some ⟨gr, 0, none⟩) ll capr] (.slice (some ⟨gr, 0, none⟩) ll capr) (by simp [Act.eval, Act.put]) (World.news_of_block (heap_alloc_new _ _)) ⟨rfl, rfl⟩ (fun _ h => h.elim) (by rw [HLEN.out]; omega) (by rw [HLEN.out]; unfold maxLen; omega) (by simp; omega) ?_; intro v' w8 ho hb hg hat; have hbm := (HM7.out.next _).grown hg (fun e => by obtain ⟨cur, hcur⟩ := own_heap HT7.out e.symm; exact ne_type HM7.out hcur (by decide) rfl); have k6 := hbm.cell 2; have kf := hbm.free 2; obtain ⟨o3, c3, hv3, _, _⟩ := ho.slice valR_ok; rw [List.length_append, HLEN.out] at hv3; simp only [List.length_cons, List.length_nil, Nat.zero_add] at hv3; subst hv3; simp only [List.getElem?_cons_zero, List.getElem?_cons_succ] at k6)
              | (go_simp; go_at_call 72; refine HCL.out.mono ?_; rintro e w7 ⟨v60, rfl, h60, hb60⟩; obtain ⟨gr, capr, rr, hv60, hgr, hcapr, _, hrow7, _⟩ := h60.row (by intro e; have := HLL.out; rw [e] at this; simp at this; omega); rw [← HLL.out] at hv60 hcapr; subst hv60; have hcr : ll ≤ capr := by { omega }; clear hcapr h60; have hs7 : wr.heap.size ≤ w7.heap.size := hb60.size; have HT7 := hide (HRT.out.tab.below valR_ok (Below.trans (Below.refl _ _).drew hb60)); have HM7 := hide (HXo.out.below (Below.trans (Below.refl _ _).drew hb60)); have m2 := HM7.out.cell 2; have mf2 := HM7.out.free 2; simp only [List.getElem?_cons_zero, List.getElem?_cons_succ] at m2; have m2n := cell_next m2 (.cells #[.slice (some ⟨gr, 0, none⟩) ll capr] 23); have HR7 := hide hrow7; have HB60 : Hid (Below wr.heap.size wr w7) := (Below.refl _ _).drew.trans hb60; clear hb60 hrow7))
          all_goals
            have hk8 : ∀ k, k < wr.heap.size → some k ≠ (Value.slice ot j ct_).ownBlock → w8.heap[k]? = wr.heap[k]? := fun k hk hne => (hg.block k (by show k < (w7.alloc _).heap.size; simp; omega) hne).trans ((Below.heap_alloc w7 _ k (by omega)).trans (HB60.out.block k hk))
            have hr8 : Row1 (Value.int .i64) w8 gr 3 l rr := HR7.out.keep ((hg.block gr (by have := HR7.out.lt; show gr < (w7.alloc _).heap.size; simp; omega) (fun e => by obtain ⟨cur, hcur⟩ := own_heap HT7.out e.symm; exact ne_type HR7.out hcur (by decide) rfl)).trans (Below.heap_alloc w7 _ gr HR7.out.lt))
            have hpw := HRT.out.push (r := ⟨gr, capr, l, rr⟩) (by unfold Rw.val slV; rw [← HLL.out]; exact ho) hk8 hr8 hgr hHwj (by show l.length ≤ capr; rw [← HLL.out]; exact hcr)
            have hput := hbm.put 2 (.slice o3 (j + 1) c3)
            simp only [List.set_cons_zero, List.set_cons_succ] at hput
            have hown : ∀ k, (Value.slice ot j ct_).ownBlock = some k → Hw ≤ k := fun k hk => (HRT.out.tab.block k hk).1
            have hwz : wr.heap.size ≤ w8.heap.size := by have := hg.size; simp at this; omega
            have hbx : RTab Hw (.slice o3 (j + 1) c3) (rs ++ [⟨gr, capr, l, rr⟩]) (w8.setCell ⟨po, 2, none⟩ (.slice o3 (j + 1) c3)) :=
              hpw.above fun k _ hk => Below.heap_setCell _ _ _ k (by simp only; omega)
            have hkp : ∀ k, k < wr.heap.size → k < Hw → k ≠ po → (w8.setCell ⟨po, 2, none⟩ (.slice o3 (j + 1) c3)).heap[k]? = wr.heap[k]? := fun k hk hk2 hk3 =>
              (Below.heap_setCell _ _ _ k hk3).trans (hk8 k hk fun e => by have := hown k e.symm; omega)
            have hbl : Below po wr (w8.setCell ⟨po, 2, none⟩ (.slice o3 (j + 1) c3)) :=
              ((((HB60.out.mono (B' := po) (Nat.le_trans (Nat.le_of_lt HPJ.out) hHwj)).alloc (Nat.le_trans (Nat.le_trans (Nat.le_of_lt HPJ.out) hHwj) hs7) (.cells #[.slice (some ⟨gr, 0, none⟩) ll capr] 23)).trans (hb.mono (B' := po) (Nat.le_of_lt HPJ.out))).setCell (Nat.le_refl _) _)
            have HP8 := hide hput
            have HT8 := hide hbx
            have HK8 := hide hkp
            have HB8 := hide hbl
            clear hk8 hr8 hpw hput hown hbx hkp hbl ho hb hg hat hbm k6 kf m2 mf2 m2d mf2d m2n
            go_wp2_with fail
            go_roundg (i - (j + 1))
            case measure => have := HGM2.out; omega
            case rel => exact ⟨j + 1, .slice o3 (j + 1) c3, rs ++ [(⟨gr, capr, l, rr⟩ : Rw)], by omega, rfl, by go_num, HT8.out, by show _ = _; rw [List.take_add_one, HWL.out]; unfold tabL; rw [List.map_append]; have := HTB.out; unfold tabL at this; rw [this]; rfl, HP8.out, (fun k hk hk2 => (HK8.out k (by omega) hk hk2).trans (HKP.out k hk hk2)), HBj.out.trans HB8.out⟩
        · have hje : j = i := by omega
          subst hje
          have hp1 : W1.heap.size < gs := by have := Z2.out; have := HGS.out; omega
          have hpw : w.heap.size ≤ W1.heap.size := by have := Z1.out; omega
          have hz2 := ((HX2.out.under HW5.out hp1).under HB.out (by omega)).under HBj.out (by omega)
          have r0 := hz2.cell 0
          have r1 := hz2.cell 1
          have r2 := hz2.cell 2
          have rf := hz2.free
          have o0 := HXo.out.cell 0
          have o1 := HXo.out.cell 1
          have o2 := HXo.out.cell 2
          simp only [List.getElem?_cons_zero, List.getElem?_cons_succ] at r0 r1 r2 o0 o1 o2
          obtain ⟨ot, ct_, htw, _⟩ := HRT.out.len
          have hrl : rs.length = j := by
            have := congrArg List.length HTB.out
            unfold tabL at this
            rw [List.length_map, List.length_take, Nat.min_eq_left (by have := HWT.out; omega)] at this
            exact this
          rw [hrl] at htw
          subst htw
          have HZ2 := hide hz2
          clear hz2 hrl c2 c2o
          go_wp2_with fail
          have hfin := ((HZ2.out.put 0 (.slice oV j cV)).put 1 (.slice (some ⟨gs, 0, none⟩) j j)).put 2 (.slice ot j ct_)
          simp only [List.set_cons_zero, List.set_cons_succ] at hfin
          obtain ⟨W9, e9⟩ : ∃ W9, ((wr.setCell ⟨W1.heap.size, 0, none⟩ (.slice oV j cV)).setCell ⟨W1.heap.size, 1, none⟩ (.slice (some ⟨gs, 0, none⟩) j j)).setCell ⟨W1.heap.size, 2, none⟩ (.slice ot j ct_) = W9 := ⟨_, rfl⟩
          rw [e9] at hfin ⊢
          have hk9 : ∀ k, k ≠ W1.heap.size → W9.heap[k]? = wr.heap[k]? := fun k hk => by
            rw [← e9, Below.heap_setCell _ _ _ k hk, Below.heap_setCell _ _ _ k hk, Below.heap_setCell _ _ _ k hk]
          have hs9 : W9.heap.size = wr.heap.size := by rw [← e9]; simp [World.setCell]
          have hB9 : Below w.heap.size w W9 := by
            rw [← e9]
            exact (((HBW.out.trans (HBj.out.mono (by omega))).setCell hpw _).setCell hpw _).setCell hpw _
          refine bodyPost_ret (results_cell_row rfl _ _ W1.heap.size 26 _ (0, 0) _ rfl hfin Tryz.underlying26 rfl (by kernel_rfl)) rfl ?_
          refine ⟨.slice oV j cV, .slice ot j ct_, rs, po + 1, Hw, gs, rfl, by omega, by omega, by omega, by rw [hs9]; exact hHwj, HOV.out, ?_, ?_, ?_, ?_, hB9⟩
          · exact HOH.out.keep prcR_ok (fun g hg => by
              have h1 := HOB.out g hg
              have h2 := HOV.out g hg
              rw [hk9 g (by omega), HKP.out g h2 (by omega)]) (fun k hk hkl => by
              have h1 := hk.1.1
              unfold OldNew at h1
              have h2 := hk.2
              rw [hk9 k (by omega), HKP.out k h2 (by omega)])
          · exact HRS.out.keep (by
              rw [hk9 gs (by omega), HKP.out gs (by omega) (by omega)]
              exact HB.out.block gs (by omega))
          · exact HRT.out.above fun k hk hk2 => hk9 k (by omega)
          · have := HTB.out
            rw [List.take_of_length_le (by have := HWT.out; omega)] at this
            exact this

end Go.Proofs.YtnigfddanoaonaaGreat

set_option linter.unusedVariables false
set_option linter.unusedSimpArgs false
namespace Go.Proofs.YtnigfddanoaonaaGreat
open Go.RowKit

/-- The machine at block p holds the network x; its processors lie where they are not changed. -/
structure Mach (O : Foot) (B0 K H p gs : Nat) (vp tw : Value) (rs : List Rw) (x : Nwk) (W : World) : Prop where
  main : Box W p [vp, .slice (some ⟨gs, 0, none⟩) x.procs.length x.procs.length, tw] 149
  procs : OwnS prcR 3 K 89 (fun k => InF (OldNew O B0 K) vp k ∧ k < H) W vp x.procs
  vlt : ∀ g, vp.ownBlock = some g → g < H
  sts : Row1 (Value.int .i64) W gs 3 x.state []
  tab : RTab H tw rs W
  tabs : tabL rs = x.waiting
  low : B0 ≤ gs ∧ gs < K ∧ K ≤ H ∧ H ≤ p
def machV (p : Nat) : Value := .pointer (some ⟨p, 0, none⟩)
section
variable {O : Foot} {B0 K H p gs : Nat} {vp tw : Value} {rs : List Rw} {x : Nwk} {W W' : World}
theorem Mach.below (h : Mach O B0 K H p gs vp tw rs x W) (hb : Below W.heap.size W W') : Mach O B0 K H p gs vp tw rs x W' :=
  { h with main := h.main.below hb, procs := h.procs.below prcR_ok hb, sts := h.sts.below hb, tab := h.tab.below hb }
theorem Mach.rlen (h : Mach O B0 K H p gs vp tw rs x W) : rs.length = x.waiting.length := by rw [← h.tabs]; unfold tabL; rw [List.length_map]
theorem Mach.row (h : Mach O B0 K H p gs vp tw rs x W) {i : Nat} {l : List Int} (hl : x.waiting[i]? = some l) : ∃ r, rs[i]? = some r ∧ r.l = l := by
  rw [← h.tabs] at hl
  unfold tabL at hl
  rw [List.getElem?_map, Option.map_eq_some_iff] at hl
  obtain ⟨r, h1, h2⟩ := hl
  exact ⟨r, h1, h2⟩
end

set_option maxHeartbeats 1000000 in
theorem nstart_any (x : Nwk) (op : Option Addr) (cp : Nat) (os : Option Addr) (cs : Nat) (ow : Option Addr) (cw : Nat) (F : Foot) (w : World)
    (hp : SliceR prcR 3 F w op x.procs) (hs : SliceR intR 1 F w os x.state) (ht : SliceR (slcR intR 1) 1 F w ow x.waiting) (hr : Right x) :
    Calls Tryz.prog 45 #[.agg #[.slice op x.procs.length cp, .slice os x.procs.length cs, .slice ow x.procs.length cw]] w fun e w' =>
      ∃ (B0 K H p gs : Nat) (vp tw : Value) (rs : List Rw), e = .returned (.iface 147 (machV p)) ∧ w.heap.size ≤ B0 ∧ Mach F B0 K H p gs vp tw rs x w' ∧ Below w.heap.size w w' := by
  obtain ⟨n, hn⟩ : ∃ n, n = x.procs.length := ⟨_, rfl⟩
  obtain ⟨W1, e1⟩ : ∃ W1, w.alloc (.cells #[.slice op n cp, .slice os n cs, .slice ow n cw] 26) = W1 := ⟨_, rfl⟩
  have bx1 : Box W1 w.heap.size [.slice op n cp, .slice os n cs, .slice ow n cw] 26 := by rw [← e1]; exact Box.new w [.slice op n cp, .slice os n cs, .slice ow n cw] 26
  have bb1 := bnew (Below.refl w.heap.size w) (.cells #[.slice op n cp, .slice os n cs, .slice ow n cw] 26)
  rw [e1] at bb1
  have HC := hide (ncopied_any x op cp os cs ow cw F W1 (hp.below prcR_ok bb1) (hs.below intR_ok bb1) (ht.below tabR' bb1) hr)
  rw [← hn] at HC ⊢
  have HN := hide hn
  have d0 := bx1.cell 0
  have d1 := bx1.cell 1
  have d2 := bx1.cell 2
  simp only [List.getElem?_cons_zero, List.getElem?_cons_succ] at d0 d1 d2
  have HB1 := hide bb1
  clear hp hs ht hr hn bx1 bb1
  go_enter Tryz.func45, Tryz.ntmps45
  go_wp2_with (go_at_call 50; refine HC.out.mono ?_; rintro e w2 ⟨vp, tw, rs, K, H, gs, rfl, h1, h2, h3, h3b, h4, h5, h6, h7, h8, h9⟩; have HK := hide (And.intro h1 (And.intro h2 (And.intro h3 (And.intro h4 (And.intro h5 (And.intro h6 (And.intro h7 (And.intro h8 h9)))))))); have HK2 := hide h3b; obtain ⟨oV, cV, hvp, _, _⟩ := h5.slice prcR_ok; obtain ⟨oT, cT, htw, _⟩ := h7.len; subst hvp htw; clear h1 h2 h3 h3b h4 h5 h6 h7 h8 h9)
  go_ret
  obtain ⟨h1, h2, h3, h4, h5, h6, h7, h8, h9⟩ := HK.out
  have hbn := bnew (Below.refl w2.heap.size w2) (.cells #[.slice oV x.procs.length cV, .slice (some ⟨gs, 0, none⟩) n n, .slice oT rs.length cT] 149)
  have hbx := Box.new w2 [.slice oV x.procs.length cV, .slice (some ⟨gs, 0, none⟩) n n, .slice oT rs.length cT] 149
  rw [HN.out] at hbx hbn ⊢
  refine ⟨W1.heap.size, K, H, w2.heap.size, gs, _, _, rs, rfl, HB1.out.size, ⟨hbx, h5.below prcR_ok hbn, h4, h6.below hbn, h7.below hbn, h8, ⟨h1, h2, h3, ?_⟩⟩, ?_⟩
  · exact HK2.out
  · exact (HB1.out.trans (h9.mono HB1.out.size)).trans (hbn.mono (Nat.le_trans HB1.out.size h9.size))


section
variable {O : Foot} {B0 K H p gs : Nat} {vp tw : Value} {rs : List Rw} {x : Nwk} {W : World}
set_option maxHeartbeats 1000000 in
theorem nnet_any (h : Mach O B0 K H p gs vp tw rs x W) : Calls Tryz.prog 199 #[machV p] W fun e w' => e = .returned (.agg #[vp, .slice (some ⟨gs, 0, none⟩) x.procs.length x.procs.length, tw]) ∧ Below W.heap.size W w' := by
  obtain ⟨oV, cV, hvp, _, _⟩ := h.procs.slice prcR_ok
  obtain ⟨oT, cT, htw, _⟩ := h.tab.len
  subst hvp htw
  have hm := h.main
  obtain ⟨n, hn⟩ : ∃ n, n = x.procs.length := ⟨_, rfl⟩
  obtain ⟨m, hm2⟩ : ∃ m, m = rs.length := ⟨_, rfl⟩
  rw [← hn, ← hm2] at hm ⊢
  have c0 := hm.cell 0
  have c1 := hm.cell 1
  have c2 := hm.cell 2
  have lp := hm.lt
  simp only [List.getElem?_cons_zero, List.getElem?_cons_succ] at c0 c1 c2
  unfold machV
  clear h hn hm2 hm
  go_enter Tryz.func199, Tryz.ntmps199
  go_wp2_with fail
  have hb := Box.new W [.slice oV n cV, .slice (some ⟨gs, 0, none⟩) n n, .slice oT m cT] 26
  refine bodyPost_ret (results_cell_row rfl _ _ W.heap.size 26 _ (0, 0) _ rfl hb Tryz.underlying26 rfl (by kernel_rfl)) rfl ?_
  exact ⟨rfl, bnew (Below.refl _ _) _⟩

def mvR : Rep (Nat × Nat) := fun _ _ cs x => cs = [.int .i64 (x.1 : Nat), .int .i64 (x.2 : Nat)]
theorem mvR_ok : RepOk mvR 2 where
  len := by rintro F w cs x rfl; rfl
  one := by rintro F w cs x rfl u hu; simp at hu; rcases hu with rfl | rfl <;> rfl
  keep := by rintro F w w' cs x h _; exact h
  wide := by rintro F F' w cs x h _; exact h
/-- The letters of one processor that may be read. -/
def rowMv (p : Nat) (l : List Int) (k : Nat) : List (Nat × Nat) := ((List.range k).filter fun a => decide (0 < l.getD a 0)).map fun a => (p, a)
/-- The moves: the letters that wait, in order. -/
def movesS (wt : List (List Int)) : List (Nat × Nat) := (List.range wt.length).flatMap fun p => rowMv p (wt.getD p []) (wt.getD p []).length
def movesUpto (wt : List (List Int)) (i : Nat) : List (Nat × Nat) := (List.range i).flatMap fun p => rowMv p (wt.getD p []) (wt.getD p []).length
theorem rowMv_succ (p : Nat) (l : List Int) (k : Nat) : rowMv p l (k + 1) = rowMv p l k ++ (if 0 < l.getD k 0 then [(p, k)] else []) := by
  unfold rowMv
  rw [List.range_succ, List.filter_append, List.map_append]
  congr 1
  by_cases h : 0 < l.getD k 0
  · rw [if_pos h, List.filter_cons_of_pos (by simpa using h)]
    rfl
  · rw [if_neg h, List.filter_cons_of_neg (by simpa using h)]
    rfl
theorem movesUpto_succ (wt : List (List Int)) (i : Nat) : movesUpto wt (i + 1) = movesUpto wt i ++ rowMv i (wt.getD i []) (wt.getD i []).length := by
  unfold movesUpto
  rw [List.range_succ, List.flatMap_append]
  simp
theorem rowMv_len (p : Nat) (l : List Int) (k : Nat) : (rowMv p l k).length ≤ k := by
  unfold rowMv
  rw [List.length_map]
  exact Nat.le_trans (List.length_filter_le _ _) (by simp)
theorem movesUpto_len {wt : List (List Int)} (h8 : ∀ l ∈ wt, l.length ≤ 8) : ∀ i, (movesUpto wt i).length ≤ 8 * i
  | 0 => by simp [movesUpto]
  | i + 1 => by
    rw [movesUpto_succ, List.length_append]
    have h1 := movesUpto_len h8 i
    have h2 := rowMv_len i (wt.getD i []) (wt.getD i []).length
    have h3 : (wt.getD i []).length ≤ 8 := by
      rw [List.getD_eq_getElem?_getD]
      rcases hx : wt[i]? with _ | l
      · simp
      · exact h8 l (List.mem_of_getElem? hx)
    omega
theorem mvInfoN : (Tryz.prog.info? 80).map (fun i => (i.zero, i.size, i.bytes)) = some (some (.agg #[.int .i64 0, .int .i64 0]), 2, 16) := by kernel_rfl

theorem mv_lit (w : World) (i j : Nat) : SliceR mvR 2 All (w.alloc (.cells #[.int .i64 (i : Nat), .int .i64 (j : Nat)] 80)) (some ⟨w.heap.size, 0, none⟩) [(i, j)] :=
  SliceR.lit (F := All) mvR_ok w 80 [[.int .i64 (i : Nat), .int .i64 (j : Nat)]] [(i, j)] (fun k y hy => by match k, hy with | 0, hy => simp at hy; subst hy; exact ⟨_, rfl, rfl⟩) rfl (fun _ h => h) trivial

set_option maxRecDepth 100000 in
set_option maxHeartbeats 2000000 in
theorem nmoves_any (h : Mach O B0 K H p gs vp tw rs x W) (h12 : x.waiting.length ≤ 12) (h8 : ∀ l ∈ x.waiting, l.length ≤ 8) :
    Calls Tryz.prog 198 #[machV p] W fun e w' => ∃ v, e = .returned v ∧ OwnS mvR 2 W.heap.size 80 Non w' v (movesS x.waiting) ∧ Below W.heap.size W w' := by
  obtain ⟨oV, cV, hvp, _, _⟩ := h.procs.slice prcR_ok
  obtain ⟨oT, cT, htw, _⟩ := h.tab.len
  subst hvp htw
  obtain ⟨n, hn⟩ : ∃ n, n = x.waiting.length := ⟨_, rfl⟩
  have hm := h.main
  have HM := hide h
  have HN := hide hn
  have H8 := hide h8
  rw [h.rlen, ← hn] at hm
  rw [← hn] at h12
  have c2 := hm.cell 2
  simp only [List.getElem?_cons_zero, List.getElem?_cons_succ] at c2
  unfold machV
  clear h hn hm h8
  go_enter Tryz.func198, Tryz.ntmps198
  go_wp2_with fail
  go_loopg [3, 14] n (fun gm v iv wr => ∃ i : Nat, i ≤ n ∧ gm = n - i ∧ iv = .int .i64 i ∧ Hid (OwnS mvR 2 W.heap.size 80 Non wr v (movesUpto x.waiting i)) ∧ Hid (Below W.heap.size W wr))
  case atStart => exact ⟨0, by omega, by omega, rfl, OwnS.nil _ _ _ _ _ _, Below.refl _ _⟩
  case round =>
    obtain ⟨i, hi, hgm, rfl, HO, HB⟩ := hrel
    have HGM := hide hgm
    clear hgm
    by_cases hlt : i < n
    · obtain ⟨l, hl⟩ : ∃ l, x.waiting[i]? = some l := ⟨_, List.getElem?_eq_getElem (by have := HN.out; omega)⟩
      obtain ⟨r, hr, hrl⟩ := HM.out.row hl
      obtain ⟨g, cap, htw, _, _, hcell, hrow, _, _, _⟩ := (HM.out.below HB.out).tab.get hr
      injection htw with e1 e2 e3
      subst e1 e3
      clear e2
      rw [hrl] at hcell hrow
      unfold slV at hcell
      have HLG : Hid (x.waiting.getD i [] = l) := by show _ = _; rw [List.getD_eq_getElem?_getD, hl]; rfl
      have hl8 := H8.out l (List.mem_of_getElem? hl)
      have HRW := hide hrow
      obtain ⟨ll, hll⟩ : ∃ n, n = l.length := ⟨_, rfl⟩
      rw [← hll] at hcell hl8
      have HLL := hide hll
      clear hl hr hrl hrow hll
      go_wp2_with fail
      go_loopg [3, 21] ll (fun gm2 v jv wx => ∃ j : Nat, j ≤ ll ∧ gm2 = ll - j ∧ jv = .int .i64 j ∧ Hid (OwnS mvR 2 W.heap.size 80 Non wx v (movesUpto x.waiting i ++ rowMv i l j)) ∧ Hid (Below W.heap.size W wx) ∧ Hid (Row1 (Value.int .i64) wx r.g 3 l r.rest))
      case atStart => exact ⟨0, by omega, by omega, rfl, by show OwnS _ _ _ _ _ _ _ _; simpa [rowMv] using HO.out, HB, HRW⟩
      case round =>
        obtain ⟨j, hj, hgm2, rfl, HOj, HBj, HRj⟩ := hrel
        have HGM2 := hide hgm2
        clear hgm2
        by_cases hlj : j < ll
        · have hjl : j < l.length := by have := HLL.out; omega
          have c3 := HRj.out.cell (List.getElem?_eq_getElem hjl)
          have HG : Hid (l.getD j 0 = l[j]) := by show _ = _; rw [List.getD_eq_getElem?_getD, List.getElem?_eq_getElem hjl]; rfl
          generalize l[j] = xj at c3 HG
          by_cases hx : 0 < xj
          · have HS : Hid (rowMv i l (j + 1) = rowMv i l j ++ [(i, j)]) := by show _ = _; rw [rowMv_succ, HG.out, if_pos hx]
            have hbd : (movesUpto x.waiting i ++ rowMv i l j).length ≤ 1000 := by
              rw [List.length_append]
              have h1 := movesUpto_len H8.out i
              have h2 := rowMv_len i l j
              omega
            have HBD := hide hbd
            have hW := HBj.out.size
            clear hbd
            go_wp2_with (at_builtin; refine wpList_append_rep rfl (.tmp 28) (.tmp 32) 76 rfl W.heap.size 80 _ 2 16 Tryz.underlying76 mvInfoN rfl (by decide) mvR_ok Non All _ (movesUpto x.waiting i ++ rowMv i l j) (by simp [Act.eval, Act.put]) (HOj.out.new mvR_ok _) (some ⟨wr.heap.size, 0, none⟩) 1 [(i, j)] (by simp [Act.eval, Act.put]) (mv_lit wr i j) (fun _ _ h => h) (fun _ h => h.elim) (by simp only [List.length_cons, List.length_nil]; have := HBD.out; omega) (by simp only [List.length_cons, List.length_nil]; have := HBD.out; omega) (by rw [alloc_size']; omega) (fun v' w8 ho hb8 hg8 => ?_); have HO8 := hide ho; have HB8 : Hid (Below W.heap.size W w8) := (HBj.out.alloc hW _).trans hb8; have HR8 : Hid (Row1 (Value.int .i64) w8 r.g 3 l r.rest) := (HRj.out.new _).keep (hg8.block _ (by rw [alloc_size']; have := HRj.out.lt; omega) (fun e => by obtain ⟨cur, hcur⟩ := own_heap HOj.out e.symm; exact ne_type HRj.out hcur (by decide) rfl)); clear ho hb8 hg8)
            go_roundg (ll - (j + 1))
            case rel => exact ⟨j + 1, by omega, rfl, by go_num, by show OwnS _ _ _ _ _ _ _ _; rw [HS.out, ← List.append_assoc]; exact HO8.out, HB8, HR8⟩
            case measure => have := HGM2.out; omega
          · have HS : Hid (rowMv i l (j + 1) = rowMv i l j) := by show _ = _; rw [rowMv_succ, HG.out, if_neg hx, List.append_nil]
            go_wp2_with fail
            go_roundg (ll - (j + 1))
            case rel => exact ⟨j + 1, by omega, rfl, by go_num, by show OwnS _ _ _ _ _ _ _ _; rw [HS.out]; exact HOj.out, HBj, HRj⟩
            case measure => have := HGM2.out; omega
        · have hje : j = ll := by omega
          subst hje
          have HOE : Hid (OwnS mvR 2 W.heap.size 80 Non wr u3 (movesUpto x.waiting (i + 1))) := by
            show OwnS _ _ _ _ _ _ _ _
            rw [movesUpto_succ, HLG.out, ← HLL.out]
            exact HOj.out
          go_wp2_with fail
          go_roundg (n - (i + 1))
          case rel => exact ⟨i + 1, by omega, rfl, by go_num, HOE, HBj⟩
          case measure => have := HGM.out; omega
    · have hie : i = n := by omega
      subst hie
      go_wp2_with fail
      go_ret
      exact ⟨_, rfl, by unfold movesS; rw [← HN.out]; exact HO.out, HB.out⟩
end

end Go.Proofs.YtnigfddanoaonaaGreat

set_option linter.unusedVariables false
set_option linter.unusedSimpArgs false
set_option linter.unnecessarySimpa false
namespace Go.Proofs.YtnigfddanoaonaaGreat
open Go.RowKit

set_option maxRecDepth 100000 in
set_option maxHeartbeats 4000000 in
theorem netCheck_any (procs : List Prc) (op : Option Addr) (cp : Nat) (st : List Int) (os : Option Addr) (cs : Nat) (wt : List (List Int)) (ow : Option Addr) (cw : Nat) (F : Foot) (w : World)
    (hp : SliceR prcR 3 F w op procs) (hp2 : procs.length ≤ 9223372036854775807) (hs : SliceR intR 1 F w os st) (hs2 : st.length ≤ 9223372036854775807) (ht : SliceR (slcR intR 1) 1 F w ow wt) (ht2 : wt.length ≤ 9223372036854775807) :
    Calls Tryz.prog 43 #[.agg #[.slice op procs.length cp, .slice os st.length cs, .slice ow wt.length cw]] w fun e w' => e = .returned (.int .i64 (netErr ⟨procs, st, wt⟩)) ∧ Below w.heap.size w w' := by
  have HP := hide hp
  have HS := hide hs
  have HT := hide ht
  clear hp hs ht
  obtain ⟨W1, e1⟩ : ∃ W1, w.alloc (.cells #[.slice op procs.length cp, .slice os st.length cs, .slice ow wt.length cw] 26) = W1 := ⟨_, rfl⟩
  have bx1 : Box W1 w.heap.size [.slice op procs.length cp, .slice os st.length cs, .slice ow wt.length cw] 26 := by rw [← e1]; exact Box.new w [.slice op procs.length cp, .slice os st.length cs, .slice ow wt.length cw] 26
  have bb1 := bnew (Below.refl w.heap.size w) (.cells #[.slice op procs.length cp, .slice os st.length cs, .slice ow wt.length cw] 26)
  rw [e1] at bb1
  have c0 := bx1.cell 0
  simp only [List.getElem?_cons_zero, List.getElem?_cons_succ] at c0
  have HB := hide bb1
  have HX := hide bx1
  clear bx1 bb1
  obtain ⟨n, hn⟩ : ∃ n, n = procs.length := ⟨_, rfl⟩
  have HN := hide hn
  by_cases hr : procs.length < 1 ∨ 12 < procs.length
  · have HR : Hid (netErr ⟨procs, st, wt⟩ = 2) := by show _ = _; unfold netErr; exact if_pos hr
    rw [← hn] at c0 hp2 hr e1 ⊢
    clear hn
    by_cases h1 : n < 1
    · have hr1 : (n : Int) < 1 := by omega
      clear hr
      go_enter Tryz.func43, Tryz.ntmps43
      go_wp2_with fail
      go_ret
      exact ⟨ret_int (by rw [HR.out]), HB.out⟩
    · have hr1 : ¬ (n : Int) < 1 := by omega
      have hr2 : (12 : Int) < n := by omega
      clear hr
      go_enter Tryz.func43, Tryz.ntmps43
      go_wp2_with fail
      go_ret
      exact ⟨ret_int (by rw [HR.out]), HB.out⟩
  have hr1 : ¬ (n : Int) < 1 := by omega
  have hr2 : ¬ (12 : Int) < n := by omega
  have HR : Hid (netErr ⟨procs, st, wt⟩ = if procsErr procs.length procs = 0 then
    if procsOk procs procs = true then
      if st.length = procs.length then
        if statesErr st procs = 0 then waitsErr ⟨procs, st, wt⟩ else statesErr st procs
      else 8
    else 6
  else procsErr procs.length procs) := by show _ = _; unfold netErr; exact if_neg hr
  rw [← hn] at c0 hp2 hr e1 HX ⊢
  clear hn hr
  go_enter Tryz.func43, Tryz.ntmps43
  go_wp2_with fail
  go_loopw [28] (fun iv wr => ∃ i : Nat, i ≤ n ∧ iv = .int .i64 i ∧ Hid (procsErr procs.length procs = procsErr procs.length (procs.drop i)) ∧ Hid (Below W1.heap.size W1 wr)) (fun iv _ => n - (intOf iv).toNat)
  case atStart => exact ⟨0, by omega, rfl, rfl, Below.refl _ _⟩
  case round =>
    obtain ⟨i, hi, rfl, HE, HBi⟩ := hrel
    by_cases hlt : i < n
    · obtain ⟨S5, Le5, rs5, b7, off7, oa7, c7, hd7, _, rfl, _, y0, y1, y2, _, il5, hrc, hrc2, hrs⟩ := ((HP.out.below prcR_ok HB.out).below prcR_ok HBi.out).prc_at (i := i) (by have := HN.out; omega)
      have HD : Hid (procsErr procs.length (procs.drop i) = if checkErr ⟨S5, Le5, rs5⟩ n = 0 then procsErr procs.length (procs.drop (i + 1)) else checkErr ⟨S5, Le5, rs5⟩ n) := by show _ = _; rw [hd7, HN.out]; rfl
      obtain ⟨W4, e4⟩ : ∃ W4, wr.alloc (.cells #[.int .i64 S5, .int .i64 Le5, .slice oa7 rs5.length c7] 89) = W4 := ⟨_, rfl⟩
      have bx4 : Box W4 wr.heap.size [.int .i64 S5, .int .i64 Le5, .slice oa7 rs5.length c7] 89 := by rw [← e4]; exact Box.new wr [.int .i64 S5, .int .i64 Le5, .slice oa7 rs5.length c7] 89
      have bb4 := bnew (Below.refl wr.heap.size wr) (.cells #[.int .i64 S5, .int .i64 Le5, .slice oa7 rs5.length c7] 89)
      rw [e4] at bb4
      have x0 := bx4.cell 0
      have x1 := bx4.cell 1
      have x2 := bx4.cell 2
      simp only [List.getElem?_cons_zero, List.getElem?_cons_succ] at x0 x1 x2
      have HC := hide (check_any S5 Le5 n rs5 oa7 c7 _ W4 (hrs.below rowR_ok bb4) hrc hrc2)
      have HB4 := hide (HBi.out.trans (bb4.mono HBi.out.size))
      clear hd7 hrs bx4 bb4 hrc hrc2
      by_cases hz : checkErr ⟨S5, Le5, rs5⟩ n = 0
      · have q1 := is_err hz
        have HZ := hide hz
        clear hz
        go_wp2_with (go_at_call 89; refine HC.out.mono ?_; rintro e w5 ⟨rfl, h5⟩; have HB5 := hide (HB4.out.trans (h5.mono HB4.out.size)); clear h5)
        go_roundw
        case rel => exact ⟨i + 1, by omega, by go_num, by show _ = _; rw [HE.out, HD.out, if_pos HZ.out], HB5⟩
        case measure => simp [intOf]; omega
      · have q1 := not_err hz
        have HRR : Hid (netErr ⟨procs, st, wt⟩ = checkErr ⟨S5, Le5, rs5⟩ n) := by
          show _ = _
          rw [HR.out, HE.out, HD.out, if_neg hz, if_neg hz]
        clear hz
        go_wp2_with (go_at_call 89; refine HC.out.mono ?_; rintro e w5 ⟨rfl, h5⟩; have HB5 := hide (HB4.out.trans (h5.mono HB4.out.size)); clear h5)
        go_ret
        exact ⟨ret_int (by rw [HRR.out]), HB.out.trans (HB5.out.mono HB.out.size)⟩
    · have HPE : Hid (procsErr procs.length procs = 0) := by show _ = _; rw [HE.out, List.drop_eq_nil_of_le (by have := HN.out; omega)]; rfl
      have HVA : Hid (∀ (j : Nat) (p : Prc), procs[j]? = some p → checkErr p procs.length = 0) := fun j p hp => procsErr_zero HPE.out p (List.mem_of_getElem? hp)
      have x0 := (HX.out.below HBi.out).cell 0
      simp only [List.getElem?_cons_zero, List.getElem?_cons_succ] at x0
      go_wp2_with fail
      go_loopw [42] (fun iv wr => ∃ i : Nat, i ≤ n ∧ iv = .int .i64 i ∧ Hid (procsOk procs procs = procsOk procs (procs.drop i)) ∧ Hid (Below W1.heap.size W1 wr)) (fun iv _ => n - (intOf iv).toNat)
      case atStart => exact ⟨0, by omega, rfl, rfl, HBi⟩
      case round =>
        obtain ⟨i2, hi2, rfl, HE2, HB2⟩ := hrel
        by_cases hlt2 : i2 < n
        · obtain ⟨S5, Le5, rs5, b7, off7, oa7, c7, hd7, hpr, rfl, _, y0, y1, y2, _, il5, hrc, hrc2, hrs⟩ := ((HP.out.below prcR_ok HB.out).below prcR_ok HB2.out).prc_at (i := i2) (by have := HN.out; omega)
          have hv := HVA.out _ _ hpr
          have HD : Hid (procsOk procs (procs.drop i2) = if rowsOk procs rs5 = true then procsOk procs (procs.drop (i2 + 1)) else false) := by show _ = _; rw [hd7]; rfl
          obtain ⟨W4, e4⟩ : ∃ W4, wr.alloc (.cells #[.int .i64 S5, .int .i64 Le5, .slice oa7 rs5.length c7] 89) = W4 := ⟨_, rfl⟩
          have bx4 : Box W4 wr.heap.size [.int .i64 S5, .int .i64 Le5, .slice oa7 rs5.length c7] 89 := by rw [← e4]; exact Box.new wr [.int .i64 S5, .int .i64 Le5, .slice oa7 rs5.length c7] 89
          have bb4 := bnew (Below.refl wr.heap.size wr) (.cells #[.int .i64 S5, .int .i64 Le5, .slice oa7 rs5.length c7] 89)
          rw [e4] at bb4
          have x0 := bx4.cell 0
          have x1 := bx4.cell 1
          have x2 := bx4.cell 2
          have hB4 := HB2.out.trans (bb4.mono HB2.out.size)
          have z0 := (HX.out.below hB4).cell 0
          have z1 := (HX.out.below hB4).cell 1
          have z2 := (HX.out.below hB4).cell 2
          simp only [List.getElem?_cons_zero, List.getElem?_cons_succ] at x0 x1 x2 z0 z1 z2
          have hcall := understood_any procs (some ⟨b7, off7, none⟩) cp os st.length cs ow wt.length cw S5 Le5 rs5 oa7 c7 _ _ W4 ((HP.out.below prcR_ok HB.out).below prcR_ok hB4) (by have := HN.out; omega) (hrs.below rowR_ok bb4) hrc hrc2 hv
          rw [← HN.out] at hcall
          have HC := hide hcall
          have HB4 := hide hB4
          clear hd7 hrs bx4 bb4 hrc hrc2 hv hpr hcall hB4
          obtain ⟨bo, hbo⟩ : ∃ bo, bo = rowsOk procs rs5 := ⟨_, rfl⟩
          rw [← hbo] at HC HD
          clear hbo
          cases bo
          · have HRR : Hid (netErr ⟨procs, st, wt⟩ = 6) := by
              show _ = _
              rw [HR.out, if_pos HPE.out, HE2.out, HD.out]
              rfl
            go_wp2_with (go_at_call 90; refine HC.out.mono ?_; rintro e w5 ⟨rfl, h5⟩; have HB5 := hide (HB4.out.trans (h5.mono HB4.out.size)); clear h5)
            go_ret
            exact ⟨ret_int (by rw [HRR.out]), HB.out.trans (HB5.out.mono HB.out.size)⟩
          · go_wp2_with (go_at_call 90; refine HC.out.mono ?_; rintro e w5 ⟨rfl, h5⟩; have HB5 := hide (HB4.out.trans (h5.mono HB4.out.size)); clear h5)
            go_roundw
            case rel => exact ⟨i2 + 1, by omega, by go_num, by show _ = _; rw [HE2.out, HD.out]; rfl, HB5⟩
            case measure => simp [intOf]; omega
        · have HPO : Hid (procsOk procs procs = true) := by show _ = _; rw [HE2.out, List.drop_eq_nil_of_le (by have := HN.out; omega)]; rfl
          have z0 := (HX.out.below HB2.out).cell 0
          have z1 := (HX.out.below HB2.out).cell 1
          have z2 := (HX.out.below HB2.out).cell 2
          simp only [List.getElem?_cons_zero, List.getElem?_cons_succ] at z0 z1 z2
          clear x0
          by_cases hsl : st.length = n
          case neg =>
            have q0 : (((st.length : Nat) : Int) != ((n : Nat) : Int)) = true := by simp; omega
            have HRR : Hid (netErr ⟨procs, st, wt⟩ = 8) := by
              show _ = _
              rw [HR.out, if_pos HPE.out, if_pos HPO.out, if_neg (by rw [← HN.out]; exact hsl)]
            clear hsl
            go_wp2_with fail
            go_ret
            exact ⟨ret_int (by rw [HRR.out]), HB.out.trans (HB2.out.mono HB.out.size)⟩
          have q0 : (((st.length : Nat) : Int) != ((n : Nat) : Int)) = false := by simp; omega
          have HRR : Hid (netErr ⟨procs, st, wt⟩ = if statesErr st procs = 0 then waitsErr ⟨procs, st, wt⟩ else statesErr st procs) := by
            show _ = _
            rw [HR.out, if_pos HPE.out, if_pos HPO.out, if_pos (by rw [← HN.out]; exact hsl)]
          have HSL := hide hsl
          clear hsl HR HE HBi HE2
          have hstl : st.length ≤ 12 := by have := HSL.out; omega
          go_wp2_with fail
          go_loopw [59] (fun iv wr2 => wr2 = wr ∧ ∃ i : Nat, i ≤ st.length ∧ iv = .int .i64 i ∧ Hid (statesErr st procs = statesErr (st.drop i) (procs.drop i))) (fun iv _ => st.length - (intOf iv).toNat)
          case atStart => exact ⟨by first | rfl | trivial, 0, by omega, rfl, rfl⟩
          case round =>
            obtain ⟨rfl, i3, hi3, rfl, HE3⟩ := hrel
            by_cases hlt3 : i3 < st.length
            · obtain ⟨sv, hds, _, isv, b8, off8, rfl, _, s0⟩ := ((HS.out.below intR_ok HB.out).below intR_ok HB2.out).int_at hlt3
              obtain ⟨S5, Le5, rs5, b7, off7, oa7, c7, hd7, _, rfl, _, y0, _, _, iS5, _, _, _, _⟩ := ((HP.out.below prcR_ok HB.out).below prcR_ok HB2.out).prc_at (i := i3) (by have := HN.out; have := HSL.out; omega)
              have HD : Hid (statesErr (st.drop i3) (procs.drop i3) = if belowB sv S5 then statesErr (st.drop (i3 + 1)) (procs.drop (i3 + 1)) else 2) := by show _ = _; rw [hds, hd7]; rfl
              have hin : i3 < n := by have := HSL.out; omega
              clear hds hd7
              by_cases hneg : sv < 0
              · have HRE : Hid (netErr ⟨procs, st, wt⟩ = 2) := by
                  show _ = _
                  have hb : belowB sv S5 = false := by unfold belowB; simp; omega
                  rw [HRR.out, HE3.out, HD.out, hb]
                  rfl
                go_wp2_with fail
                go_ret
                exact ⟨ret_int (by rw [HRE.out]), HB.out.trans (HB2.out.mono HB.out.size)⟩
              · by_cases hge : S5 ≤ sv
                · have HRE : Hid (netErr ⟨procs, st, wt⟩ = 2) := by
                    show _ = _
                    have hb : belowB sv S5 = false := by unfold belowB; simp; omega
                    rw [HRR.out, HE3.out, HD.out, hb]
                    rfl
                  go_wp2_with fail
                  go_ret
                  exact ⟨ret_int (by rw [HRE.out]), HB.out.trans (HB2.out.mono HB.out.size)⟩
                · have HD2 : Hid (statesErr (st.drop i3) (procs.drop i3) = statesErr (st.drop (i3 + 1)) (procs.drop (i3 + 1))) := by
                    show _ = _
                    have hb : belowB sv S5 = true := by unfold belowB; simp; omega
                    rw [HD.out, hb]
                    rfl
                  go_wp2_with fail
                  go_roundw
                  case rel => exact ⟨by first | rfl | trivial, i3 + 1, by omega, by go_num, by show _ = _; rw [HE3.out, HD2.out]⟩
                  case measure => simp [intOf]; omega
            · have HSE : Hid (statesErr st procs = 0) := by show _ = _; rw [HE3.out, List.drop_eq_nil_of_le (show st.length ≤ i3 by omega)]; rfl
              have HRW : Hid (netErr ⟨procs, st, wt⟩ = if shapedErr procs wt = 0 then tableErr wt else shapedErr procs wt) := by
                show _ = _
                rw [HRR.out, if_pos HSE.out]
                rfl
              have hcall := shaped_any procs op cp os st.length cs ow wt.length cw wt ow cw _ _ wr ((HP.out.below prcR_ok HB.out).below prcR_ok HB2.out) (by have := HN.out; omega) ((HT.out.below (slcR_ok intR_ok (by decide)) HB.out).below (slcR_ok intR_ok (by decide)) HB2.out) ht2
              rw [← HN.out] at hcall
              have HC := hide hcall
              clear hcall HRR
              by_cases hz : shapedErr procs wt = 0
              case neg =>
                have q1 := not_err hz
                have HRE : Hid (netErr ⟨procs, st, wt⟩ = shapedErr procs wt) := by show _ = _; rw [HRW.out, if_neg hz]
                clear hz
                go_wp2_with (go_at_call 91; refine HC.out.mono ?_; rintro e w5 ⟨rfl, h5⟩; have HB5 := hide (HB2.out.trans (h5.mono HB2.out.size)); clear h5)
                go_ret
                exact ⟨ret_int (by rw [HRE.out]), HB.out.trans (HB5.out.mono HB.out.size)⟩
              have q1 := is_err hz
              have HRE : Hid (netErr ⟨procs, st, wt⟩ = tableErr wt) := by show _ = _; rw [HRW.out, if_pos hz]
              clear hz
              go_wp2_with (go_at_call 91; refine HC.out.mono ?_; rintro e w5 ⟨rfl, h5⟩; have HB5 := hide (HB2.out.trans (h5.mono HB2.out.size)); clear h5; have z2 := (HX.out.below HB5.out).cell 2; simp only [List.getElem?_cons_zero, List.getElem?_cons_succ] at z2)
              have hT5 := ((HT.out.below (slcR_ok intR_ok (by decide)) HB.out).below (slcR_ok intR_ok (by decide)) HB5.out)
              have HT5 := hide hT5
              clear hT5 z0 z1
              go_loopw [87] (fun iv wr2 => wr2 = w5 ∧ ∃ i : Nat, i ≤ wt.length ∧ iv = .int .i64 i ∧ Hid (tableErr wt = tableErr (wt.drop i))) (fun iv _ => wt.length - (intOf iv).toNat)
              case atStart => exact ⟨by first | rfl | trivial, 0, by omega, rfl, rfl⟩
              case round =>
                obtain ⟨rfl, i4, hi4, rfl, HE4⟩ := hrel
                by_cases hlt4 : i4 < wt.length
                · obtain ⟨l, hd, _, b9, off9, oa9, c9, rfl, _, y9, hcl, hcl2, hsl9⟩ := HT5.out.slc_at hlt4
                  have HD : Hid (tableErr (wt.drop i4) = if numsErr l = 0 then tableErr (wt.drop (i4 + 1)) else numsErr l) := by show _ = _; rw [hd]; rfl
                  have HS9 := hide hsl9
                  clear hd hsl9
                  go_wp2_with fail
                  go_loopw [93] (fun iv wr2 => wr2 = wr ∧ ∃ i : Nat, i ≤ l.length ∧ iv = .int .i64 i ∧ Hid (numsErr l = numsErr (l.drop i))) (fun iv _ => l.length - (intOf iv).toNat)
                  case atStart => exact ⟨by first | rfl | trivial, 0, by omega, rfl, rfl⟩
                  case round =>
                    obtain ⟨rfl, i5, hi5, rfl, HE5⟩ := hrel
                    by_cases hlt5 : i5 < l.length
                    · obtain ⟨sv, hds, _, isv, b8, off8, rfl, _, s0⟩ := HS9.out.int_at hlt5
                      have HD5 : Hid (numsErr (l.drop i5) = if 0 ≤ sv ∧ sv ≤ 1048576 then numsErr (l.drop (i5 + 1)) else 2) := by show _ = _; rw [hds]; rfl
                      clear hds
                      by_cases hok : 0 ≤ sv ∧ sv ≤ 1048576
                      · obtain ⟨k1, k2⟩ := hok
                        have k3 : ¬ sv < 0 := by omega
                        have k4 : ¬ 1048576 < sv := by omega
                        have HD6 : Hid (numsErr (l.drop i5) = numsErr (l.drop (i5 + 1))) := by show _ = _; rw [HD5.out, if_pos ⟨k1, k2⟩]
                        go_wp2_with fail
                        go_roundw
                        case rel => exact ⟨by first | rfl | trivial, i5 + 1, by omega, by go_num, by show _ = _; rw [HE5.out, HD6.out]⟩
                        case measure => simp [intOf]; omega
                      · have hz : numsErr l = 2 := by rw [HE5.out, HD5.out, if_neg hok]
                        have HZ : Hid (netErr ⟨procs, st, wt⟩ = 2) := by
                          show _ = _
                          rw [HRE.out, HE4.out, HD.out, hz]
                          rfl
                        clear hz
                        by_cases k1 : sv < 0
                        · clear hok
                          go_wp2_with fail
                          go_ret
                          exact ⟨ret_int (by rw [HZ.out]), HB.out.trans (HB5.out.mono HB.out.size)⟩
                        · have k2 : 1048576 < sv := by omega
                          clear hok
                          go_wp2_with fail
                          go_ret
                          exact ⟨ret_int (by rw [HZ.out]), HB.out.trans (HB5.out.mono HB.out.size)⟩
                    · have HZ : Hid (numsErr l = 0) := by show _ = _; rw [HE5.out, List.drop_eq_nil_of_le (by omega)]; rfl
                      go_wp2_with fail
                      go_roundw
                      case rel => exact ⟨by first | rfl | trivial, i4 + 1, by omega, by go_num, by show _ = _; rw [HE4.out, HD.out, if_pos HZ.out]⟩
                      case measure => simp [intOf]; omega
                · go_wp2_with fail
                  go_ret
                  exact ⟨ret_int (by rw [HRE.out, HE4.out, List.drop_eq_nil_of_le (by omega)]; rfl), HB.out.trans (HB5.out.mono HB.out.size)⟩

end Go.Proofs.YtnigfddanoaonaaGreat

set_option linter.unusedVariables false
namespace Go.Proofs.YtnigfddanoaonaaGreat
open Go.RowKit

theorem set_mid (U V : List Out) (x y : Out) : (U ++ x :: V).set U.length y = U ++ y :: V := by
  rw [List.set_append_right _ _ (Nat.le_refl _)]
  simp
theorem get_mid (U V : List Out) (x : Out) : (U ++ x :: V)[U.length]? = some x := by
  rw [List.getElem?_append_right (Nat.le_refl _)]
  simp

theorem RowO.draw {w : World} {g : Nat} {d : List Out} {rest : List Value} (h : RowO w g d rest) : RowO w.drew g d rest := h

set_option maxRecDepth 100000 in
set_option maxHeartbeats 4000000 in
theorem swapRange_any (X A M B Y : List Out) (rest : List Value) (g kb n a b m c : Nat) (w : World) (hr : RowO w g (X ++ (A ++ (M ++ (B ++ Y)))) rest) (hn : Hid (n = (X ++ (A ++ (M ++ (B ++ Y)))).length)) (ha : Hid (a = X.length)) (hb : Hid (b = X.length + A.length + M.length)) (hmA : Hid (m = A.length)) (hmB : Hid (m = B.length)) (hlen : n ≤ 1000000000000000) :
    Calls Tryz.prog 181 #[.slice (some ⟨g, 0, none⟩) n c, .int .i64 a, .int .i64 b, .int .i64 m, .func (.func 170) #[] #[.pointer (some ⟨kb, 0, none⟩)]] w fun e w' =>
      e = .returned (.tuple #[]) ∧ RowO w' g (X ++ (B ++ (M ++ (A ++ Y)))) rest ∧ w.grownBy w' (some g) := by
  have hbd : a + m ≤ b ∧ b + m ≤ n := by
    have h1 := hn.out; have h2 := ha.out; have h3 := hb.out; have h4 := hmA.out; have h5 := hmB.out
    simp at h1; omega
  have hb1 := hbd.1
  have hb2 := hbd.2
  clear hbd
  go_enter Tryz.func181, Tryz.ntmps181
  go_wp2_with fail
  go_loopw [10] (fun i wr => ∃ (k : Nat) (A1 A2 B1 B2 : List Out), i = .int .i64 k ∧ k ≤ m ∧ Hid (A = A1 ++ A2) ∧ Hid (B = B1 ++ B2) ∧ Hid (k = A1.length) ∧ Hid (k = B1.length) ∧
    RowO wr g (X ++ (B1 ++ (A2 ++ (M ++ (A1 ++ (B2 ++ Y)))))) rest ∧ w.grownBy wr (some g)) (fun i _ => m - (intOf i).toNat)
  case atStart => exact ⟨0, [], A, [], B, rfl, by omega, rfl, rfl, rfl, rfl, by simpa using hr, grown_refl _ _⟩
  case round =>
    obtain ⟨k, A1, A2, B1, B2, rfl, hkm, HA, HB, HK, HK', hrr, hgr⟩ := hrel
    by_cases hlt : k < m
    · have hA2 : A2 ≠ [] := by intro h; have h1 := HA.out; have h2 := hmA.out; have h3 := HK.out; subst h; subst h1; simp at h2; omega
      have hB2 : B2 ≠ [] := by intro h; have h1 := HB.out; have h2 := hmB.out; have h3 := HK'.out; subst h; subst h1; simp at h2; omega
      obtain ⟨⟨xt, xl⟩, A3, rfl⟩ := List.exists_cons_of_ne_nil hA2
      obtain ⟨⟨yt, yl⟩, B3, rfl⟩ := List.exists_cons_of_ne_nil hB2
      clear hA2 hB2
      have HP : Hid (a + k = (X ++ B1).length) := by have h1 := ha.out; have h2 := HK'.out; show _ = _; simp; omega
      have HQ : Hid (b + k = (X ++ (B1 ++ ⟨xt, xl⟩ :: (A3 ++ (M ++ A1)))).length) := by
        have h1 := hb.out; have h2 := HK'.out; have h3 := HA.out; have h4 := HK.out; show _ = _; subst h3; simp at h1 ⊢; omega
      have HQ' : Hid (b + k = (X ++ (B1 ++ ⟨yt, yl⟩ :: (A3 ++ (M ++ A1)))).length) := by have h := HQ.out; show _ = _; simp at h ⊢; omega
      have e1 : X ++ (B1 ++ (⟨xt, xl⟩ :: A3 ++ (M ++ (A1 ++ (⟨yt, yl⟩ :: B3 ++ Y))))) = (X ++ B1) ++ ⟨xt, xl⟩ :: (A3 ++ (M ++ (A1 ++ ⟨yt, yl⟩ :: (B3 ++ Y)))) := by simp
      have e2 : X ++ (B1 ++ (⟨xt, xl⟩ :: A3 ++ (M ++ (A1 ++ (⟨yt, yl⟩ :: B3 ++ Y))))) = (X ++ (B1 ++ ⟨xt, xl⟩ :: (A3 ++ (M ++ A1)))) ++ ⟨yt, yl⟩ :: (B3 ++ Y) := by simp
      have hxd : (X ++ (B1 ++ (⟨xt, xl⟩ :: A3 ++ (M ++ (A1 ++ (⟨yt, yl⟩ :: B3 ++ Y))))))[a + k]? = some ⟨xt, xl⟩ := by rw [e1, HP.out]; exact get_mid _ _ _
      have hyd : (X ++ (B1 ++ (⟨xt, xl⟩ :: A3 ++ (M ++ (A1 ++ (⟨yt, yl⟩ :: B3 ++ Y))))))[b + k]? = some ⟨yt, yl⟩ := by rw [e2, HQ.out]; exact get_mid _ _ _
      obtain ⟨cx0, cx1⟩ := hrr.cells hxd
      obtain ⟨cy0, cy1⟩ := hrr.cells hyd
      have f0 := hrr.free ((a + k) * 2)
      have f1 := hrr.free ((a + k) * 2 + 1)
      have f2 := hrr.free ((b + k) * 2)
      have f3 := hrr.free ((b + k) * 2 + 1)
      have hlx : a + k < (X ++ (B1 ++ (⟨xt, xl⟩ :: A3 ++ (M ++ (A1 ++ (⟨yt, yl⟩ :: B3 ++ Y)))))).length := (List.getElem?_eq_some_iff.1 hxd).1
      have hly : b + k < ((X ++ (B1 ++ (⟨xt, xl⟩ :: A3 ++ (M ++ (A1 ++ (⟨yt, yl⟩ :: B3 ++ Y)))))).set (a + k) ⟨yt, yl⟩).length := by rw [List.length_set]; exact (List.getElem?_eq_some_iff.1 hyd).1
      have hput := RowO.put (RowO.put hrr hlx yt yl) hly xt xl
      have hgrn := grown_drew (grown_set (grown_set (grown_set (grown_set hgr ((a + k) * 2) (.int .i64 yt)) ((a + k) * 2 + 1) (.int .i64 yl)) ((b + k) * 2) (.int .i64 xt)) ((b + k) * 2 + 1) (.int .i64 xl))
      have hsw : ((X ++ (B1 ++ (⟨xt, xl⟩ :: A3 ++ (M ++ (A1 ++ (⟨yt, yl⟩ :: B3 ++ Y)))))).set (a + k) ⟨yt, yl⟩).set (b + k) ⟨xt, xl⟩ = X ++ ((B1 ++ [⟨yt, yl⟩]) ++ (A3 ++ (M ++ ((A1 ++ [⟨xt, xl⟩]) ++ (B3 ++ Y))))) := by
        rw [e1, HP.out, set_mid]
        rw [show (X ++ B1) ++ ⟨yt, yl⟩ :: (A3 ++ (M ++ (A1 ++ ⟨yt, yl⟩ :: (B3 ++ Y)))) = (X ++ (B1 ++ ⟨yt, yl⟩ :: (A3 ++ (M ++ A1)))) ++ ⟨yt, yl⟩ :: (B3 ++ Y) from by simp, HQ'.out, set_mid]
        simp
      rw [hsw] at hput
      have HPUT := hide (RowO.draw hput)
      have HGRN := hide hgrn
      have h1 : a + k < n := by omega
      have h2 : b + k < n := by omega
      have h3 : a + k < b + k := by omega
      clear hxd hyd hlx hly hput hgrn hsw e1 e2 hrr hgr
      go_wp2_with fail
      go_region
      go_wp2_with fail
      go_roundw
      case rel =>
        refine ⟨k + 1, A1 ++ [⟨xt, xl⟩], A3, B1 ++ [⟨yt, yl⟩], B3, by go_num, by omega, ?_, ?_, ?_, ?_, HPUT.out, HGRN.out⟩
        · have h := HA.out; show _ = _; simpa using h
        · have h := HB.out; show _ = _; simpa using h
        · have h := HK.out; show _ = _; simp; omega
        · have h := HK'.out; show _ = _; simp; omega
      case measure => simp [intOf]; omega
    · go_wp2_with fail
      go_end0
      refine ⟨rfl, ?_, hgr⟩
      have hA2 : A2 = [] := by
        have h1 := HA.out; have h2 := hmA.out; have h3 := HK.out
        apply List.eq_nil_of_length_eq_zero; rw [h1] at h2; simp at h2; omega
      have hB2 : B2 = [] := by
        have h1 := HB.out; have h2 := hmB.out; have h3 := HK'.out
        apply List.eq_nil_of_length_eq_zero; rw [h1] at h2; simp at h2; omega
      have h1 := HA.out
      have h2 := HB.out
      subst hA2 hB2
      rw [List.append_nil] at h1 h2
      subst h1 h2
      simpa using hrr

theorem swapRange_int (X A M B Y : List Out) (rest : List Value) (g kb n c : Nat) (P Q N : Int) (w : World) (hr : RowO w g (X ++ (A ++ (M ++ (B ++ Y)))) rest) (hn : Hid (n = (X ++ (A ++ (M ++ (B ++ Y)))).length)) (hP : Hid (P = X.length)) (hQ : Hid (Q = X.length + A.length + M.length)) (hA : Hid (N = A.length)) (hB : Hid (N = B.length)) (hlen : n ≤ 1000000000000000) :
    Calls Tryz.prog 181 #[.slice (some ⟨g, 0, none⟩) n c, .int .i64 P, .int .i64 Q, .int .i64 N, .func (.func 170) #[] #[.pointer (some ⟨kb, 0, none⟩)]] w fun e w' =>
      e = .returned (.tuple #[]) ∧ RowO w' g (X ++ (B ++ (M ++ (A ++ Y)))) rest ∧ w.grownBy w' (some g) := by
  have h1 := hP.out
  have h2 := hQ.out
  have h3 := hA.out
  have h4 := hB.out
  subst h1 h2 h3
  have := swapRange_any X A M B Y rest g kb n X.length (X.length + A.length + M.length) A.length c w hr hn rfl rfl rfl (by show _ = _; omega) hlen
  simpa using this

set_option maxRecDepth 100000 in
set_option maxHeartbeats 4000000 in
theorem rotate_any (X A B Y : List Out) (rest : List Value) (g kb n c : Nat) (P Q E : Int) (w : World) (hr : RowO w g (X ++ (A ++ (B ++ Y))) rest) (hn : Hid (n = (X ++ (A ++ (B ++ Y))).length)) (hP : Hid (P = X.length)) (hQ : Hid (Q = X.length + A.length)) (hE : Hid (E = X.length + A.length + B.length)) (hA : Hid (A ≠ [])) (hB : Hid (B ≠ [])) (hlen : n ≤ 1000000000000000) :
    Calls Tryz.prog 180 #[.slice (some ⟨g, 0, none⟩) n c, .int .i64 P, .int .i64 Q, .int .i64 E, .func (.func 170) #[] #[.pointer (some ⟨kb, 0, none⟩)]] w fun e w' =>
      e = .returned (.tuple #[]) ∧ RowO w' g (X ++ (B ++ (A ++ Y))) rest ∧ w.grownBy w' (some g) := by
  have hbd : 0 ≤ P ∧ P < Q ∧ Q < E ∧ E ≤ n := by
    have h1 := hn.out; have h2 := hP.out; have h3 := hQ.out; have h4 := hE.out
    have h5 := List.length_pos_iff.2 hA.out
    have h6 := List.length_pos_iff.2 hB.out
    simp at h1; omega
  have hb0 := hbd.1
  have hb1 := hbd.2.1
  have hb2 := hbd.2.2.1
  have hb3 := hbd.2.2.2
  clear hbd
  go_enter Tryz.func180, Tryz.ntmps180
  go_wp2_with fail
  go_loopw [10, 11] (fun iv jv wr => ∃ (i j : Nat) (U A' B' V : List Out), iv = .int .i64 i ∧ jv = .int .i64 j ∧ 0 < i ∧ 0 < j ∧ i ≤ n ∧ j ≤ n ∧ i ≤ Q ∧ Q + j ≤ n ∧ Hid (i = A'.length) ∧ Hid (j = B'.length) ∧ Hid (Q = U.length + A'.length) ∧ Hid (n = (U ++ (A' ++ (B' ++ V))).length) ∧
    Hid (U ++ (B' ++ (A' ++ V)) = X ++ (B ++ (A ++ Y))) ∧ RowO wr g (U ++ (A' ++ (B' ++ V))) rest ∧ w.grownBy wr (some g)) (fun i j _ => (intOf i).toNat + (intOf j).toNat)
  case atStart =>
    have h1 := hn.out; have h2 := hP.out; have h3 := hQ.out; have h4 := hE.out
    have h5 := List.length_pos_iff.2 hA.out
    have h6 := List.length_pos_iff.2 hB.out
    simp at h1
    refine ⟨A.length, B.length, X, A, B, Y, ?_, ?_, h5, h6, by omega, by omega, by omega, by omega, rfl, rfl, hQ, hn, rfl, hr, grown_refl _ _⟩
    · congr 1; omega
    · congr 1; omega
  case round =>
    obtain ⟨i, j, U, A', B', V, rfl, rfl, hi0, hj0, hin, hjn, hiQ, hjQ, HI, HJ, HQ, HN, HT, hrr, hgr⟩ := hrel
    by_cases hij : i = j
    · have hq : ((i : Int) != (j : Int)) = false := by simp [hij]
      have HIJ := hide hij
      clear hij
      go_wp2_with fail
      refine (swapRange_int U A' [] B' V rest g kb n c _ _ _ wr (by simpa using hrr) (by show _ = _; have := HN.out; simpa using this) (by show _ = _; have := HQ.out; have := HI.out; omega) (by show _ = _; have := HQ.out; simp; omega) (by show _ = _; have := HI.out; omega) (by show _ = _; have := HI.out; have := HJ.out; have := HIJ.out; omega) hlen).mono ?_
      rintro e w2 ⟨rfl, hr2, hg2⟩
      go_wp2_with fail
      go_end0
      refine ⟨rfl, ?_, grown_trans hgr hg2⟩
      rw [← HT.out]
      simpa using hr2
    · have hq : ((i : Int) != (j : Int)) = true := by simp; omega
      by_cases hlt : j < i
      · obtain ⟨A1, A2, hA12, hA1⟩ : ∃ A1 A2, A' = A1 ++ A2 ∧ A1.length = j := ⟨A'.take j, A'.drop j, (List.take_append_drop _ _).symm, by have := HI.out; simp; omega⟩
        subst hA12
        have HA1 := hide hA1
        clear hA1 hij
        go_wp2_with fail
        refine (swapRange_int U A1 A2 B' V rest g kb n c _ _ _ wr (by simpa using hrr) (by show _ = _; have := HN.out; simpa using this) (by show _ = _; have := HQ.out; have := HI.out; omega) (by show _ = _; have := HQ.out; simp at this; omega) (by show _ = _; have := HA1.out; omega) (by show _ = _; have := HJ.out; omega) hlen).mono ?_
        rintro e w2 ⟨rfl, hr2, hg2⟩
        go_wp2_with fail
        go_roundw
        case rel =>
          refine ⟨i - j, j, U ++ B', A2, A1, V, ?_, rfl, by omega, hj0, by omega, hjn, by omega, hjQ, ?_, ?_, ?_, ?_, ?_, by simpa using hr2, grown_trans hgr hg2⟩
          · congr 1; omega
          · have h1 := HI.out; have h2 := HA1.out; show _ = _; simp at h1; omega
          · have h2 := HA1.out; show _ = _; omega
          · have h1 := HI.out; have h2 := HA1.out; have h3 := HQ.out; have h4 := HJ.out; show _ = _; simp at h1 h3 ⊢; omega
          · have h1 := HN.out; show _ = _; simp at h1 ⊢; omega
          · have h1 := HT.out; show _ = _; simpa using h1
        case measure => simp [intOf]; omega
      · have hlt2 : i < j := by omega
        obtain ⟨B1, B2, hB12, hB2⟩ : ∃ B1 B2, B' = B1 ++ B2 ∧ B2.length = i := ⟨B'.take (j - i), B'.drop (j - i), (List.take_append_drop _ _).symm, by have := HJ.out; simp; omega⟩
        subst hB12
        have HB2 := hide hB2
        clear hB2 hij
        go_wp2_with fail
        refine (swapRange_int U A' B1 B2 V rest g kb n c _ _ _ wr (by simpa using hrr) (by show _ = _; have := HN.out; simpa using this) (by show _ = _; have := HQ.out; have := HI.out; omega) (by show _ = _; have h1 := HQ.out; have h2 := HJ.out; have h3 := HB2.out; simp at h2; omega) (by show _ = _; have := HI.out; omega) (by show _ = _; have := HB2.out; omega) hlen).mono ?_
        rintro e w2 ⟨rfl, hr2, hg2⟩
        go_wp2_with fail
        go_roundw
        case rel =>
          refine ⟨i, j - i, U, B2, B1, A' ++ V, rfl, ?_, hi0, by omega, hin, by omega, hiQ, by omega, ?_, ?_, ?_, ?_, ?_, by simpa using hr2, grown_trans hgr hg2⟩
          · congr 1; omega
          · have h2 := HB2.out; show _ = _; omega
          · have h1 := HJ.out; have h2 := HB2.out; show _ = _; simp at h1; omega
          · have h1 := HI.out; have h2 := HB2.out; have h3 := HQ.out; show _ = _; omega
          · have h1 := HN.out; show _ = _; simp at h1 ⊢; omega
          · have h1 := HT.out; show _ = _; simpa using h1
        case measure => simp [intOf]; omega

end Go.Proofs.YtnigfddanoaonaaGreat

set_option linter.unusedVariables false
namespace Go.Proofs.YtnigfddanoaonaaGreat
open Go.RowKit

theorem srt_join {A B : List Out} (hA : Srt A) (hB : Srt B) (h : ∀ x y, A.getLast? = some x → B.head? = some y → leO x y) : Srt (A ++ B) := by
  refine List.pairwise_append.2 ⟨hA, hB, fun x hx y hy => ?_⟩
  have hA2 : A ≠ [] := by rintro rfl; simp at hx
  have hB2 : B ≠ [] := by rintro rfl; simp at hy
  obtain ⟨b, B', rfl⟩ := List.exists_cons_of_ne_nil hB2
  have h1 := h _ b (List.getLast?_eq_some_getLast hA2) rfl
  have h2 : leO x (A.getLast hA2) := by
    have h3 : A.dropLast ++ [A.getLast hA2] = A := List.dropLast_concat_getLast hA2
    rw [← h3] at hx hA
    rcases List.mem_append.1 hx with hx | hx
    · exact (List.pairwise_append.1 hA).2.2 x hx _ (List.mem_singleton.2 rfl)
    · rw [List.mem_singleton.1 hx]; exact leO_refl _
  have h4 : leO b y := by
    rcases List.mem_cons.1 hy with rfl | hy
    · exact leO_refl _
    · exact (List.pairwise_cons.1 hB).1 y hy
  exact leO_trans h2 (leO_trans h1 h4)
theorem srt_left {A B : List Out} (h : Srt (A ++ B)) : Srt A := (List.pairwise_append.1 h).1
theorem srt_right {A B : List Out} (h : Srt (A ++ B)) : Srt B := (List.pairwise_append.1 h).2.1

theorem mem_last {A : List Out} {x : Out} (h : Srt A) (hx : x ∈ A) : ∃ y, A.getLast? = some y ∧ leO x y := by
  have hA2 : A ≠ [] := by rintro rfl; simp at hx
  refine ⟨_, List.getLast?_eq_some_getLast hA2, ?_⟩
  have h3 : A.dropLast ++ [A.getLast hA2] = A := List.dropLast_concat_getLast hA2
  rw [← h3] at hx h
  rcases List.mem_append.1 hx with hx | hx
  · exact (List.pairwise_append.1 h).2.2 x hx _ (List.mem_singleton.2 rfl)
  · rw [List.mem_singleton.1 hx]; exact leO_refl _
theorem mem_head {A : List Out} {x : Out} (h : Srt A) (hx : x ∈ A) : ∃ y, A.head? = some y ∧ leO y x := by
  match A, hx, h with
  | b :: B, hy, h =>
    refine ⟨b, rfl, ?_⟩
    rcases List.mem_cons.1 hy with rfl | hy
    · exact leO_refl _
    · exact (List.pairwise_cons.1 h).1 _ hy

theorem merge_parts {A1 A2 B1 B2 : List Out} (hA : Srt (A1 ++ A2)) (hB : Srt (B1 ++ B2)) (h1 : ∀ x y, A1.getLast? = some x → B2.head? = some y → leO x y) (h2 : ∀ x y, B1.getLast? = some x → A2.head? = some y → leO x y) :
    isort (A1 ++ B1) ++ isort (A2 ++ B2) = isort ((A1 ++ A2) ++ (B1 ++ B2)) := by
  rw [isort_join]
  · refine isort_perm_eq ?_
    simp only [List.append_assoc]
    refine List.Perm.append_left A1 ?_
    rw [← List.append_assoc, ← List.append_assoc]
    exact List.Perm.append_right B2 List.perm_append_comm
  · have a1 := srt_left hA
    have a2 := srt_right hA
    have b1 := srt_left hB
    have b2 := srt_right hB
    intro x hx y hy
    rcases List.mem_append.1 hx with hx | hx <;> rcases List.mem_append.1 hy with hy | hy
    · exact (List.pairwise_append.1 hA).2.2 x hx y hy
    · obtain ⟨u, hu, hxu⟩ := mem_last a1 hx
      obtain ⟨v, hv, hvy⟩ := mem_head b2 hy
      exact leO_trans hxu (leO_trans (h1 u v hu hv) hvy)
    · obtain ⟨u, hu, hxu⟩ := mem_last b1 hx
      obtain ⟨v, hv, hvy⟩ := mem_head a2 hy
      exact leO_trans hxu (leO_trans (h2 u v hu hv) hvy)
    · exact (List.pairwise_append.1 hB).2.2 x hx y hy

theorem get_in (X A R : List Out) {k : Nat} {x : Out} (h : A[k]? = some x) : (X ++ (A ++ R))[X.length + k]? = some x := by
  have hk : k < A.length := (List.getElem?_eq_some_iff.1 h).1
  rw [List.getElem?_append_right (by omega), List.getElem?_append_left (by omega)]
  rw [show X.length + k - X.length = k from by omega]
  exact h
theorem swap_adj2 (A B : List Out) (x y : Out) : ((A ++ x :: y :: B).set A.length y).set (A.length + 1) x = A ++ y :: x :: B := by
  rw [List.set_append_right _ _ (by omega), List.set_append_right _ _ (by omega)]
  simp

/-- Merging one element with a sorted list. -/
theorem one_left {x : Out} {B1 B2 : List Out} (hB : Srt (B1 ++ B2)) (h1 : ∀ y, B1.getLast? = some y → leO y x) (h2 : ∀ y, B2.head? = some y → leO x y) : B1 ++ x :: B2 = isort (x :: (B1 ++ B2)) := by
  refine isort_of (srt_join (srt_left hB) ?_ ?_) List.perm_middle
  · refine srt_join (A := [x]) (List.pairwise_singleton _ _) (srt_right hB) ?_
    intro u v hu hv
    simp at hu
    subst hu
    exact h2 v hv
  · intro u v hu hv
    simp at hv
    subst hv
    exact h1 u hu

end Go.Proofs.YtnigfddanoaonaaGreat

set_option linter.unusedVariables false
namespace Go.Proofs.YtnigfddanoaonaaGreat
open Go.RowKit

set_option maxRecDepth 100000 in
set_option maxHeartbeats 4000000 in
theorem sym_left (X B Y : List Out) (xt xl : Int) (rest : List Value) (g kb ka n a m b c : Nat) (w : World) (hr : RowO w g (X ++ ([⟨xt, xl⟩] ++ (B ++ Y))) rest) (hk : Keys w kb ka) (hn : Hid (n = (X ++ ([(⟨xt, xl⟩ : Out)] ++ (B ++ Y))).length)) (ha : Hid (a = X.length)) (hm : Hid (m = a + 1)) (hb : Hid (b = m + B.length)) (hB : Hid (Srt B)) (hlen : n ≤ 1000000000000000) :
    Calls Tryz.prog 179 #[.slice (some ⟨g, 0, none⟩) n c, .int .i64 a, .int .i64 m, .int .i64 b, .func (.func 170) #[] #[.pointer (some ⟨kb, 0, none⟩)]] w fun e w' =>
      e = .returned (.tuple #[]) ∧ RowO w' g (X ++ (isort ([⟨xt, xl⟩] ++ B) ++ Y)) rest ∧ w.grownBy w' (some g) := by
  have hne := hk.ne hr
  have hbn : a < m ∧ m ≤ b ∧ b ≤ n := by have h1 := hn.out; have h2 := ha.out; have h3 := hb.out; have h4 := hm.out; simp at h1; omega
  have hbn1 := hbn.1
  have hbn2 := hbn.2.1
  have hbn3 := hbn.2.2
  clear hbn
  have hone : ((m : Int) - a == 1) = true := by have := hm.out; simp; omega
  go_enter Tryz.func179, Tryz.ntmps179
  go_wp2_with fail
  go_loopw [10, 11] (fun iv jv wr => ∃ (i j : Nat), iv = .int .i64 i ∧ jv = .int .i64 j ∧ m ≤ i ∧ i ≤ j ∧ j ≤ b ∧ 
    Hid (i = m ∨ ∀ y, B[i - m - 1]? = some y → leO y ⟨xt, xl⟩) ∧ Hid (j = b ∨ ∀ y, B[j - m]? = some y → leO ⟨xt, xl⟩ y) ∧ RowO wr g (X ++ ([⟨xt, xl⟩] ++ (B ++ Y))) rest ∧ w.grownBy wr (some g)) (fun i j _ => (intOf j).toNat - (intOf i).toNat)
  case atStart => exact ⟨m, b, rfl, rfl, by omega, by omega, by omega, .inl rfl, .inl rfl, hr, grown_refl _ _⟩
  case round =>
    obtain ⟨i, j, rfl, rfl, hmi, hij, hjb, HI, HJ, hrr, hgr⟩ := hrel
    by_cases hlt : i < j
    · obtain ⟨h, hh⟩ : ∃ h, h = (i + j) / 2 := ⟨_, rfl⟩
      have hhi : i ≤ h := by omega
      have hhj : h < j := by omega
      have hmid : ((i : Int) + j) / 2 = (h : Int) := by omega
      clear hh
      obtain ⟨e, rfl⟩ : ∃ e, h = m + e := ⟨h - m, by omega⟩
      have HE : Hid (m + e = X.length + 1 + e) := by have h1 := ha.out; have h2 := hm.out; show _ = _; omega
      obtain ⟨⟨yt, yl⟩, hy⟩ : ∃ y, B[e]? = some y := ⟨B[e]'(by have := hb.out; omega), List.getElem?_eq_getElem _⟩
      have hyd : (X ++ ([⟨xt, xl⟩] ++ (B ++ Y)))[m + e]? = some ⟨yt, yl⟩ := by
        rw [HE.out, ← List.append_assoc, show X.length + 1 + e = (X ++ [(⟨xt, xl⟩ : Out)]).length + e from by simp]
        exact get_in _ _ _ hy
      have hxd : (X ++ ([⟨xt, xl⟩] ++ (B ++ Y)))[a]? = some ⟨xt, xl⟩ := by
        rw [ha.out]
        exact get_in X [⟨xt, xl⟩] (B ++ Y) (k := 0) rfl
      obtain ⟨cy0, cy1⟩ := hrr.cells hyd
      obtain ⟨cx0, cx1⟩ := hrr.cells hxd
      have hkw := hide ((hk.grown hne hgr).grown hne (grown_drew (grown_refl wr (some g))))
      have HY := hide hy
      clear hyd hxd hy
      have b1 : 0 ≤ (m : Int) + e := by omega
      have b2 : (m : Int) + e < (n : Int) := by omega
      have b3 : 0 ≤ (a : Int) := by omega
      have b4 : (a : Int) < (n : Int) := by omega
      have b5 : ((m : Int) + e).toNat = m + e := by omega
      by_cases hle : leO ⟨xt, xl⟩ ⟨yt, yl⟩
      · have hcm : 0 ≤ cmpO ⟨yt, yl⟩ ⟨xt, xl⟩ := by have := (cmpO_neg (a := ⟨yt, yl⟩) (b := ⟨xt, xl⟩)); simp only [hle, not_true, iff_false] at this; omega
        have HLE := hide hle
        clear hle
        go_wp2_with fail
        go_still_tail 9, (by kernel_rfl)
        change wpList _ _ _ _ _ wr.drew
        clear b1 b2 b3 b4 b5
        go_wp2_with fail
        refine (cmpO_any yt yl xt xl kb ka wr.drew hkw).mono ?_
        rintro e2 w2 ⟨rfl, hb2⟩
        go_wp2_with fail
        go_roundw
        case rel =>
          refine ⟨i, m + e, by go_num, by go_num, by omega, by omega, by omega, HI, .inr fun y hy => ?_, RowO.below (w := wr.drew) hrr hb2, grown_below (grown_drew hgr) hb2⟩
          rw [show m + e - m = e from by omega, HY.out] at hy
          injection hy with hy
          subst hy
          exact HLE.out
        case measure => simp [intOf]; omega
      · have hcm : cmpO ⟨yt, yl⟩ ⟨xt, xl⟩ < 0 := cmpO_neg.2 hle
        have HLE := hide hle
        clear hle
        go_wp2_with fail
        go_still_tail 9, (by kernel_rfl)
        change wpList _ _ _ _ _ wr.drew
        clear b1 b2 b3 b4 b5
        go_wp2_with fail
        refine (cmpO_any yt yl xt xl kb ka wr.drew hkw).mono ?_
        rintro e2 w2 ⟨rfl, hb2⟩
        go_wp2_with fail
        go_roundw
        case rel =>
          refine ⟨m + e + 1, j, by go_num, rfl, by omega, by omega, by omega, .inr fun y hy => ?_, HJ, RowO.below (w := wr.drew) hrr hb2, grown_below (grown_drew hgr) hb2⟩
          rw [show m + e + 1 - m - 1 = e from by omega, HY.out] at hy
          injection hy with hy
          subst hy
          exact (leO_total _ _).resolve_left HLE.out
        case measure => simp [intOf]; omega
    · have hij2 : j = i := by omega
      subst hij2
      obtain ⟨B1, B2, rfl, HB1⟩ : ∃ B1 B2, B = B1 ++ B2 ∧ Hid (j = m + B1.length) := ⟨B.take (j - m), B.drop (j - m), (List.take_append_drop _ _).symm, by have := hb.out; show _ = _; simp; omega⟩
      have HS : Hid (B1 ++ ⟨xt, xl⟩ :: B2 = isort (⟨xt, xl⟩ :: (B1 ++ B2))) := by
        refine one_left hB.out ?_ ?_
        · intro y hy
          rcases HI.out with h | h
          · have := HB1.out
            have h0 : B1 = [] := List.eq_nil_of_length_eq_zero (by omega)
            subst h0
            simp at hy
          · refine h y ?_
            have h1 := HB1.out
            have h0 : B1 ≠ [] := by rintro rfl; simp at hy
            have h2 := List.length_pos_iff.2 h0
            rw [List.getElem?_append_left (by omega), show j - m - 1 = B1.length - 1 from by omega, ← List.getLast?_eq_getElem?]
            exact hy
        · intro y hy
          rcases HJ.out with h | h
          · have h1 := HB1.out
            have h2 := hb.out
            have h0 : B2 = [] := List.eq_nil_of_length_eq_zero (by simp at h2; omega)
            subst h0
            simp at hy
          · refine h y ?_
            have h1 := HB1.out
            rw [List.getElem?_append_right (by omega), show j - m - B1.length = 0 from by omega, ← List.head?_eq_getElem?]
            exact hy
      clear HI HJ
      go_wp2_with fail
      obtain ⟨wo, rfl⟩ : ∃ wo : World, wo = wr := ⟨_, rfl⟩
      go_loopw [13] (fun iv wr => ∃ (k : Nat) (C D : List Out), iv = .int .i64 k ∧ k < j ∧ Hid (k = a + C.length) ∧ Hid (B1 = C ++ D) ∧ RowO wr g (X ++ (C ++ ⟨xt, xl⟩ :: (D ++ (B2 ++ Y)))) rest ∧ w.grownBy wr (some g)) (fun i _ => j - (intOf i).toNat)
      case atStart => exact ⟨a, [], B1, rfl, by omega, rfl, rfl, by simpa using hrr, hgr⟩
      case round =>
        obtain ⟨k, C, D, rfl, hkj, HK, HCD, hrj, hgj⟩ := hrel
        have HL : Hid (j = k + 1 + D.length) := by
          have h1 := HB1.out; have h2 := HCD.out; have h3 := HK.out; have h4 := hm.out
          rw [h2] at h1
          show _ = _; simp at h1; omega
        by_cases hd : k + 1 < j
        · have hD : D ≠ [] := by rintro rfl; have h := HL.out; simp at h; omega
          obtain ⟨⟨yt, yl⟩, D', rfl⟩ := List.exists_cons_of_ne_nil hD
          clear hD
          have hi : Hid (k = (X ++ C).length) := by have h1 := HK.out; have h2 := ha.out; show _ = _; simp; omega
          have hrA : RowO wr g ((X ++ C) ++ ⟨xt, xl⟩ :: ⟨yt, yl⟩ :: (D' ++ (B2 ++ Y))) rest := by simpa using hrj
          have hxd : ((X ++ C) ++ ⟨xt, xl⟩ :: ⟨yt, yl⟩ :: (D' ++ (B2 ++ Y)))[k]? = some ⟨xt, xl⟩ := by rw [hi.out, List.getElem?_append_right (Nat.le_refl _)]; simp
          have hyd : ((X ++ C) ++ ⟨xt, xl⟩ :: ⟨yt, yl⟩ :: (D' ++ (B2 ++ Y)))[k + 1]? = some ⟨yt, yl⟩ := by rw [hi.out, List.getElem?_append_right (by omega)]; simp
          obtain ⟨cx0, cx1⟩ := hrA.cells hxd
          obtain ⟨cy0, cy1⟩ := hrA.cells hyd
          have f0 := hrA.free (k * 2)
          have f1 := hrA.free (k * 2 + 1)
          have f2 := hrA.free ((k + 1) * 2)
          have f3 := hrA.free ((k + 1) * 2 + 1)
          have hkn : k + 1 < n := by omega
          have hr3 := RowO.put (RowO.put hrA (i := k) (by rw [hi.out]; simp <;> omega) yt yl) (i := k + 1) (by rw [hi.out]; simp <;> omega) xt xl
          have hg3 := grown_drew (grown_set (grown_set (grown_set (grown_set hgj (k * 2) (.int .i64 yt)) (k * 2 + 1) (.int .i64 yl)) ((k + 1) * 2) (.int .i64 xt)) ((k + 1) * 2 + 1) (.int .i64 xl))
          have hsw : (((X ++ C) ++ ⟨xt, xl⟩ :: ⟨yt, yl⟩ :: (D' ++ (B2 ++ Y))).set k ⟨yt, yl⟩).set (k + 1) ⟨xt, xl⟩ = X ++ ((C ++ [⟨yt, yl⟩]) ++ ⟨xt, xl⟩ :: (D' ++ (B2 ++ Y))) := by
            rw [hi.out, swap_adj2]
            simp
          rw [hsw] at hr3
          have HR3 := hide (RowO.draw hr3)
          have HG3 := hide hg3
          clear hxd hyd hrj hrr hsw hr3 hg3 hrA hgj
          go_wp2_with fail
          go_region
          go_wp2_with fail
          go_roundw
          case rel =>
            refine ⟨k + 1, C ++ [⟨yt, yl⟩], D', by go_num, by omega, ?_, ?_, HR3.out, HG3.out⟩
            · have h1 := HK.out; show _ = _; simp; omega
            · have h1 := HCD.out; show _ = _; simpa using h1
          case measure => simp [intOf]; omega
        · have hD : D = [] := List.eq_nil_of_length_eq_zero (by have h := HL.out; omega)
          subst hD
          have hdd : decide ((k : Int) < (j : Int) - 1) = false := by simp; omega
          go_wp2_with fail
          refine bodyPost_ret (results_none rfl _ _ _) rfl ?_
          refine ⟨rfl, ?_, hgj⟩
          have h1 := HCD.out
          rw [List.append_nil] at h1
          subst h1
          have h2 := HS.out
          show RowO _ _ (X ++ (isort (⟨xt, xl⟩ :: (B1 ++ B2)) ++ Y)) _
          rw [← h2]
          simpa using hrj

end Go.Proofs.YtnigfddanoaonaaGreat

set_option linter.unusedVariables false
namespace Go.Proofs.YtnigfddanoaonaaGreat
open Go.RowKit

set_option maxRecDepth 100000 in
set_option maxHeartbeats 4000000 in
theorem sym_right (X A Y : List Out) (xt xl : Int) (rest : List Value) (g kb ka n a m b c : Nat) (w : World) (hr : RowO w g (X ++ (A ++ ([⟨xt, xl⟩] ++ Y))) rest) (hk : Keys w kb ka) (hn : Hid (n = (X ++ (A ++ ([(⟨xt, xl⟩ : Out)] ++ Y))).length)) (ha : Hid (a = X.length)) (hm : Hid (m = a + A.length)) (hb : Hid (b = m + 1)) (hA : Hid (Srt A)) (hA1 : Hid (A.length ≠ 1)) (hlen : n ≤ 1000000000000000) :
    Calls Tryz.prog 179 #[.slice (some ⟨g, 0, none⟩) n c, .int .i64 a, .int .i64 m, .int .i64 b, .func (.func 170) #[] #[.pointer (some ⟨kb, 0, none⟩)]] w fun e w' =>
      e = .returned (.tuple #[]) ∧ RowO w' g (X ++ (isort (A ++ [⟨xt, xl⟩]) ++ Y)) rest ∧ w.grownBy w' (some g) := by
  have hne := hk.ne hr
  have hbn : a ≤ m ∧ m < b ∧ b ≤ n := by have h1 := hn.out; have h2 := ha.out; have h3 := hb.out; have h4 := hm.out; simp at h1; omega
  have hbn1 := hbn.1
  have hbn2 := hbn.2.1
  have hbn3 := hbn.2.2
  clear hbn
  have hone0 : ((m : Int) - a == 1) = false := by have := hm.out; have := hA1.out; simp; omega
  have hone : ((b : Int) - m == 1) = true := by have := hb.out; simp; omega
  go_enter Tryz.func179, Tryz.ntmps179
  go_wp2_with fail
  go_loopw [14, 15] (fun iv jv wr => ∃ (i j : Nat), iv = .int .i64 i ∧ jv = .int .i64 j ∧ a ≤ i ∧ i ≤ j ∧ j ≤ m ∧ 
    Hid (i = a ∨ ∀ y, A[i - a - 1]? = some y → leO y ⟨xt, xl⟩) ∧ Hid (j = m ∨ ∀ y, A[j - a]? = some y → leO ⟨xt, xl⟩ y) ∧ RowO wr g (X ++ (A ++ ([⟨xt, xl⟩] ++ Y))) rest ∧ w.grownBy wr (some g)) (fun i j _ => (intOf j).toNat - (intOf i).toNat)
  case atStart => exact ⟨a, m, rfl, rfl, by omega, by omega, by omega, .inl rfl, .inl rfl, hr, grown_refl _ _⟩
  case round =>
    obtain ⟨i, j, rfl, rfl, hai, hij, hjm, HI, HJ, hrr, hgr⟩ := hrel
    by_cases hlt : i < j
    · obtain ⟨h, hh⟩ : ∃ h, h = (i + j) / 2 := ⟨_, rfl⟩
      have hhi : i ≤ h := by omega
      have hhj : h < j := by omega
      have hmid : ((i : Int) + j) / 2 = (h : Int) := by omega
      clear hh
      obtain ⟨e, rfl⟩ : ∃ e, h = a + e := ⟨h - a, by omega⟩
      have HM : Hid (m = X.length + A.length) := by have h1 := ha.out; have h2 := hm.out; show _ = _; omega
      obtain ⟨⟨yt, yl⟩, hy⟩ : ∃ y, A[e]? = some y := ⟨A[e]'(by have := hm.out; omega), List.getElem?_eq_getElem _⟩
      have hyd : (X ++ (A ++ ([⟨xt, xl⟩] ++ Y)))[a + e]? = some ⟨yt, yl⟩ := by
        rw [ha.out]
        exact get_in _ _ _ hy
      have hxd : (X ++ (A ++ ([⟨xt, xl⟩] ++ Y)))[m]? = some ⟨xt, xl⟩ := by
        rw [HM.out, ← List.append_assoc, ← List.length_append]
        exact get_in (X ++ A) [⟨xt, xl⟩] Y (k := 0) rfl
      obtain ⟨cy0, cy1⟩ := hrr.cells hyd
      obtain ⟨cx0, cx1⟩ := hrr.cells hxd
      have hkw := hide ((hk.grown hne hgr).grown hne (grown_drew (grown_refl wr (some g))))
      have HY := hide hy
      clear hyd hxd hy
      have b1 : 0 ≤ (a : Int) + e := by omega
      have b2 : (a : Int) + e < (n : Int) := by omega
      have b3 : 0 ≤ (m : Int) := by omega
      have b4 : (m : Int) < (n : Int) := by omega
      have b5 : ((a : Int) + e).toNat = a + e := by omega
      by_cases hle : leO ⟨yt, yl⟩ ⟨xt, xl⟩
      · have hcm : 0 ≤ cmpO ⟨xt, xl⟩ ⟨yt, yl⟩ := by have := (cmpO_neg (a := ⟨xt, xl⟩) (b := ⟨yt, yl⟩)); simp only [hle, not_true, iff_false] at this; omega
        have hcd : decide (cmpO ⟨xt, xl⟩ ⟨yt, yl⟩ < 0) = false := by simp; omega
        have HLE := hide hle
        clear hle
        go_wp2_with fail
        go_still_tail 9, (by kernel_rfl)
        change wpList _ _ _ _ _ wr.drew
        clear b1 b2 b3 b4 b5
        go_wp2_with fail
        refine (cmpO_any xt xl yt yl kb ka wr.drew hkw).mono ?_
        rintro e2 w2 ⟨rfl, hb2⟩
        go_wp2_with fail
        go_roundw
        case rel =>
          refine ⟨a + e + 1, j, by go_num, rfl, by omega, by omega, by omega, .inr fun y hy => ?_, HJ, RowO.below (w := wr.drew) hrr hb2, grown_below (grown_drew hgr) hb2⟩
          rw [show a + e + 1 - a - 1 = e from by omega, HY.out] at hy
          injection hy with hy
          subst hy
          exact HLE.out
        case measure => simp [intOf]; omega
      · have hcm : cmpO ⟨xt, xl⟩ ⟨yt, yl⟩ < 0 := cmpO_neg.2 hle
        have HLE := hide hle
        clear hle
        go_wp2_with fail
        go_still_tail 9, (by kernel_rfl)
        change wpList _ _ _ _ _ wr.drew
        clear b1 b2 b3 b4 b5
        go_wp2_with fail
        refine (cmpO_any xt xl yt yl kb ka wr.drew hkw).mono ?_
        rintro e2 w2 ⟨rfl, hb2⟩
        go_wp2_with fail
        go_roundw
        case rel =>
          refine ⟨i, a + e, by go_num, by go_num, by omega, by omega, by omega, HI, .inr fun y hy => ?_, RowO.below (w := wr.drew) hrr hb2, grown_below (grown_drew hgr) hb2⟩
          rw [show a + e - a = e from by omega, HY.out] at hy
          injection hy with hy
          subst hy
          exact (leO_total _ _).resolve_right HLE.out
        case measure => simp [intOf]; omega
    · have hij2 : j = i := by omega
      subst hij2
      obtain ⟨A1, A2, rfl, HA1⟩ : ∃ A1 A2, A = A1 ++ A2 ∧ Hid (j = a + A1.length) := ⟨A.take (j - a), A.drop (j - a), (List.take_append_drop _ _).symm, by have := hm.out; show _ = _; simp; omega⟩
      have HS : Hid (A1 ++ ⟨xt, xl⟩ :: A2 = isort ((A1 ++ A2) ++ [⟨xt, xl⟩])) := by
        show _ = _
        rw [isort_perm_eq (l := (A1 ++ A2) ++ [(⟨xt, xl⟩ : Out)]) (l' := (⟨xt, xl⟩ : Out) :: (A1 ++ A2)) List.perm_append_comm]
        refine one_left hA.out ?_ ?_
        · intro y hy
          rcases HI.out with h | h
          · have := HA1.out
            have h0 : A1 = [] := List.eq_nil_of_length_eq_zero (by omega)
            subst h0
            simp at hy
          · refine h y ?_
            have h1 := HA1.out
            have h0 : A1 ≠ [] := by rintro rfl; simp at hy
            have h2 := List.length_pos_iff.2 h0
            rw [List.getElem?_append_left (by omega), show j - a - 1 = A1.length - 1 from by omega, ← List.getLast?_eq_getElem?]
            exact hy
        · intro y hy
          rcases HJ.out with h | h
          · have h1 := HA1.out
            have h2 := hm.out
            have h0 : A2 = [] := List.eq_nil_of_length_eq_zero (by simp at h2; omega)
            subst h0
            simp at hy
          · refine h y ?_
            have h1 := HA1.out
            rw [List.getElem?_append_right (by omega), show j - a - A1.length = 0 from by omega, ← List.head?_eq_getElem?]
            exact hy
      clear HI HJ
      go_wp2_with fail
      obtain ⟨wo, rfl⟩ : ∃ wo : World, wo = wr := ⟨_, rfl⟩
      go_loopw [17] (fun iv wr => ∃ (k : Nat) (C D : List Out), iv = .int .i64 k ∧ j ≤ k ∧ k ≤ m ∧ Hid (k = j + C.length) ∧ Hid (A2 = C ++ D) ∧ RowO wr g (X ++ (A1 ++ (C ++ ⟨xt, xl⟩ :: (D ++ Y)))) rest ∧ w.grownBy wr (some g)) (fun i _ => (intOf i).toNat)
      case atStart =>
        refine ⟨m, A2, [], rfl, by omega, by omega, ?_, ?_, by simpa using hrr, hgr⟩
        · have h1 := HA1.out; have h2 := hm.out; show _ = _; simp at h2; omega
        · show _ = _; simp
      case round =>
        obtain ⟨k, C, D, rfl, hjk, hkm, HK, HCD, hrj, hgj⟩ := hrel
        by_cases hd : j < k
        · have hC : C ≠ [] := by rintro rfl; have h := HK.out; simp at h; omega
          obtain ⟨C', y, rfl⟩ : ∃ C' y, C = C' ++ [y] := ⟨C.dropLast, C.getLast hC, (List.dropLast_concat_getLast hC).symm⟩
          clear hC
          obtain ⟨yt, yl⟩ := y
          obtain ⟨k, rfl⟩ : ∃ k', k = k' + 1 := ⟨k - 1, by omega⟩
          have hi : Hid (k = (X ++ (A1 ++ C')).length) := by have h1 := HK.out; have h2 := ha.out; have h3 := HA1.out; show _ = _; simp at h1 ⊢; omega
          have hrA : RowO wr g ((X ++ (A1 ++ C')) ++ ⟨yt, yl⟩ :: ⟨xt, xl⟩ :: (D ++ Y)) rest := by simpa using hrj
          have hyd : ((X ++ (A1 ++ C')) ++ ⟨yt, yl⟩ :: ⟨xt, xl⟩ :: (D ++ Y))[k]? = some ⟨yt, yl⟩ := by rw [hi.out]; exact get_mid _ _ _
          have hxd : ((X ++ (A1 ++ C')) ++ ⟨yt, yl⟩ :: ⟨xt, xl⟩ :: (D ++ Y))[k + 1]? = some ⟨xt, xl⟩ := by rw [hi.out, List.getElem?_append_right (by omega)]; simp
          obtain ⟨cx0, cx1⟩ := hrA.cells hxd
          obtain ⟨cy0, cy1⟩ := hrA.cells hyd
          have f0 := hrA.free (k * 2)
          have f1 := hrA.free (k * 2 + 1)
          have f2 := hrA.free ((k + 1) * 2)
          have f3 := hrA.free ((k + 1) * 2 + 1)
          have hkn : k + 1 < n := by omega
          have hr3 := RowO.put (RowO.put hrA (i := k + 1) (by rw [hi.out]; simp <;> omega) yt yl) (i := k) (by rw [hi.out]; simp <;> omega) xt xl
          have hg3 := grown_drew (grown_set (grown_set (grown_set (grown_set hgj ((k + 1) * 2) (.int .i64 yt)) ((k + 1) * 2 + 1) (.int .i64 yl)) (k * 2) (.int .i64 xt)) (k * 2 + 1) (.int .i64 xl))
          have hsw : (((X ++ (A1 ++ C')) ++ ⟨yt, yl⟩ :: ⟨xt, xl⟩ :: (D ++ Y)).set (k + 1) ⟨yt, yl⟩).set k ⟨xt, xl⟩ = X ++ (A1 ++ (C' ++ ⟨xt, xl⟩ :: ((⟨yt, yl⟩ :: D) ++ Y))) := by
            rw [hi.out, swap_adj]
            simp
          rw [hsw] at hr3
          have HR3 := hide (RowO.draw hr3)
          have HG3 := hide hg3
          clear hxd hyd hrj hrr hsw hr3 hg3 hrA hgj
          go_wp2_with fail
          go_region
          go_wp2_with fail
          go_roundw
          case rel =>
            refine ⟨k, C', ⟨yt, yl⟩ :: D, by go_num, by omega, by omega, ?_, ?_, HR3.out, HG3.out⟩
            · have h1 := HK.out; show _ = _; simp at h1; omega
            · have h1 := HCD.out; show _ = _; simpa using h1
          case measure => simp [intOf]
        · have hC : C = [] := List.eq_nil_of_length_eq_zero (by have h := HK.out; omega)
          subst hC
          go_wp2_with fail
          refine bodyPost_ret (results_none rfl _ _ _) rfl ?_
          refine ⟨rfl, ?_, hgj⟩
          have h1 := HCD.out
          rw [List.nil_append] at h1
          subst h1
          rw [← HS.out]
          simpa using hrj

end Go.Proofs.YtnigfddanoaonaaGreat

set_option linter.unusedVariables false
namespace Go.Proofs.YtnigfddanoaonaaGreat
open Go.RowKit

def SymUpto (L : Nat) : Prop := ∀ (X A B Y : List Out) (rest : List Value) (g kb ka n c : Nat) (P Q E : Int) (w : World), RowO w g (X ++ (A ++ (B ++ Y))) rest → Keys w kb ka → Hid (n = (X ++ (A ++ (B ++ Y))).length) → Hid (P = X.length) → Hid (Q = X.length + A.length) → Hid (E = X.length + A.length + B.length) → Hid (A ≠ []) → Hid (B ≠ []) → Hid (Srt A) → Hid (Srt B) → Hid (A.length + B.length ≤ L) → n ≤ 1000000000000000 →
    Calls Tryz.prog 179 #[.slice (some ⟨g, 0, none⟩) n c, .int .i64 P, .int .i64 Q, .int .i64 E, .func (.func 170) #[] #[.pointer (some ⟨kb, 0, none⟩)]] w fun e w' =>
      e = .returned (.tuple #[]) ∧ RowO w' g (X ++ (isort (A ++ B) ++ Y)) rest ∧ w.grownBy w' (some g)

def R1 (w : World) (g : Nat) (X A1 A2 B1 B2 Y : List Out) (rest : List Value) (wx : World) : Prop := RowO wx g (X ++ (A1 ++ (B1 ++ (A2 ++ (B2 ++ Y))))) rest ∧ w.grownBy wx (some g)
def R2 (w : World) (g : Nat) (X A1 A2 B1 B2 Y : List Out) (rest : List Value) (wx : World) : Prop := RowO wx g (X ++ (isort (A1 ++ B1) ++ (A2 ++ (B2 ++ Y)))) rest ∧ w.grownBy wx (some g)
def R3 (w : World) (g : Nat) (X A1 A2 B1 B2 Y : List Out) (rest : List Value) (wx : World) : Prop := RowO wx g (X ++ (isort (A1 ++ B1) ++ (isort (A2 ++ B2) ++ Y))) rest ∧ w.grownBy wx (some g)

set_option maxRecDepth 100000 in
set_option maxHeartbeats 8000000 in
theorem sym_gen {L : Nat} (IH : Hid (SymUpto L)) (X A B Y : List Out) (rest : List Value) (g kb ka n a m b c : Nat) (w : World) (hr : RowO w g (X ++ (A ++ (B ++ Y))) rest) (hk : Keys w kb ka) (hn : Hid (n = (X ++ (A ++ (B ++ Y))).length)) (ha : Hid (a = X.length)) (hm : Hid (m = a + A.length)) (hb : Hid (b = m + B.length)) (hA : Hid (Srt A)) (hB : Hid (Srt B)) (hA1 : Hid (2 ≤ A.length)) (hB1 : Hid (2 ≤ B.length)) (hL : Hid (A.length + B.length ≤ L + 1)) (hlen : n ≤ 1000000000000000) :
    Calls Tryz.prog 179 #[.slice (some ⟨g, 0, none⟩) n c, .int .i64 a, .int .i64 m, .int .i64 b, .func (.func 170) #[] #[.pointer (some ⟨kb, 0, none⟩)]] w fun e w' =>
      e = .returned (.tuple #[]) ∧ RowO w' g (X ++ (isort (A ++ B) ++ Y)) rest ∧ w.grownBy w' (some g) := by
  have hne := hk.ne hr
  have hbn : a < m ∧ m < b ∧ b ≤ n := by have h1 := hn.out; have h2 := ha.out; have h3 := hb.out; have h4 := hm.out; have h5 := hA1.out; have h6 := hB1.out; simp at h1; omega
  have hbn1 := hbn.1
  have hbn2 := hbn.2.1
  have hbn3 := hbn.2.2
  clear hbn
  have hone0 : ((m : Int) - a == 1) = false := by have := hm.out; have := hA1.out; simp; omega
  have hone : ((b : Int) - m == 1) = false := by have := hb.out; have := hB1.out; simp; omega
  obtain ⟨mid, hmd⟩ : ∃ mid, mid = (a + b) / 2 := ⟨_, rfl⟩
  have hmid : ((a : Int) + b) / 2 = (mid : Int) := by omega
  have hm1 : a < mid := by have := hm.out; have := hA1.out; omega
  have hm2 : mid < b := by omega
  have HMID := hide hmd
  clear hmd
  obtain ⟨s0, r0, hcase⟩ : ∃ s0 r0 : Nat, (mid < m ∧ decide ((mid : Int) < (m : Int)) = true ∧ Hid (s0 = mid + m - b) ∧ Hid (r0 = mid)) ∨ (m ≤ mid ∧ decide ((mid : Int) < (m : Int)) = false ∧ Hid (s0 = a) ∧ Hid (r0 = m)) := by
    by_cases h : mid < m
    · exact ⟨_, _, .inl ⟨h, by simp; omega, rfl, rfl⟩⟩
    · exact ⟨_, _, .inr ⟨by omega, by simp; omega, rfl, rfl⟩⟩
  have hs0 : a ≤ s0 ∧ mid + m - b ≤ s0 ∧ s0 ≤ r0 ∧ r0 ≤ m ∧ r0 ≤ mid ∧ mid - a ≤ m - a + (b - m) := by
    have h3 := HMID.out
    rcases hcase with ⟨h, _, h1, h2⟩ | ⟨h, _, h1, h2⟩ <;> (have h1 := h1.out; have h2 := h2.out; omega)
  have hs1 := hs0.1
  have hs2 := hs0.2.1
  have hs3 := hs0.2.2.1
  have hs4 := hs0.2.2.2.1
  have hs5 := hs0.2.2.2.2.1
  clear hs0
  have hends : Hid ((s0 = a ∨ s0 = mid + m - b) ∧ (r0 = mid ∨ r0 = m)) := by
    rcases hcase with ⟨h, _, h1, h2⟩ | ⟨h, _, h1, h2⟩ <;> (have h1 := h1.out; have h2 := h2.out; show _ ∧ _; omega)
  have HC := hide hcase
  clear hcase
  go_enter Tryz.func179, Tryz.ntmps179
  go_upto_if 140 with fail
  go_cut [20, 21] (fun s20 s21 wx => s20 = .int .i64 s0 ∧ s21 = .int .i64 r0 ∧ w = wx)
  case first =>
    rcases HC.out with ⟨hmm, hmm', hcs, hcr⟩ | ⟨hmm, hmm', hcs, hcr⟩
    · clear HC
      go_wp2_with fail
      go_meet
      refine ⟨?_, ?_, rfl⟩
      · have h := hcs.out; congr 1; omega
      · have h := hcr.out; congr 1; omega
    · clear HC
      go_wp2_with fail
      go_meet
      refine ⟨?_, ?_, rfl⟩
      · have h := hcs.out; congr 1; omega
      · have h := hcr.out; congr 1; omega
  clear HC
  obtain ⟨rfl, rfl, rfl⟩ := hcut
  go_wp2_with fail
  go_loopw [20, 21] (fun iv jv wr => ∃ (s r : Nat), iv = .int .i64 s ∧ jv = .int .i64 r ∧ s0 ≤ s ∧ s ≤ r ∧ r ≤ r0 ∧ 
    Hid (s = s0 ∨ ∀ x y, A[s - 1 - a]? = some x → B[mid - s]? = some y → leO x y) ∧ Hid (r = r0 ∨ ∀ x y, A[r - a]? = some x → B[mid - 1 - r]? = some y → leO y x) ∧ RowO wr g (X ++ (A ++ (B ++ Y))) rest ∧ w.grownBy wr (some g)) (fun i j _ => (intOf j).toNat - (intOf i).toNat)
  case atStart =>
    exact ⟨s0, r0, rfl, rfl, by omega, by omega, by omega, .inl rfl, .inl rfl, hr, grown_refl _ _⟩
  case round =>
    obtain ⟨s, r, rfl, rfl, hss, hsr, hrr0, HS, HR, hrr, hgr⟩ := hrel
    by_cases hlt : s < r
    · obtain ⟨h, hh⟩ : ∃ h, h = (s + r) / 2 := ⟨_, rfl⟩
      have hhi : s ≤ h := by omega
      have hhj : h < r := by omega
      have hmid2 : ((s : Int) + r) / 2 = (h : Int) := by omega
      clear hh
      obtain ⟨q, hq⟩ : ∃ q, q = mid + m - 1 - h := ⟨_, rfl⟩
      have hpc : (mid : Int) + m - 1 - h = (q : Int) := by omega
      have hq1 : m ≤ q := by omega
      have hq2 : q < b := by omega
      have HQ := hide hq
      clear hq
      obtain ⟨⟨yt, yl⟩, hy⟩ : ∃ y, A[h - a]? = some y := ⟨A[h - a]'(by have := hm.out; omega), List.getElem?_eq_getElem _⟩
      obtain ⟨⟨xt, xl⟩, hx⟩ : ∃ x, B[q - m]? = some x := ⟨B[q - m]'(by have := hb.out; omega), List.getElem?_eq_getElem _⟩
      have hyd : (X ++ (A ++ (B ++ Y)))[h]? = some ⟨yt, yl⟩ := by
        have h1 := get_in X A (B ++ Y) hy
        rw [show X.length + (h - a) = h from by have := ha.out; omega] at h1
        exact h1
      have hxd : (X ++ (A ++ (B ++ Y)))[q]? = some ⟨xt, xl⟩ := by
        have h1 := get_in (X ++ A) B Y hx
        rw [List.append_assoc, show (X ++ A).length + (q - m) = q from by have := ha.out; have := hm.out; simp; omega] at h1
        exact h1
      obtain ⟨cy0, cy1⟩ := hrr.cells hyd
      obtain ⟨cx0, cx1⟩ := hrr.cells hxd
      have hkw := hide ((hk.grown hne hgr).grown hne (grown_drew (grown_refl wr (some g))))
      have HY := hide hy
      have HX := hide hx
      clear hyd hxd hy hx
      have b1 : 0 ≤ (h : Int) := by omega
      have b2 : (h : Int) < (n : Int) := by omega
      have b3 : 0 ≤ (q : Int) := by omega
      have b4 : (q : Int) < (n : Int) := by omega
      have b5 : IntKind.i64.wrap (q : Int) = (q : Int) := IntWalk.i64_in _ (by omega)
      by_cases hle : leO ⟨yt, yl⟩ ⟨xt, xl⟩
      · have hcm : 0 ≤ cmpO ⟨xt, xl⟩ ⟨yt, yl⟩ := by have := (cmpO_neg (a := ⟨xt, xl⟩) (b := ⟨yt, yl⟩)); simp only [hle, not_true, iff_false] at this; omega
        have hcd : decide (cmpO ⟨xt, xl⟩ ⟨yt, yl⟩ < 0) = false := by simp; omega
        have HLE := hide hle
        clear hle
        go_wp2_with fail
        go_still_tail 11, (by kernel_rfl)
        change wpList _ _ _ _ _ wr.drew
        clear b1 b2 b3 b4 b5
        go_wp2_with fail
        refine (cmpO_any xt xl yt yl kb ka wr.drew hkw).mono ?_
        rintro e2 w2 ⟨rfl, hb2⟩
        go_wp2_with fail
        go_roundw
        case rel =>
          refine ⟨h + 1, r, by go_num, rfl, by omega, by omega, by omega, .inr fun x y hx hy => ?_, HR, RowO.below (w := wr.drew) hrr hb2, grown_below (grown_drew hgr) hb2⟩
          have h3 := HQ.out
          rw [show h + 1 - 1 - a = h - a from by omega, HY.out] at hx
          rw [show mid - (h + 1) = q - m from by omega, HX.out] at hy
          injection hx with hx
          injection hy with hy
          subst hx hy
          exact HLE.out
        case measure => simp [intOf]; omega
      · have hcm : cmpO ⟨xt, xl⟩ ⟨yt, yl⟩ < 0 := cmpO_neg.2 hle
        have HLE := hide hle
        clear hle
        go_wp2_with fail
        go_still_tail 11, (by kernel_rfl)
        change wpList _ _ _ _ _ wr.drew
        clear b1 b2 b3 b4 b5
        go_wp2_with fail
        refine (cmpO_any xt xl yt yl kb ka wr.drew hkw).mono ?_
        rintro e2 w2 ⟨rfl, hb2⟩
        go_wp2_with fail
        go_roundw
        case rel =>
          refine ⟨s, h, rfl, by go_num, by omega, by omega, by omega, HS, .inr fun x y hx hy => ?_, RowO.below (w := wr.drew) hrr hb2, grown_below (grown_drew hgr) hb2⟩
          have h3 := HQ.out
          rw [HY.out] at hx
          rw [show mid - 1 - h = q - m from by omega, HX.out] at hy
          injection hx with hx
          injection hy with hy
          subst hx hy
          exact (leO_total _ _).resolve_left HLE.out
        case measure => simp [intOf]; omega
    · have hij2 : r = s := by omega
      subst hij2
      clear hlt hsr
      obtain ⟨A1, A2, rfl, HA1⟩ : ∃ A1 A2, A = A1 ++ A2 ∧ Hid (r = a + A1.length) := ⟨A.take (r - a), A.drop (r - a), (List.take_append_drop _ _).symm, by have := hm.out; show _ = _; simp; omega⟩
      obtain ⟨B1, B2, rfl, HB1⟩ : ∃ B1 B2, B = B1 ++ B2 ∧ Hid (mid = r + B1.length) := ⟨B.take (mid - r), B.drop (mid - r), (List.take_append_drop _ _).symm, by have := hb.out; show _ = _; simp; omega⟩
      have HAL : Hid (m = r + A2.length) := by have h1 := hm.out; have h2 := HA1.out; show _ = _; simp at h1; omega
      have HBL : Hid (b = m + B1.length + B2.length) := by have h1 := hb.out; show _ = _; simp at h1; omega
      have HMG : Hid (isort (A1 ++ B1) ++ isort (A2 ++ B2) = isort ((A1 ++ A2) ++ (B1 ++ B2))) := by
        have e1 := HA1.out
        have e2 := HB1.out
        have e3 := HAL.out
        have e4 := HBL.out
        have e5 := hends.out
        refine merge_parts hA.out hB.out ?_ ?_
        · intro x y hx hy
          have n1 : A1 ≠ [] := by rintro rfl; simp at hx
          have n2 : B2 ≠ [] := by rintro rfl; simp at hy
          have n1 := List.length_pos_iff.2 n1
          have n2 := List.length_pos_iff.2 n2
          rcases HS.out with h | h
          · omega
          · refine h x y ?_ ?_
            · rw [List.getElem?_append_left (by omega), show r - 1 - a = A1.length - 1 from by omega, ← List.getLast?_eq_getElem?]
              exact hx
            · rw [List.getElem?_append_right (by omega), show mid - r - B1.length = 0 from by omega, ← List.head?_eq_getElem?]
              exact hy
        · intro x y hx hy
          have n1 : B1 ≠ [] := by rintro rfl; simp at hx
          have n2 : A2 ≠ [] := by rintro rfl; simp at hy
          have n1 := List.length_pos_iff.2 n1
          have n2 := List.length_pos_iff.2 n2
          rcases HR.out with h | h
          · omega
          · refine h y x ?_ ?_
            · rw [List.getElem?_append_right (by omega), show r - a - A1.length = 0 from by omega, ← List.head?_eq_getElem?]
              exact hy
            · rw [List.getElem?_append_left (by omega), show mid - 1 - r = B1.length - 1 from by omega, ← List.getLast?_eq_getElem?]
              exact hx
      clear HS HR hends hss hrr0 hs1 hs2 hs3 hs4 hs5
      obtain ⟨t, ht⟩ : ∃ t, t = m + B1.length := ⟨_, rfl⟩
      have htt : (mid : Int) + m - r = (t : Int) := by have := HB1.out; omega
      have HTT := hide ht
      clear ht
      have ROT : Hid (r < m → m < t → Calls Tryz.prog 180 #[.slice (some ⟨g, 0, none⟩) n c, .int .i64 r, .int .i64 m, .int .i64 t, .func (.func 170) #[] #[.pointer (some ⟨kb, 0, none⟩)]] wr fun e w' =>
          e = .returned (.tuple #[]) ∧ R1 w g X A1 A2 B1 B2 Y rest w') := by
        intro c1 c2
        refine (rotate_any (X ++ A1) A2 B1 (B2 ++ Y) rest g kb n c r m t wr ?_ ?_ ?_ ?_ ?_ ?_ ?_ hlen).mono ?_
        · simpa using hrr
        · have h := hn.out; show _ = _; simp at h ⊢; omega
        · have h1 := HA1.out; have h2 := ha.out; show _ = _; simp; omega
        · have h1 := HA1.out; have h2 := ha.out; have h3 := HAL.out; show _ = _; simp; omega
        · have h1 := HA1.out; have h2 := ha.out; have h3 := HAL.out; have h4 := HTT.out; show _ = _; simp; omega
        · rintro rfl; have h3 := HAL.out; simp at h3; omega
        · rintro rfl; have h3 := HTT.out; simp at h3; omega
        · rintro e w' ⟨rfl, h1, h2⟩
          exact ⟨rfl, by simpa using h1, grown_trans hgr h2⟩
      have ROT0 : Hid (¬ (r < m ∧ m < t) → R1 w g X A1 A2 B1 B2 Y rest wr) := by
        intro hx
        refine ⟨?_, hgr⟩
        have h3 := HAL.out
        have h4 := HTT.out
        by_cases c1 : r < m
        · have h0 : B1 = [] := List.eq_nil_of_length_eq_zero (by omega)
          subst h0
          simpa using hrr
        · have h0 : A2 = [] := List.eq_nil_of_length_eq_zero (by omega)
          subst h0
          simpa using hrr
      have LEFT : Hid (∀ wx, a < r → r < mid → R1 w g X A1 A2 B1 B2 Y rest wx → Calls Tryz.prog 179 #[.slice (some ⟨g, 0, none⟩) n c, .int .i64 a, .int .i64 r, .int .i64 mid, .func (.func 170) #[] #[.pointer (some ⟨kb, 0, none⟩)]] wx fun e w' =>
          e = .returned (.tuple #[]) ∧ R2 w g X A1 A2 B1 B2 Y rest w') := by
        intro wx c1 c2 hx
        have h1 := HA1.out; have h2 := ha.out; have h3 := HAL.out; have h4 := HBL.out; have h5 := HB1.out; have h6 := HMID.out; have h7 := hL.out; have h8 := hA1.out; have h9 := hB1.out
        refine (IH.out X A1 B1 (A2 ++ (B2 ++ Y)) rest g kb ka n c a r mid wx hx.1 (hk.grown hne hx.2) ?_ ?_ ?_ ?_ ?_ ?_ ?_ ?_ ?_ hlen).mono ?_
        · have h := hn.out; show _ = _; simp at h ⊢; omega
        · show _ = _; omega
        · show _ = _; omega
        · show _ = _; omega
        · rintro rfl; simp at h1; omega
        · rintro rfl; simp at h5; omega
        · exact srt_left hA.out
        · exact srt_left hB.out
        · show _ ≤ _; simp at h7 h8 h9; omega
        · rintro e w' ⟨rfl, h1, h2⟩
          exact ⟨rfl, h1, grown_trans hx.2 h2⟩
      have LEFT0 : Hid (∀ wx, ¬ (a < r ∧ r < mid) → R1 w g X A1 A2 B1 B2 Y rest wx → R2 w g X A1 A2 B1 B2 Y rest wx) := by
        rintro wx hx ⟨h1, h2⟩
        refine ⟨?_, h2⟩
        have h3 := HA1.out
        have h4 := HB1.out
        by_cases c1 : a < r
        · have h0 : B1 = [] := List.eq_nil_of_length_eq_zero (by omega)
          subst h0
          rw [List.append_nil, isort_id (srt_left hA.out)]
          simpa using h1
        · have h0 : A1 = [] := List.eq_nil_of_length_eq_zero (by omega)
          subst h0
          rw [List.nil_append, isort_id (srt_left hB.out)]
          simpa using h1
      have RIGHT : Hid (∀ wx, mid < t → t < b → R2 w g X A1 A2 B1 B2 Y rest wx → Calls Tryz.prog 179 #[.slice (some ⟨g, 0, none⟩) n c, .int .i64 mid, .int .i64 t, .int .i64 b, .func (.func 170) #[] #[.pointer (some ⟨kb, 0, none⟩)]] wx fun e w' =>
          e = .returned (.tuple #[]) ∧ R3 w g X A1 A2 B1 B2 Y rest w') := by
        intro wx c1 c2 hx
        have h1 := HA1.out; have h2 := ha.out; have h3 := HAL.out; have h4 := HBL.out; have h5 := HB1.out; have h6 := HMID.out; have h7 := hL.out; have h8 := hA1.out; have h9 := hB1.out; have h10 := HTT.out
        refine (IH.out (X ++ isort (A1 ++ B1)) A2 B2 Y rest g kb ka n c mid t b wx (by simpa using hx.1) (hk.grown hne hx.2) ?_ ?_ ?_ ?_ ?_ ?_ ?_ ?_ ?_ hlen).mono ?_
        · have h := hn.out; show _ = _; simp [isort_length] at h ⊢; omega
        · show _ = _; simp [isort_length]; omega
        · show _ = _; simp [isort_length]; omega
        · show _ = _; simp [isort_length]; omega
        · rintro rfl; simp at h3; omega
        · rintro rfl; simp at h4; omega
        · exact srt_right hA.out
        · exact srt_right hB.out
        · show _ ≤ _; simp at h7 h8 h9; omega
        · rintro e w' ⟨rfl, h1, h2⟩
          exact ⟨rfl, by simpa using h1, grown_trans hx.2 h2⟩
      have RIGHT0 : Hid (∀ wx, ¬ (mid < t ∧ t < b) → R2 w g X A1 A2 B1 B2 Y rest wx → R3 w g X A1 A2 B1 B2 Y rest wx) := by
        rintro wx hx ⟨h1, h2⟩
        refine ⟨?_, h2⟩
        have h3 := HAL.out
        have h4 := HBL.out
        have h5 := HB1.out
        have h6 := HTT.out
        by_cases c1 : mid < t
        · have h0 : B2 = [] := List.eq_nil_of_length_eq_zero (by omega)
          subst h0
          rw [List.append_nil, isort_id (srt_right hA.out)]
          simpa using h1
        · have h0 : A2 = [] := List.eq_nil_of_length_eq_zero (by omega)
          subst h0
          rw [List.nil_append, isort_id (srt_right hB.out)]
          simpa using h1
      have DONE : Hid (∀ wx, R3 w g X A1 A2 B1 B2 Y rest wx → RowO wx g (X ++ (isort ((A1 ++ A2) ++ (B1 ++ B2)) ++ Y)) rest ∧ w.grownBy wx (some g)) := by
        rintro wx ⟨h1, h2⟩
        refine ⟨?_, h2⟩
        rw [← HMG.out]
        simpa using h1
      have e5 : r < mid ↔ m < t := by have h1 := HB1.out; have h2 := HTT.out; omega
      have e6 : mid < t ↔ r < m := by have h1 := HB1.out; have h2 := HTT.out; have h3 := HAL.out; omega
      have E5 := hide e5
      have E6 := hide e6
      clear e5 e6 HMG hk hr hn
      obtain ⟨c1, c1'⟩ | ⟨c1, c1'⟩ : (r < m ∧ mid < t) ∨ (¬ r < m ∧ ¬ mid < t) := by have := E6.out; omega
      all_goals obtain ⟨c2, c2'⟩ | ⟨c2, c2'⟩ : (m < t ∧ r < mid) ∨ (¬ m < t ∧ ¬ r < mid) := by have := E5.out; omega
      · by_cases c3 : a < r
        · by_cases c4 : t < b
          · go_wp2_with fail
            refine (ROT.out c1 c2).mono ?_
            rintro e w1 ⟨rfl, h1⟩
            go_wp2_with fail
            refine (LEFT.out _ c3 c2' h1).mono ?_
            rintro e w2 ⟨rfl, h2⟩
            go_wp2_with fail
            refine (RIGHT.out _ c1' c4 h2).mono ?_
            rintro e w3 ⟨rfl, h3⟩
            go_wp2_with fail
            go_end0
            exact ⟨rfl, DONE.out _ h3⟩
          · go_wp2_with fail
            refine (ROT.out c1 c2).mono ?_
            rintro e w1 ⟨rfl, h1⟩
            go_wp2_with fail
            refine (LEFT.out _ c3 c2' h1).mono ?_
            rintro e w2 ⟨rfl, h2⟩
            go_wp2_with fail
            go_end0
            exact ⟨rfl, DONE.out _ (RIGHT0.out _ (by omega) h2)⟩
        · by_cases c4 : t < b
          · go_wp2_with fail
            refine (ROT.out c1 c2).mono ?_
            rintro e w1 ⟨rfl, h1⟩
            go_wp2_with fail
            refine (RIGHT.out _ c1' c4 (LEFT0.out _ (by omega) h1)).mono ?_
            rintro e w3 ⟨rfl, h3⟩
            go_wp2_with fail
            go_end0
            exact ⟨rfl, DONE.out _ h3⟩
          · go_wp2_with fail
            refine (ROT.out c1 c2).mono ?_
            rintro e w1 ⟨rfl, h1⟩
            go_wp2_with fail
            go_end0
            exact ⟨rfl, DONE.out _ (RIGHT0.out _ (by omega) (LEFT0.out _ (by omega) h1))⟩
      · have h1 := ROT0.out (by omega)
        have h2 := LEFT0.out _ (by omega) h1
        by_cases c4 : t < b
        · go_wp2_with fail
          refine (RIGHT.out _ c1' c4 h2).mono ?_
          rintro e w3 ⟨rfl, h3⟩
          go_wp2_with fail
          go_end0
          exact ⟨rfl, DONE.out _ h3⟩
        · exfalso; omega
      · have h1 := ROT0.out (by omega)
        by_cases c3 : a < r
        · go_wp2_with fail
          refine (LEFT.out _ c3 c2' h1).mono ?_
          rintro e w3 ⟨rfl, h2⟩
          go_wp2_with fail
          go_end0
          exact ⟨rfl, DONE.out _ (RIGHT0.out _ (by omega) h2)⟩
        · first
            | (exfalso; omega)
            | (go_wp2_with fail
               go_end0
               exact ⟨rfl, DONE.out _ (RIGHT0.out _ (by omega) (LEFT0.out _ (by omega) h1))⟩)
      · have h1 := ROT0.out (by omega)
        have h2 := LEFT0.out _ (by omega) h1
        go_wp2_with fail
        go_end0
        exact ⟨rfl, DONE.out _ (RIGHT0.out _ (by omega) h2)⟩

theorem sym_any : ∀ L, SymUpto L
  | 0 => by
    intro X A B Y rest g kb ka n c P Q E w hr hk hn hP hQ hE hA hB hsA hsB hL hlen
    have h1 := List.length_pos_iff.2 hA.out
    have h2 := hL.out
    omega
  | L + 1 => by
    intro X A B Y rest g kb ka n c P Q E w hr hk hn hP hQ hE hA hB hsA hsB hL hlen
    have hA0 := List.length_pos_iff.2 hA.out
    have hB0 := List.length_pos_iff.2 hB.out
    have h1 := hP.out
    have h2 := hQ.out
    have h3 := hE.out
    subst h1 h2 h3
    rw [show (X.length : Int) + A.length = ((X.length + A.length : Nat) : Int) from by omega, show ((X.length + A.length : Nat) : Int) + B.length = ((X.length + A.length + B.length : Nat) : Int) from by omega]
    by_cases a1 : A.length = 1
    · obtain ⟨⟨xt, xl⟩, rfl⟩ := List.length_eq_one_iff.1 a1
      exact sym_left X B Y xt xl rest g kb ka n _ _ _ c w hr hk hn rfl rfl rfl hsB hlen
    · by_cases b1 : B.length = 1
      · obtain ⟨⟨xt, xl⟩, rfl⟩ := List.length_eq_one_iff.1 b1
        exact sym_right X A Y xt xl rest g kb ka n _ _ _ c w hr hk hn rfl rfl rfl hsA a1 hlen
      · exact sym_gen (sym_any L) X A B Y rest g kb ka n _ _ _ c w hr hk hn rfl rfl rfl hsA hsB (by show _ ≤ _; omega) (by show _ ≤ _; omega) hL hlen

end Go.Proofs.YtnigfddanoaonaaGreat

set_option linter.unusedVariables false
namespace Go.Proofs.YtnigfddanoaonaaGreat
open Go.RowKit

inductive Bk (s : Nat) : List Out → Prop
  | last (l : List Out) : Srt l → l.length ≤ s → Bk s l
  | cons (l r : List Out) : Srt l → l.length = s → Bk s r → Bk s (l ++ r)
inductive Full (s : Nat) : List Out → Prop
  | nil : Full s []
  | snoc (D l : List Out) : Full s D → Srt l → l.length = s → Full s (D ++ l)
theorem Full.bk {s : Nat} {D : List Out} (h : Full s D) : ∀ {R : List Out}, Bk s R → Bk s (D ++ R) := by
  induction h with
  | nil => intro R hR; exact hR
  | snoc D l _ hs hl ih =>
    intro R hR
    rw [List.append_assoc]
    exact ih (Bk.cons l R hs hl hR)
theorem Bk.split {s : Nat} {R : List Out} (h : Bk s R) (hs : s ≤ R.length) : ∃ l r, R = l ++ r ∧ Srt l ∧ l.length = s ∧ Bk s r := by
  cases h with
  | last _ h1 h2 => exact ⟨R, [], by simp, h1, by omega, Bk.last [] List.Pairwise.nil (by simp)⟩
  | cons l r h1 h2 h3 => exact ⟨l, r, rfl, h1, h2, h3⟩
theorem Bk.small {s : Nat} {R : List Out} (h : Bk s R) (hs : R.length ≤ s) : Srt R := by
  cases h with
  | last _ h1 h2 => exact h1
  | cons l r h1 h2 h3 =>
    have : r = [] := List.eq_nil_of_length_eq_zero (by simp at hs; omega)
    subst this
    simpa using h1

theorem sym_int (X A B Y : List Out) (rest : List Value) (g kb ka n c : Nat) (P Q E : Int) (w : World) (hr : RowO w g (X ++ (A ++ (B ++ Y))) rest) (hk : Keys w kb ka) (hn : Hid (n = (X ++ (A ++ (B ++ Y))).length)) (hP : Hid (P = X.length)) (hQ : Hid (Q = X.length + A.length)) (hE : Hid (E = X.length + A.length + B.length)) (hA : A ≠ []) (hB : B ≠ []) (hsA : Srt A) (hsB : Srt B) (hlen : n ≤ 1000000000000000) :
    Calls Tryz.prog 179 #[.slice (some ⟨g, 0, none⟩) n c, .int .i64 P, .int .i64 Q, .int .i64 E, .func (.func 170) #[] #[.pointer (some ⟨kb, 0, none⟩)]] w fun e w' =>
      e = .returned (.tuple #[]) ∧ RowO w' g (X ++ (isort (A ++ B) ++ Y)) rest ∧ w.grownBy w' (some g) :=
  sym_any _ X A B Y rest g kb ka n c P Q E w hr hk hn hP hQ hE hA hB hsA hsB (Nat.le_refl _) hlen

set_option maxRecDepth 100000 in
set_option maxHeartbeats 4000000 in
theorem stable_any : StableUpto 1000000000000 := by
  intro d rest g kb ka c w hr hk hd
  have hne := hk.ne hr
  obtain ⟨n, hn⟩ : ∃ n, n = d.length := ⟨_, rfl⟩
  rw [← hn] at hd ⊢
  have HN := hide hn
  clear hn
  go_enter Tryz.func177, Tryz.ntmps177
  go_wp2_with fail
  go_loopw [7, 8] (fun av bv wr => ∃ (a : Nat) (D R : List Out), av = .int .i64 a ∧ bv = .int .i64 (a + 20 : Nat) ∧ a ≤ n ∧ Hid (a = D.length) ∧ Hid (n = (D ++ R).length) ∧ Hid (Full 20 D) ∧ Hid ((D ++ R).Perm d) ∧ RowO wr g (D ++ R) rest ∧ w.grownBy wr (some g)) (fun i _ _ => n - (intOf i).toNat)
  case atStart => exact ⟨0, [], d, rfl, rfl, by omega, rfl, HN, Full.nil, List.Perm.refl _, hr, grown_refl _ _⟩
  case round =>
    obtain ⟨a, D, R, rfl, rfl, han, HA, HL, HF, HP, hrr, hgr⟩ := hrel
    by_cases hlt : a + 20 ≤ n
    · obtain ⟨M, R, rfl, HM⟩ : ∃ M R', R = M ++ R' ∧ Hid (M.length = 20) := ⟨R.take 20, R.drop 20, (List.take_append_drop _ _).symm, by have h1 := HA.out; have h2 := HL.out; show _ = _; simp at h2 ⊢; omega⟩
      go_wp2_with fail
      refine (insSort_int D M R rest g kb ka n c a _ wr hrr (hk.grown hne hgr) HL (by show _ = _; rw [HA.out]) (by show _ = _; have h1 := HA.out; have h2 := HM.out; omega) (by omega)).mono ?_
      rintro e w2 ⟨rfl, hr2, hg2⟩
      go_wp2_with fail
      go_roundw
      case rel =>
        have h2 := HM.out
        refine ⟨a + 20, D ++ isort M, R, by go_num, by go_num, by omega, ?_, ?_, Full.snoc _ _ HF.out (isort_srt _) (by rw [isort_length]; exact h2), ?_, by simpa using hr2, grown_trans hgr hg2⟩
        · have h1 := HA.out; show _ = _; simp [isort_length]; omega
        · have h1 := HL.out; show _ = _; simp [isort_length] at h1 ⊢; omega
        · refine List.Perm.trans ?_ HP.out
          rw [List.append_assoc]
          exact List.Perm.append_left D (List.Perm.append_right R (isort_perm M))
      case measure => simp [intOf]; omega
    · go_wp2_with fail
      refine (insSort_int D R [] rest g kb ka n c a n wr (by simpa using hrr) (hk.grown hne hgr) (by simpa using HL) (by show _ = _; rw [HA.out]) (by show _ = _; have h1 := HA.out; have h2 := HL.out; simp at h2; omega) (by omega)).mono ?_
      rintro e w2 ⟨rfl, hr2, hg2⟩
      have hg3 := grown_trans hgr hg2
      have HB : Hid (Bk 20 (D ++ isort R)) := HF.out.bk (Bk.last _ (isort_srt _) (by rw [isort_length]; have h1 := HA.out; have h2 := HL.out; simp at h2; omega))
      have HP2 : Hid ((D ++ isort R).Perm d) := (List.Perm.append_left D (isort_perm R)).trans HP.out
      have hr3 : RowO w2 g (D ++ isort R) rest := by simpa using hr2
      clear hr2 hg2 hrr hgr HA HL HF HP hlt han hr
      go_wp2_with fail
      obtain ⟨wo, rfl⟩ : ∃ wo : World, wo = w2 := ⟨_, rfl⟩
      go_loopw [6] (fun sv wr => ∃ (s : Nat) (D : List Out), sv = .int .i64 s ∧ 20 ≤ s ∧ s ≤ 2000000000020 ∧ Hid (Bk s D) ∧ Hid (D.Perm d) ∧ RowO wr g D rest ∧ w.grownBy wr (some g)) (fun i _ => n - (intOf i).toNat)
      case atStart => exact ⟨20, _, rfl, by omega, by omega, HB, HP2, hr3, hg3⟩
      case round =>
        obtain ⟨s, D, rfl, hs1, hs2, HBK, HPD, hrs, hgs⟩ := hrel
        by_cases hsn : s < n
        · go_wp2_with fail
          obtain ⟨wo, rfl⟩ : ∃ wo : World, wo = wr := ⟨_, rfl⟩
          go_loopw [7, 8] (fun av bv wr => ∃ (a : Nat) (D R : List Out), av = .int .i64 a ∧ bv = .int .i64 (a + 2 * s : Nat) ∧ a ≤ n ∧ Hid (a = D.length) ∧ Hid (n = (D ++ R).length) ∧ Hid (Full (2 * s) D) ∧ Hid (Bk s R) ∧ Hid ((D ++ R).Perm d) ∧ RowO wr g (D ++ R) rest ∧ w.grownBy wr (some g)) (fun i _ _ => n - (intOf i).toNat)
          case atStart =>
            refine ⟨0, [], D, rfl, by go_num, by omega, rfl, ?_, Full.nil, HBK, HPD, hrs, hgs⟩
            have h1 := HPD.out.length_eq; have h2 := HN.out; show _ = _; simp; omega
          case round =>
            obtain ⟨a, D1, R, rfl, rfl, han, HA, HL, HF, HBR, HP, hrr, hgr⟩ := hrel
            by_cases hlt : a + 2 * s ≤ n
            · have hRl : 2 * s ≤ R.length := by have h1 := HA.out; have h2 := HL.out; simp at h2; omega
              obtain ⟨l1, r1, h1, hl1, hn1, hb1⟩ := HBR.out.split (by omega)
              obtain ⟨l2, R', h2, hl2, hn2, hb2⟩ := hb1.split (by rw [h1] at hRl; simp at hRl; omega)
              subst h2
              subst h1
              have HBR' := hide hb2
              have Hl1 := hide hl1
              have Hl2 := hide hl2
              have Hn1 := hide hn1
              have Hn2 := hide hn2
              clear hb1 hb2 hl1 hl2 hn1 hn2 hRl
              go_wp2_with fail
              refine (sym_int D1 l1 l2 R' rest g kb ka n c a _ _ wr hrr (hk.grown hne hgr) HL (by show _ = _; rw [HA.out]) (by show _ = _; have h1 := HA.out; have h2 := Hn1.out; omega) (by show _ = _; have h1 := HA.out; have h2 := Hn1.out; have h3 := Hn2.out; omega) (by have h2 := Hn1.out; rintro rfl; simp at h2; omega) (by have h2 := Hn2.out; rintro rfl; simp at h2; omega) Hl1.out Hl2.out (by omega)).mono ?_
              rintro e w2 ⟨rfl, hr2, hg2⟩
              go_wp2_with fail
              go_roundw
              case rel =>
                have h2 := Hn1.out
                have h3 := Hn2.out
                refine ⟨a + 2 * s, D1 ++ isort (l1 ++ l2), R', by go_num, by go_num, by omega, ?_, ?_, Full.snoc _ _ HF.out (isort_srt _) (by rw [isort_length]; simp; omega), HBR', ?_, by simpa using hr2, grown_trans hgr hg2⟩
                · have h1 := HA.out; show _ = _; simp [isort_length]; omega
                · have h1 := HL.out; show _ = _; simp [isort_length] at h1 ⊢; omega
                · refine List.Perm.trans ?_ HP.out
                  rw [List.append_assoc, show l1 ++ (l2 ++ R') = (l1 ++ l2) ++ R' from by simp]
                  exact List.Perm.append_left D1 (List.Perm.append_right R' (isort_perm _))
              case measure => simp [intOf]; omega
            · by_cases hm : a + s < n
              · have hRl : s < R.length := by have h1 := HA.out; have h2 := HL.out; simp at h2; omega
                obtain ⟨l1, l2, h1, hl1, hn1, hb1⟩ := HBR.out.split (by omega)
                subst h1
                have Hl1 := hide hl1
                have Hl2 := hide (hb1.small (by have h1 := HA.out; have h2 := HL.out; simp at h2; omega))
                have Hn1 := hide hn1
                have Hn2 : Hid (l2 ≠ []) := by rintro rfl; simp at hRl; omega
                clear hb1 hl1 hn1 hRl
                go_wp2_with fail
                refine (sym_int D1 l1 l2 [] rest g kb ka n c a _ n wr (by simpa using hrr) (hk.grown hne hgr) (by simpa using HL) (by show _ = _; rw [HA.out]) (by show _ = _; have h1 := HA.out; have h2 := Hn1.out; omega) (by show _ = _; have h1 := HA.out; have h2 := HL.out; simp at h2; omega) (by have h2 := Hn1.out; rintro rfl; simp at h2; omega) Hn2.out Hl1.out Hl2.out (by omega)).mono ?_
                rintro e w2 ⟨rfl, hr2, hg2⟩
                go_wp2_with fail
                go_roundw
                case rel =>
                  refine ⟨s * 2, D1 ++ isort (l1 ++ l2), by go_num, by omega, by omega, ?_, ?_, by simpa using hr2, grown_trans hgr hg2⟩
                  · have := HF.out.bk (Bk.last (s := 2 * s) _ (isort_srt (l1 ++ l2)) (by rw [isort_length]; have h1 := HA.out; have h2 := HL.out; simp at h2 ⊢; omega))
                    rw [Nat.mul_comm] at this
                    exact this
                  · exact (List.Perm.append_left D1 (isort_perm _)).trans HP.out
                case measure => simp [intOf]; omega
              · go_wp2_with fail
                go_roundw
                case rel =>
                  refine ⟨s * 2, D1 ++ R, by go_num, by omega, by omega, ?_, HP, hrr, hgr⟩
                  have h0 : R.length ≤ s := by have h1 := HA.out; have h2 := HL.out; simp at h2; omega
                  have := HF.out.bk (Bk.last (s := 2 * s) R (HBR.out.small h0) (by omega))
                  rw [Nat.mul_comm] at this
                  exact this
                case measure => simp [intOf]; omega
        · go_wp2_with fail
          go_end0
          refine ⟨rfl, ?_, hgs⟩
          have h1 := HPD.out
          rw [← isort_of (HBK.out.small (by have h2 := h1.length_eq; have h3 := HN.out; omega)) h1]
          exact hrs

theorem sorted_any : SortedUpto 1000000000000 := sorted_of stable_any (by omega)

end Go.Proofs.YtnigfddanoaonaaGreat

set_option linter.unusedVariables false
namespace Go.Proofs.YtnigfddanoaonaaGreat
open Go.RowKit

def vertexRs : List (List Rul) := [[⟨1, []⟩], [⟨0, [⟨1, 0⟩, ⟨2, 0⟩]⟩]]
def rotorRs : List (List Rul) := [[⟨1, [⟨1, 0⟩]⟩], [⟨0, [⟨2, 0⟩]⟩]]
def setterRs : List (List Rul) := [[⟨0, []⟩, ⟨1, []⟩], [⟨0, []⟩, ⟨1, []⟩]]
def PrcPost (w : World) (S L : Int) (rs : List (List Rul)) (e : Ending) (w' : World) : Prop :=
  ∃ oa c, e = .returned (.agg #[.int .i64 S, .int .i64 L, .slice oa rs.length c]) ∧ rs.length ≤ c ∧ SliceR (slcR ruleR 2) 1 All w' oa rs ∧ Below w.heap.size w w'

end Go.Proofs.YtnigfddanoaonaaGreat

set_option linter.unusedVariables false
namespace Go.Proofs.YtnigfddanoaonaaGreat
open Go.RowKit

end Go.Proofs.YtnigfddanoaonaaGreat

set_option linter.unusedVariables false
namespace Go.Proofs.YtnigfddanoaonaaGreat
open Go.RowKit

theorem OwnS.bound {α : Type} {R : Rep α} {sz base : Nat} {e : TypeId} {F : Foot} {w : World} {v : Value} {xs : List α} (h : OwnS R sz base e F w v xs) : xs.length ≤ 9223372036854775807 := by
  obtain ⟨cells, ho, _⟩ := h
  rcases ho.2 with ⟨_, hn⟩ | ⟨g, cap, cur, _, _, _, hle, hm, _⟩
  · omega
  · unfold maxLen at hm; omega

end Go.Proofs.YtnigfddanoaonaaGreat

set_option linter.unusedVariables false
namespace Go.Proofs.YtnigfddanoaonaaGreat
open Go.RowKit

def commRes (p : Prc) (s a b : Int) : Bool × Int :=
  if stateErr p s = 0 then (if belowB a p.letters && belowB b p.letters then (commB p.rules s a b, 0) else (false, 2)) else (false, stateErr p s)
def BoolPost (w : World) (r : Bool × Int) (e : Ending) (w' : World) : Prop :=
  e = .returned (.tuple #[.bool r.1, .int .i64 r.2]) ∧ Below w.heap.size w w'
end Go.Proofs.YtnigfddanoaonaaGreat

set_option linter.unusedVariables false
namespace Go.Proofs.YtnigfddanoaonaaGreat
open Go.RowKit

def RightP (S L s : Int) (rs : List (List Rul)) (word : List Int) : Prop := checkErr ⟨S, L, rs⟩ 12 = 0 ∧ (0 ≤ s ∧ s < S) ∧ word.length ≤ 40 ∧ lettersErr L word = 0

end Go.Proofs.YtnigfddanoaonaaGreat

set_option linter.unusedVariables false
namespace Go.Proofs.YtnigfddanoaonaaGreat
open Go.RowKit

def OutsMade (w : World) (r : List Out) (e : Ending) (w' : World) : Prop :=
  ∃ v, e = .returned v ∧ OwnS outR 2 w.heap.size 102 Non w' v r ∧ Below w.heap.size w w'

def sumLen (l : List (List Out)) : Nat := (l.map List.length).sum

end Go.Proofs.YtnigfddanoaonaaGreat

set_option linter.unusedVariables false
namespace Go.Proofs.YtnigfddanoaonaaGreat
open Go.RowKit

theorem readSpec_app (rs : List (List Rul)) : ∀ (a b : List Int) (s : Int), readSpec rs s (a ++ b) = ((readSpec rs (readSpec rs s a).1 b).1, (readSpec rs s a).2 ++ (readSpec rs (readSpec rs s a).1 b).2)
  | [], b, s => by simp [readSpec]
  | x :: a, b, s => by
    have h := readSpec_app rs a b (ruleAt rs s x).next
    simp only [List.cons_append, readSpec]
    rw [h]
    simp
theorem letters_of {L : Int} : ∀ {l : List Int}, (∀ a ∈ l, 0 ≤ a ∧ a < L) → lettersErr L l = 0
  | [], _ => rfl
  | a :: r, h => by
    have h1 := h a (by simp)
    have h2 : belowB a L = true := by simp [belowB]; omega
    simp only [lettersErr, h2]
    exact letters_of fun x hx => h x (by simp [hx])
theorem SliceR.take {α : Type} {R : Rep α} {sz : Nat} {F : Foot} {w : World} {oa : Option Addr} {xs : List α} (h : SliceR R sz F w oa xs) (k : Nat) : SliceR R sz F w oa (xs.take k) := by
  intro i x hx
  rw [List.getElem?_take] at hx
  split at hx
  · exact h i x hx
  · cases hx
end Go.Proofs.YtnigfddanoaonaaGreat

set_option linter.unusedVariables false
set_option linter.unusedSimpArgs false
set_option linter.unnecessarySimpa false
namespace Go.Proofs.YtnigfddanoaonaaGreat
open Go.RowKit

def negB (l : List Int) : Bool := l.any fun x => decide (x < 0)

set_option maxHeartbeats 400000 in
theorem min_any (l : List Int) (oa : Option Addr) (c : Nat) (F : Foot) (w : World) (hs : SliceR intR 1 F w oa l) (hc : l.length ≤ c) (hc2 : l.length ≤ 9223372036854775807) (hne : 0 < l.length) :
    Calls Tryz.prog 92 #[.slice oa l.length c] w fun e w' => ∃ m : Int, e = .returned (.int .i64 m) ∧ decide (m < 0) = negB l ∧ w = w' := by
  obtain ⟨x0, hd0, _, i0, b, off, hoa, _, c0⟩ := hs.int_at hne
  have hoa' := hoa
  subst hoa'
  have HD0 := hide hd0
  have H0 : Hid (decide (x0 < 0) = negB (l.take 1)) := by
    rw [List.drop_zero] at hd0
    show _ = _
    rw [hd0]
    simp [negB]
  have I0 := hide i0
  clear hd0 hoa i0
  rw [Nat.add_zero] at c0
  have hl1 : decide ((l.length : Int) < 1) = false := by simp; omega
  go_enter Tryz.func92, Tryz.ntmps92
  go_wp2_with fail
  go_loop [3, 4] (fun mv i => ∃ (k : Nat) (m : Int), 0 < k ∧ k ≤ l.length ∧ mv = .int .i64 m ∧ i = .int .i64 k ∧ Hid (decide (m < 0) = negB (l.take k))) (fun _ i => l.length - (intOf i).toNat)
  case atStart => exact ⟨1, x0, by omega, by omega, rfl, rfl, H0⟩
  case round =>
    obtain ⟨k, m, hk0, hk, rfl, rfl, HM⟩ := hrel
    by_cases hlt : k < l.length
    · obtain ⟨x, hd, hget, _, b', off', hoa, _, cx⟩ := hs.int_at hlt
      injection hoa with hoa
      injection hoa with e1 e2
      subst e1 e2
      have HN : Hid (negB (l.take (k + 1)) = (negB (l.take k) || decide (x < 0))) := by
        show _ = _
        rw [List.take_add_one, hget]
        simp [negB]
      clear hd hget
      by_cases hmx : x < m
      · go_wp2_with fail
        go_round
        case rel =>
          refine ⟨k + 1, _, by omega, by omega, rfl, by go_num, ?_⟩
          show _ = _
          rw [HN.out, ← HM.out]
          by_cases h1 : m < 0 <;> by_cases h2 : x < 0 <;> simp [h1, h2] <;> omega
        case measure => simp [intOf]; omega
      · go_wp2_with fail
        go_round
        case rel =>
          refine ⟨k + 1, _, by omega, by omega, rfl, by go_num, ?_⟩
          show _ = _
          rw [HN.out, ← HM.out]
          by_cases h1 : m < 0 <;> by_cases h2 : x < 0 <;> simp [h1, h2] <;> omega
        case measure => simp [intOf]; omega
    · go_wp2_with fail
      go_ret
      refine ⟨m, rfl, ?_, rfl⟩
      rw [HM.out, List.take_of_length_le (by omega)]

end Go.Proofs.YtnigfddanoaonaaGreat

set_option linter.unusedVariables false
namespace Go.Proofs.YtnigfddanoaonaaGreat
open Go.RowKit

theorem mul64_one (n : Nat) (hn : n ≤ 1000000) (w : World) : Calls Tryz.prog 123 #[.int .u64 1, .int .u64 n] w fun e w' => e = .returned (.tuple #[.int .u64 0, .int .u64 n]) ∧ w = w' := by
  have h1 : bits .and .u64 (1 : Int) 4294967295 = 1 := by decide
  have h2 : bits .and .u64 (n : Int) 4294967295 = n := by
    have h := bits_and_u64_nat n 4294967295 (by omega) (by omega)
    have e : n &&& 4294967295 = n % 4294967296 := Nat.and_two_pow_sub_one_eq_mod n 32
    rw [e, Nat.mod_eq_of_lt (by omega)] at h
    exact h
  have h3 : bits .and .u64 (0 : Int) 4294967295 = 0 := by decide
  have h4 : (n : Int) / 4294967296 = 0 := by omega
  have h5 : IntKind.u64.wrap (n : Int) = n := by rw [IntKind.wrap_u64]; omega
  go_enter Tryz.func123, Tryz.ntmps123
  go_wp2_with fail
  go_ret2
  simp
theorem mul_one (n : Nat) (hn : n ≤ 1000000) (w : World) : Calls Tryz.prog 93 #[.int .u64 1, .int .u64 n] w fun e w' => e = .returned (.tuple #[.int .u64 0, .int .u64 n]) ∧ w = w' := by
  go_enter Tryz.func93, Tryz.ntmps93
  go_wp2_with (go_at_call 123; refine (mul64_one n hn _).mono ?_; rintro e w' ⟨rfl, rfl⟩)
  go_ret2
  exact ⟨rfl, rfl⟩

theorem intInfo : (Tryz.prog.info? 3).map (fun i => (i.zero, i.size, i.bytes)) = some (some (.int .i64 0), 1, 8) := by kernel_rfl
theorem intSize : (Tryz.prog.info? 3).map (·.size) = some 1 := by kernel_rfl

def IntsMade (w : World) (r : List Int) (e : Ending) (w' : World) : Prop :=
  ∃ v, e = .returned v ∧ OwnS intR 1 w.heap.size 3 Non w' v r ∧ Below w.heap.size w w'

/-- A row of n cells, of which the first m hold x. -/
def RowI (w : World) (g n : Nat) (x : Int) (m : Nat) : Prop := ∃ cur : List Value, w.heap[g]? = some (.cells cur.toArray 3 (0, 0)) ∧ cur.length = n ∧ ∀ j, j < m → cur[j]? = some (.int .i64 x)

theorem copy_first {w w1 : World} {n c b off : Nat} {x : Int} {zs : List Value} (hown : w1.ownsRow w.heap.size 3 1 (.slice (some ⟨w.heap.size, 0, none⟩) n n) n zs) (hg : w.grownBy w1 none) (cx : w.cell? ⟨b, off, none⟩ = some (.int .i64 x)) :
    ∃ (m : Nat) (w2 : World), Hid (m = min n 1) ∧ (Builtin.copy_ #[23, 23] 3 #[.slice (some ⟨w.heap.size, 0, none⟩) n n, .slice (some ⟨b, off, none⟩) 1 c]).run Tryz.prog w1 = .ok (.int .i64 m) w2 ∧ RowI w2 w.heap.size n x m ∧ Below w.heap.size w w2 := by
  obtain ⟨hl, hv⟩ := hown
  have hb1 : Below w.heap.size w w1 := (Below.refl w.heap.size w).grown hg (Nat.le_refl _) fun k hk => by cases hk
  rcases hv with ⟨he, _⟩ | ⟨g, cap, cur, he, _, hh, _, _, hcs, _⟩
  · cases he
  · injection he with h1 h2 h3
    injection h1 with h1
    injection h1 with h1
    subst h1 h3
    rcases Nat.eq_zero_or_pos n with h0 | h0
    · subst h0
      refine ⟨0, w1, rfl, run_copy_none w1 _ _ _ 3 _ _ _ _ _ _ Tryz.underlying23 intSize (by simp), ⟨cur.toList, by simpa using hh, by simpa using hcs, fun j hj => by omega⟩, hb1⟩
    · have hcell : w1.cell? ⟨b, off, none⟩ = some (.int .i64 x) := (hb1.cell (World.block_lt_of_cell? _ _ cx)).trans cx
      have hrun := run_copy_row (P := Tryz.prog) w1 23 23 3 3 w.heap.size 0 n n ⟨b, off, none⟩ 1 c cur 3 [.int .i64 x] Tryz.underlying23 intSize hh (by show 1 = min 1 n; omega) (fun j v hj => by
        match j, hj with
        | 0, hj => simp at hj; subst hj; simpa [Addr.add] using hcell) (by rw [hcs]; simp; omega) (by simp [Value.oneCell'])
      refine ⟨1, _, by show _ = _; omega, hrun, ⟨_, setRow_heap w1 _ _ _ _ _ hh, ?_, ?_⟩, below_setRow hb1 (Nat.le_refl _) _⟩
      · simp [hcs]; omega
      · intro j hj
        have : j = 0 := by omega
        subst this
        simp

set_option maxRecDepth 100000 in
set_option maxHeartbeats 2000000 in
theorem repeat_any (x : Int) (n c : Nat) (oa : Option Addr) (F : Foot) (w : World) (ix : I64 x) (hn : n ≤ 256) (hs : SliceR intR 1 F w oa [x]) :
    Calls Tryz.prog 46 #[.slice oa 1 c, .int .i64 n] w (IntsMade w (List.replicate n x)) := by
  obtain ⟨x', _, hx', _, b, off, rfl, _, cx⟩ := hs.int_at (i := 0) (by simp)
  simp at hx'
  subst hx'
  rw [Nat.add_zero] at cx
  obtain ⟨i, hi, hz, hsz, hby⟩ := info_parts intInfo
  have IX := hide ix
  have HI := hide (And.intro hi (And.intro hz (And.intro hsz hby)))
  clear hi hz hsz hby ix
  have hd1 : decide ((n : Int) < 0) = false := by simp
  have hd2 : decide (9223372036854775807 < (n : Int)) = false := by simp; omega
  go_enter Tryz.func46, Tryz.ntmps46
  go_wp2_with (first
    | (go_at_call 93; refine (mul_one n (by omega) _).mono ?_; rintro e w' ⟨rfl, rfl⟩)
    | (at_make; refine wpList_make_full _ rfl _ _ 23 rfl w.heap.size 3 i _ 1 Tryz.underlying23 HI.out.1 HI.out.2.1 HI.out.2.2.1 .i64 .i64 _ _ n rfl rfl rfl rfl (by rw [HI.out.2.2.2]; omega) (by unfold maxLen; omega) (Nat.le_refl _) (fun w1 hown hgrow => ?_)
       obtain ⟨m0, w2, HM0, hcp, hrow, hbw⟩ := copy_first (c := c) hown hgrow cx
       clear hown hgrow))
  clear hcp cx
  go_loopw [8] (fun v wr => ∃ m : Nat, v = .int .i64 m ∧ m ≤ n ∧ (n = 0 ∨ 0 < m) ∧ RowI wr w.heap.size n x m ∧ Below w.heap.size w wr) (fun v _ => n - (intOf v).toNat)
  case atStart => exact ⟨m0, rfl, by have := HM0.out; omega, by have := HM0.out; omega, hrow, hbw⟩
  case round =>
    obtain ⟨m, rfl, hmn, hm0, ⟨cur, hcur, hcl, hcx⟩, hb⟩ := hrel
    by_cases hlt : m < n
    · have hm1 : 0 < m := by omega
      have hnm : ¬ n = m := by omega
      obtain ⟨q, hq⟩ : ∃ q, q = min m (n - m) := ⟨_, rfl⟩
      have hq1 : 0 < q := by omega
      have hq2 : m + q ≤ n := by omega
      have hqm : q ≤ m := by omega
      have hwr : IntKind.i64.wrap ((m : Int) + (q : Int)) = (m : Int) + q := IntWalk.i64_in _ (by omega)
      have HQ := hide hq
      have HCUR := hide hcur
      have HCX := hide hcx
      have HCL := hide hcl
      clear hq hcur hcx hcl hrow hbw
      go_wp2_with fail
      go_region_law (refine step_copy_splice rfl (.tmp 41) (.tmp 44) 23 23 rfl 3 Tryz.underlying23 intSize (some ⟨w.heap.size, m, none⟩) (some ⟨w.heap.size, 0, none⟩) (n - m) (n - m) m n (by simp [Act.eval, Act.put]) (by simp [Act.eval, Act.put]) w.heap.size m cur 3 HCUR.out (List.replicate q (.int .i64 x)) (by have := HQ.out; simp; omega) (fun _ => ⟨rfl, _, rfl, fun j v hj => by
        have hjq : j < q := by have := (List.getElem?_eq_some_iff.1 hj).1; simpa using this
        rw [List.getElem?_replicate] at hj
        simp [hjq] at hj
        subst hj
        rw [show (Addr.mk w.heap.size 0 none).add j = ⟨w.heap.size, j, none⟩ from by unfold Addr.add; split <;> simp_all]
        change wr.cell? ⟨w.heap.size, j, none⟩ = _
        rw [cell_of_row wr w.heap.size j _ _ _ HCUR.out]
        simpa using HCX.out j (by omega)⟩) (by simp; have := HCL.out; omega) (by simp [Value.oneCell']) w.heap.size w hb.drew (Nat.le_refl _) ?_; intro w4 hg4 hb4)
      all_goals
        simp [Act.put]
        go_roundw
        case rel =>
          refine ⟨_, _, _, _, _, _, _, _, _, _, _, _, _, _, ⟨m + q, by go_num, by omega, .inr (by omega), ⟨_, hg4.out, by rw [length_splice _ _ _ (by simp; have := HCL.out; omega)]; exact HCL.out, ?_⟩, hb4⟩, rfl⟩
          intro j hj
          unfold splice
          have hcl := HCL.out
          by_cases h : j < m
          · rw [List.getElem?_append_left (by simp; omega), List.getElem?_take_of_lt h]
            exact HCX.out j h
          · rw [List.getElem?_append_right (by simp; omega), List.getElem?_append_left (by simp; omega), List.getElem?_replicate]
            rw [if_pos (by simp; omega)]
        case measure => simp [intOf]; omega
    · have hmn2 : m = n := by omega
      subst hmn2
      have HCUR := hide hcur
      have HCX := hide hcx
      have HCL := hide hcl
      clear hcur hcx hcl
      go_wp2_with fail
      go_ret
      have hcl := HCL.out
      have hrep : cur = List.replicate m (.int .i64 x) := by
        apply List.ext_getElem?
        intro j
        by_cases h : j < m
        · rw [HCX.out j h, List.getElem?_replicate, if_pos h]
        · rw [List.getElem?_eq_none (by omega), List.getElem?_eq_none (by simp; omega)]
      subst hrep
      refine ⟨_, rfl, ⟨List.replicate m (.int .i64 x), ⟨by simp, .inr ⟨w.heap.size, m, _, by simp, Nat.le_refl _, HCUR.out, by simp, by unfold maxLen; omega, by simp, by simp⟩⟩, ?_, ?_⟩, hb⟩
      · intro u hu
        rw [List.eq_of_mem_replicate hu]
        rfl
      · intro j y hy
        have hj : j < m := by have := (List.getElem?_eq_some_iff.1 hy).1; simpa using this
        rw [List.getElem?_replicate, if_pos hj] at hy
        injection hy with hy
        subst hy
        refine ⟨?_, IX.out⟩
        unfold chunk
        apply List.ext_getElem?
        intro k
        rw [List.getElem?_take]
        split
        · have : k = 0 := by omega
          subst this
          rw [List.getElem?_drop, List.getElem?_replicate, if_pos (by omega)]
          rfl
        · rw [List.getElem?_eq_none (by simp; omega)]

end Go.Proofs.YtnigfddanoaonaaGreat

set_option linter.unusedVariables false
namespace Go.Proofs.YtnigfddanoaonaaGreat
open Go.RowKit

def wordFrom : Nat → List Int → List Int
  | _, [] => []
  | a, n :: r => List.replicate n.toNat (a : Int) ++ wordFrom (a + 1) r
def manyErr (L : Int) (l : List Int) : Int := if (l.length : Int) = L then (if negB l then 2 else if 256 < (wordFrom 0 l).length then 5 else 0) else 8

end Go.Proofs.YtnigfddanoaonaaGreat

set_option linter.unusedVariables false
namespace Go.Proofs.YtnigfddanoaonaaGreat
open Go.RowKit

end Go.Proofs.YtnigfddanoaonaaGreat

set_option linter.unusedVariables false
namespace Go.Proofs.YtnigfddanoaonaaGreat
open Go.RowKit

def capS : List Int → Int
  | [] => 0
  | n :: r => min n 257 + capS r
end Go.Proofs.YtnigfddanoaonaaGreat

set_option linter.unusedVariables false
namespace Go.Proofs.YtnigfddanoaonaaGreat
open Go.RowKit

def manyRes (p : Prc) (s : Int) (l : List Int) : Int × List Out × Int :=
  if stateErr p s = 0 then (if manyErr p.letters l = 0 then ((readSpec p.rules s (wordFrom 0 l)).1, isort (readSpec p.rules s (wordFrom 0 l)).2, 0) else (0, [], manyErr p.letters l)) else (0, [], stateErr p s)

end Go.Proofs.YtnigfddanoaonaaGreat

set_option linter.unusedVariables false
set_option linter.unusedSimpArgs false
namespace Go.Proofs.YtnigfddanoaonaaGreat
open Go.RowKit

/-- All letters commute in all states. -/
def AllComm (rs : List (List Rul)) (S L : Int) : Prop := ∀ s a b : Int, 0 ≤ s ∧ s < S → 0 ≤ a ∧ a < L → 0 ≤ b ∧ b < L → commB rs s a b = true

theorem read_range {S L : Int} {rs : List (List Rul)} (hV : checkErr ⟨S, L, rs⟩ 12 = 0) (l : List Int) (s : Int) (hs : 0 ≤ s ∧ s < S) (hl : ∀ a ∈ l, 0 ≤ a ∧ a < L) : 0 ≤ (readSpec rs s l).1 ∧ (readSpec rs s l).1 < S :=
  (readSpec_right (p := ⟨S, L, rs⟩) hV l s hs (letters_of hl)).1

theorem read_perm {S L : Int} {rs : List (List Rul)} (hV : checkErr ⟨S, L, rs⟩ 12 = 0) (hC : AllComm rs S L) {l m : List Int} (hp : l.Perm m) :
    (∀ a ∈ l, 0 ≤ a ∧ a < L) → ∀ s : Int, 0 ≤ s ∧ s < S → (readSpec rs s l).1 = (readSpec rs s m).1 ∧ (readSpec rs s l).2.Perm (readSpec rs s m).2 := by
  induction hp with
  | nil => intro _ s _; exact ⟨rfl, List.Perm.refl _⟩
  | cons a _ ih =>
    intro hl s hs
    have h1 := read_range hV [a] s hs (fun x hx => hl x (by simp at hx; simp [hx]))
    have h2 := ih (fun x hx => hl x (by simp [hx])) (ruleAt rs s a).next h1
    simp only [readSpec]
    exact ⟨h2.1, h2.2.append_left _⟩
  | swap a b r =>
    intro hl s hs
    have h := hC s b a hs (hl b (by simp)) (hl a (by simp))
    unfold commB at h
    simp only [Bool.and_eq_true, decide_eq_true_eq] at h
    have e1 := readSpec_app rs [b, a] r s
    have e2 := readSpec_app rs [a, b] r s
    simp only [List.cons_append, List.nil_append] at e1 e2
    rw [e1, e2]
    refine ⟨by simp only; rw [h.1], ?_⟩
    simp only
    rw [h.1]
    refine List.Perm.append_right _ ?_
    exact ((isort_perm _).symm.trans (h.2 ▸ List.Perm.refl _)).trans (isort_perm _)
  | trans h1 h2 ih1 ih2 =>
    intro hl s hs
    have a1 := ih1 hl s hs
    have a2 := ih2 (fun x hx => hl x (h1.mem_iff.2 hx)) s hs
    exact ⟨a1.1.trans a2.1, a1.2.trans a2.2⟩

/-- The counts of a word's letters. -/
def tally (L : Nat) (l : List Int) : List Int := (List.range L).map fun a : Nat => (l.count (a : Int) : Int)
theorem tally_len (L : Nat) (l : List Int) : (tally L l).length = L := by simp [tally]
theorem tally_get {L : Nat} {l : List Int} {a : Nat} (h : a < L) : (tally L l)[a]? = some (l.count (a : Int) : Int) := by simp [tally, h]
theorem tally_snoc {L : Nat} (l : List Int) {a : Nat} (h : a < L) : tally L (l ++ [(a : Int)]) = (tally L l).set a ((l.count (a : Int) : Int) + 1) := by
  apply List.ext_getElem?
  intro i
  by_cases hi : i < L
  · by_cases e : a = i
    · subst e
      rw [List.getElem?_set_self (by rw [tally_len]; exact h), tally_get h]
      simp
    · rw [List.getElem?_set_ne e, tally_get hi, tally_get hi]
      have : ¬ ((a : Int) = (i : Int)) := by omega
      simp [List.count_append, List.count_cons, this]
  · rw [List.getElem?_eq_none (by simp [tally_len]; omega), List.getElem?_eq_none (by simp [tally_len]; omega)]
theorem wordFrom_count : ∀ (cs : List Int) (k : Nat) (x : Int), (wordFrom k cs).count x = if (k : Int) ≤ x ∧ x < k + cs.length then (cs.getD (x - k).toNat 0).toNat else 0
  | [], k, x => by
    simp only [wordFrom, List.length_nil]
    rw [if_neg (by simp)]
    rfl
  | n :: r, k, x => by
    rw [wordFrom, List.count_append, wordFrom_count r (k + 1) x]
    simp only [List.length_cons]
    by_cases h0 : x = k
    · subst h0
      rw [if_neg (by omega), if_pos (by omega)]
      simp
    · have hne : ¬ ((k : Int) = x) := fun e => h0 e.symm
      rw [List.count_replicate]
      simp only [beq_iff_eq, hne, if_false, Nat.zero_add]
      by_cases h1 : ((k + 1 : Nat) : Int) ≤ x ∧ x < (k + 1 : Nat) + (r.length : Int)
      · rw [if_pos h1, if_pos (by omega)]
        obtain ⟨d, hd⟩ : ∃ d : Nat, (x - (k + 1 : Nat)).toNat = d := ⟨_, rfl⟩
        rw [hd, show (x - (k : Int)).toNat = d + 1 from by omega]
        simp
      · rw [if_neg h1, if_neg (by omega)]
end Go.Proofs.YtnigfddanoaonaaGreat

set_option linter.unusedVariables false
set_option linter.unusedSimpArgs false
namespace Go.Proofs.YtnigfddanoaonaaGreat
open Go.RowKit

def nabR (x : Nwk) : Bool × Int := if netErr x = 0 then (commP x.procs, 0) else (false, netErr x)
theorem two_few {p : Prc} {N : Int} (h : checkErr p N = 0) : checkErr ⟨p.states, p.letters, p.rules⟩ 12 = 0 → ∀ s a b : Int, 0 ≤ s ∧ s < p.states → 0 ≤ a ∧ a < p.letters → 0 ≤ b ∧ b < p.letters → (readSpec p.rules s [a, b]).2.length ≤ 1000000000000 := fun hc s a b hs ha hb => by
  have := (readSpec_right (p := p) h [a, b] s hs (letters_of (by intro z hz; simp at hz; rcases hz with rfl | rfl <;> assumption))).2.1
  simp only [List.length_cons, List.length_nil] at this
  omega

set_option maxRecDepth 100000 in
set_option maxHeartbeats 2000000 in
theorem nabelian_any (x : Nwk) (op : Option Addr) (cp : Nat) (os : Option Addr) (cs : Nat) (ow : Option Addr) (cw : Nat) (F : Foot) (w : World) (hp : SliceR prcR 3 F w op x.procs) (hp2 : x.procs.length ≤ 1000000) (hs : SliceR intR 1 F w os x.state) (hs2 : x.state.length ≤ 1000000) (ht : SliceR (slcR intR 1) 1 F w ow x.waiting) (ht2 : x.waiting.length ≤ 1000000) :
    Calls Tryz.prog 30 #[.agg #[.slice op x.procs.length cp, .slice os x.state.length cs, .slice ow x.waiting.length cw]] w fun e w' => e = .returned (.tuple #[.bool (nabR x).1, .int .i64 (nabR x).2]) ∧ Below w.heap.size w w' := by
  have hb0 := box_refl w (.cells #[.slice op x.procs.length cp, .slice os x.state.length cs, .slice ow x.waiting.length cw] 26)
  have HP := hide hp
  have HCK := hide (netCheck_any x.procs op cp x.state os cs x.waiting ow cw F _ (hp.below prcR_ok (below_box hb0)) (by omega) (hs.below intR_ok (below_box hb0)) (by omega) (ht.below (slcR_ok intR_ok (by decide)) (below_box hb0)) (by omega))
  rw [show (⟨x.procs, x.state, x.waiting⟩ : Nwk) = x from rfl] at HCK
  obtain ⟨ne, hne⟩ : ∃ ne, ne = netErr x := ⟨_, rfl⟩
  rw [← hne] at HCK
  have HNE := hide hne
  clear hp hs ht hne
  by_cases h0 : ne = 0
  · subst h0
    have HR : Hid (nabR x = (commP x.procs, 0)) := if_pos HNE.out.symm
    have HV := hide (netErr_zero HNE.out.symm).proc
    go_enter Tryz.func30, Tryz.ntmps30
    go_wp2_with (go_at_call 43; refine HCK.out.mono ?_; rintro e w2 ⟨rfl, hb2⟩; have hx2 := hb2.mono (B' := w.heap.size + 1) (by simp); have d0 := box_cell hx2 0; simp at d0; have HX := hide (below_box hx2); clear hb2 hx2)
    go_loopw [18] (fun iv wr => ∃ k : Nat, k ≤ x.procs.length ∧ iv = .int .i64 k ∧ Hid (commP x.procs = commP (x.procs.drop k)) ∧ Hid (Below w.heap.size w wr)) (fun iv _ => x.procs.length - (intOf iv).toNat)
    case atStart => exact ⟨0, by omega, rfl, rfl, HX.out⟩
    case round =>
      obtain ⟨k, hk, rfl, HC, HB⟩ := hrel
      by_cases hlt : k < x.procs.length
      · obtain ⟨S, L, rs, b, off, oR, cR, hd, hpr, hoP, _, y0, y1, y2, iS, iL, hrc, hrm, hrs⟩ := (HP.out.below prcR_ok HB.out).prc_at (i := k) (by omega)
        subst hoP
        have hck := HV.out k _ hpr
        have hAR : abelRes ⟨S, L, rs⟩ = ((witS (commN rs) L.toNat S.toNat 0).isNone, witL (witS (commN rs) L.toNat S.toNat 0), 0) := by
          unfold abelRes
          rw [if_pos (checkErr_more hck)]
        have hAB := abelian_any (hide sorted_any) S L rs oR cR F (wr.alloc (.cells #[.int .i64 S, .int .i64 L, .slice oR rs.length cR] 89)) (hrs.below rowR_ok (bnew (Below.refl _ _) _)) hrc hrm (hide (two_few hck))
        rw [hAR] at hAB
        have HAB := hide hAB
        have hsz : w.heap.size ≤ wr.heap.size := HB.out.size
        have HC2 : Hid (commP x.procs = ((witS (commN rs) L.toNat S.toNat 0).isNone && commP (x.procs.drop (k + 1)))) := by
          show _ = _
          rw [HC.out, hd]
          rfl
        obtain ⟨q, hq⟩ : ∃ q : Bool, q = (witS (commN rs) L.toNat S.toNat 0).isNone := ⟨_, rfl⟩
        rw [← hq] at HAB HC2
        clear hd hpr hck hAR hAB hrs hq
        cases q
        · go_wp2_with (go_at_call 77; refine HAB.out.mono ?_; rintro e w5 ⟨v5, rfl, h5, hb5⟩; have HB5 := hide ((HB.out.alloc hsz _).trans (hb5.mono (by rw [alloc_size']; omega))); clear h5 hb5)
          go_ret2
          exact ⟨by rw [HR.out, HC2.out]; rfl, HB5.out⟩
        · go_wp2_with (go_at_call 77; refine HAB.out.mono ?_; rintro e w5 ⟨v5, rfl, h5, hb5⟩; have HB5 := hide ((HB.out.alloc hsz _).trans (hb5.mono (by rw [alloc_size']; omega))); clear h5 hb5)
          go_roundw
          case rel => exact ⟨k + 1, by omega, by go_num, by show _ = _; rw [HC2.out]; simp, HB5.out⟩
          case measure => simp [intOf]; omega
      · have HC2 : Hid (commP x.procs = true) := by
          show _ = _
          rw [HC.out, List.drop_eq_nil_of_le (by omega)]
          rfl
        go_wp2_with fail
        go_ret2
        exact ⟨by rw [HR.out, HC2.out]; rfl, HB.out⟩
  · have HR : Hid (nabR x = (false, ne)) := by
      show _ = _
      unfold nabR
      rw [← HNE.out, if_neg h0]
    go_enter Tryz.func30, Tryz.ntmps30
    go_wp2_with (go_at_call 43; refine HCK.out.mono ?_; rintro e w2 ⟨rfl, hb2⟩; have HX := hide (below_box (hb2.mono (B' := w.heap.size + 1) (by simp))); clear hb2)
    go_ret2
    exact ⟨by rw [HR.out]; rfl, HX.out⟩

end Go.Proofs.YtnigfddanoaonaaGreat

set_option linter.unusedVariables false
set_option linter.unusedSimpArgs false
set_option linter.unnecessarySimpa false
namespace Go.Proofs.YtnigfddanoaonaaGreat
open Go.RowKit

def WLay.setQ (L : WLay) (j : Nat) (v : Value) : WLay := { L with lv := fun m => if m = j then v else L.lv m }
theorem setQ_blk {L : WLay} {j : Nat} {v : Value} (hv : v.ownBlock = (L.lv j).ownBlock) (r : IR) : r.blk (L.setQ j v) = r.blk L := by
  cases r with
  | s => rfl
  | w i => rfl
  | c i => rfl
  | q m =>
    show (if m = j then v else L.lv m).ownBlock = (L.lv m).ownBlock
    split
    · rename_i e; rw [hv, e]
    · rfl
theorem setQ_mine {L : WLay} {N j : Nat} {v : Value} (hv : v.ownBlock = (L.lv j).ownBlock) (k : Nat) : Mine (L.setQ j v) N k ↔ Mine L N k := by
  have h : ∀ m, ((L.setQ j v).lv m).ownBlock = (L.lv m).ownBlock := fun m => setQ_blk hv (.q m)
  unfold Mine
  simp only [h]
  exact Iff.rfl
section
variable {B N : Nat} {L : WLay} {oP : Option Addr} {cP : Nat} {oF : Option Addr} {nF cF : Nat} {S : Wr} {W W' : World}

theorem Went.setQ {j : Nat} {v : Value} (hv : v.ownBlock = (L.lv j).ownBlock) (hj : j < N * N) (i : Nat) (u : Value) : Went N L W (L.setQ j v) (W.setCell ⟨L.bl j, i, none⟩ u) :=
  { Went.put (W := W) (i := i) (v := u) (show Mine L N (L.bl j) from .inr (.inr (.inr (.inr (.inr (.inr (.inr (.inl ⟨j, hj, rfl⟩)))))))) with
    mine := fun k _ hm => (setQ_mine hv k).1 hm, fix := ⟨_, _, rfl⟩ }
end

theorem OwnN.form {base : Nat} {e : TypeId} {w : World} {v : Value} {xs : List Int} (h : OwnN base e w v xs) : ∃ oa c, v = .slice oa xs.length c := by
  obtain ⟨oa, c, h1, _⟩ := h.slice
  exact ⟨oa, c, h1⟩
theorem OwnN.cons {base : Nat} {e : TypeId} {w : World} {v : Value} {x : Int} {r : List Int} (h : OwnN base e w v (x :: r)) : OwnQ base e w v (x :: r) := by
  rcases h with ⟨_, h⟩ | h
  · cases h
  · exact h

end Go.Proofs.YtnigfddanoaonaaGreat

set_option linter.unusedVariables false
set_option linter.unusedSimpArgs false
set_option linter.unnecessarySimpa false
namespace Go.Proofs.YtnigfddanoaonaaGreat
open Go.RowKit

section
variable {B N : Nat} {L : WLay} {oP : Option Addr} {cP : Nat} {oF : Option Addr} {nF cF : Nat} {S : Wr} {W W' : World}
end

end Go.Proofs.YtnigfddanoaonaaGreat

set_option linter.unusedVariables false
set_option linter.unusedSimpArgs false
set_option linter.unnecessarySimpa false
namespace Go.Proofs.YtnigfddanoaonaaGreat
open Go.RowKit

section
variable {B N : Nat} {L : WLay} {oP : Option Addr} {cP : Nat} {oF : Option Addr} {nF cF : Nat} {S : Wr} {W W' : World}
end

end Go.Proofs.YtnigfddanoaonaaGreat

set_option linter.unusedVariables false
set_option linter.unusedSimpArgs false
set_option linter.unnecessarySimpa false
namespace Go.Proofs.YtnigfddanoaonaaGreat
open Go.RowKit

def idxI : Option Nat → Int
  | some k => k
  | none => -1
end Go.Proofs.YtnigfddanoaonaaGreat

set_option linter.unusedVariables false
set_option linter.unusedSimpArgs false
set_option linter.unnecessarySimpa false
namespace Go.Proofs.YtnigfddanoaonaaGreat
open Go.RowKit

theorem Went.of_below {N : Nat} {L : WLay} {W W' : World} (hb : Below W.heap.size W W') : Went N L W L W' := ⟨hb.os, hb.tape, hb.output, hb.size, fun k hk _ => hb.block k hk, fun _ _ h => h, ⟨_, _, rfl⟩⟩
section
variable {B N : Nat} {L : WLay} {oP : Option Addr} {cP : Nat} {oF : Option Addr} {nF cF : Nat} {S : Wr} {W W' : World}

end

end Go.Proofs.YtnigfddanoaonaaGreat

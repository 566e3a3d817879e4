/-
  The wire machine in plain Lean: what stays true of it while it goes on, and how great its numbers become.
  The wire machine: the packets of a tick arrive: what is needed of the lists.
  A region that draws its order, by an invariant; append to an empty literal and make as steps of such a region. No program is named here.
  The wire machine: the check of the fates; the machine is laid.
  The wire machine in memory: the letters of a line grow.
  The wire machine over a right network: its rules are within bounds.
  A slice of the call's own whose elements are lists of integers of the call's own, no two in one block. No program is named here.
  The wire machine: a processor reads a letter.
-/
import Derived.Test.YtnigfddanoaonaaWa1
import Derived.Deep.RegionLaw
import Derived.Deep.AppendLies
import Derived.Deep.DeepCutAuto
import Derived.Laws.OwnMore
import Derived.Maps.AppendAt
import Derived.Maps.OwnOps
import Derived.OneCell
import Derived.Lib.SmallJoins
import Derived.BigRegion
import Derived.BigQuiet

set_option linter.unusedVariables false
set_option linter.unusedSimpArgs false
set_option linter.unnecessarySimpa false
namespace Go.Proofs.Ytnigfddanoaonaa
open Go.RowKit

def Ln.tot (l : Ln) : Nat := l.rm + l.q.length
def Pk.L : Pk → Int
  | .lett _ _ _ => 1
  | .ack _ _ => 0
def Pk.W : Pk → Int
  | .lett _ _ _ => 3
  | .ack _ _ => 1
def Lc : List (Pk × Nat) → Int
  | [] => 0
  | a :: r => a.1.L + Lc r
def Wc : List (Pk × Nat) → Int
  | [] => 0
  | a :: r => a.1.W + Wc r
theorem Pk.L_nonneg (p : Pk) : 0 ≤ p.L := by cases p <;> simp [Pk.L]
theorem Pk.W_pos (p : Pk) : 1 ≤ p.W := by cases p <;> simp [Pk.W]
theorem Lc_nonneg : ∀ l, 0 ≤ Lc l
  | [] => by simp [Lc]
  | a :: r => by have := Lc_nonneg r; have := a.1.L_nonneg; simp only [Lc]; omega
theorem Wc_length : ∀ l : List (Pk × Nat), (l.length : Int) ≤ Wc l
  | [] => by simp [Wc]
  | a :: r => by have := Wc_length r; have := a.1.W_pos; simp only [Wc, List.length_cons]; omega
theorem Lc_append : ∀ l k, Lc (l ++ k) = Lc l + Lc k
  | [], k => by simp [Lc]
  | a :: r, k => by simp only [List.cons_append, Lc, Lc_append r k]; omega
theorem Wc_append : ∀ l k, Wc (l ++ k) = Wc l + Wc k
  | [], k => by simp [Wc]
  | a :: r, k => by simp only [List.cons_append, Wc, Wc_append r k]; omega
theorem Lc_split (f : Pk × Nat → Bool) : ∀ l, Lc (l.filter f) + Lc (l.filter fun a => !f a) = Lc l
  | [] => by simp [Lc]
  | a :: r => by
    have ih := Lc_split f r
    cases h : f a <;> simp [List.filter_cons, h, Lc] at ih ⊢ <;> omega
theorem Wc_split (f : Pk × Nat → Bool) : ∀ l, Wc (l.filter f) + Wc (l.filter fun a => !f a) = Wc l
  | [] => by simp [Wc]
  | a :: r => by
    have ih := Wc_split f r
    cases h : f a <;> simp [List.filter_cons, h, Wc] at ih ⊢ <;> omega

def PkOk (N : Nat) (m : Nat → Nat) (ls : List Ln) : Pk → Prop
  | .lett l num kind => l < N * N ∧ num ≤ (ls.getD l Ln.none).tot ∧ 0 ≤ kind ∧ kind < (m (l % N) : Nat)
  | .ack l num => l < N * N ∧ num ≤ (ls.getD l Ln.none).tot

/-- m: letters of a processor, ns: its states; pend: packets that arrived and were not handled yet. -/
structure WInv (N : Nat) (m : Nat → Nat) (ns : Nat → Int) (X M K A T : Int) (pend : List (Pk × Nat)) (S : Wr) : Prop where
  nst : S.st.length = N
  nwt : S.wt.length = N
  nct : S.ct.length = N
  nls : S.ls.length = N * N
  st : ∀ (p : Nat) (s : Int), S.st[p]? = some s → 0 ≤ s ∧ s < ns p
  wl : ∀ (p : Nat) (row : List Int), S.wt[p]? = some row → row.length = m p
  cl : ∀ (p : Nat) (row : List Int), S.ct[p]? = some row → row.length = m p
  wb : ∀ (p : Nat) (row : List Int), S.wt[p]? = some row → ∀ (k : Nat) (x : Int), row[k]? = some x → 0 ≤ x ∧ x + Lc (pend ++ S.fl) ≤ M
  cb : ∀ (p : Nat) (row : List Int), S.ct[p]? = some row → ∀ (k : Nat) (x : Int), row[k]? = some x → 0 ≤ x ∧ x ≤ T
  lb : ∀ (j : Nat) (l : Ln), S.ls[j]? = some l → (l.tot : Int) ≤ T ∧ l.ac ≤ l.tot ∧ l.sn ≤ S.tk ∧ ∀ a ∈ l.q, 0 ≤ a ∧ a < (m (j % N) : Nat)
  pk : ∀ a ∈ pend ++ S.fl, PkOk N m S.ls a.1
  wgt : Wc (pend ++ S.fl) ≤ K
  seb : S.se + Lc (pend ++ S.fl) ≤ A
  lg : X ≤ 1048576 → S.lg = false
  mx : M ≤ X

structure NetOk (N σ : Nat) (m : Nat → Nat) (ns : Nat → Int) (next : Nat → Int → Nat → Int) (sent : Nat → Int → Nat → List (Int × Int)) : Prop where
  next : ∀ p s k, p < N → 0 ≤ s → s < ns p → k < m p → 0 ≤ next p s k ∧ next p s k < ns p
  few : ∀ p s k, p < N → 0 ≤ s → s < ns p → k < m p → (sent p s k).length ≤ σ
  out : ∀ p s k, p < N → 0 ≤ s → s < ns p → k < m p → ∀ x ∈ sent p s k, 0 ≤ x.1 ∧ x.1 < N ∧ 0 ≤ x.2 ∧ x.2 < (m x.1.toNat : Nat)

theorem set_get {α : Type} {l : List α} {i j : Nat} {y x : α} (h : (l.set i y)[j]? = some x) : (j = i ∧ x = y) ∨ (j ≠ i ∧ l[j]? = some x) := by
  rw [List.getElem?_set] at h
  split at h
  · rename_i e
    split at h
    · injection h with h; exact .inl ⟨e.symm, h.symm⟩
    · cases h
  · rename_i e
    exact .inr ⟨fun h => e h.symm, h⟩
theorem getD_some {α : Type} {l : List α} {i : Nat} {d x : α} (h : l[i]? = some x) : l.getD i d = x := by
  rw [List.getD_eq_getElem?_getD, h]; rfl
theorem getD_set {α : Type} {l : List α} {i j : Nat} {d y : α} : (l.set i y).getD j d = if j = i ∧ i < l.length then y else l.getD j d := by
  rw [List.getD_eq_getElem?_getD, List.getD_eq_getElem?_getD, List.getElem?_set]
  by_cases e : i = j
  · subst e
    by_cases h : i < l.length
    · simp [h]
    · simp [h, List.getElem?_eq_none (Nat.le_of_not_lt h)]
  · have : ¬ j = i := fun h => e h.symm
    simp [e, this]

section
variable {N : Nat} {m : Nat → Nat} {ns : Nat → Int} {X M K A T : Int} {pend : List (Pk × Nat)} {S : Wr}

theorem PkOk.grow {ls ls' : List Ln} (h : ∀ j, (ls.getD j Ln.none).tot ≤ (ls'.getD j Ln.none).tot) {p : Pk} (hp : PkOk N m ls p) : PkOk N m ls' p := by
  cases p with
  | lett l num kind => obtain ⟨h1, h2, h3⟩ := hp; exact ⟨h1, Nat.le_trans h2 (h l), h3⟩
  | ack l num => obtain ⟨h1, h2⟩ := hp; exact ⟨h1, Nat.le_trans h2 (h l)⟩
theorem tot_set {ls : List Ln} {j : Nat} {l : Ln} (h : (ls.getD j Ln.none).tot ≤ l.tot) (i : Nat) : (ls.getD i Ln.none).tot ≤ ((ls.set j l).getD i Ln.none).tot := by
  rw [getD_set]
  split
  · rename_i e; rw [e.1]; exact h
  · exact Nat.le_refl _

theorem WInv.mono (h : WInv N m ns X M K A T pend S) {X' M' K' A' T' : Int} (h1 : M ≤ M') (h2 : K ≤ K') (h3 : A ≤ A') (h4 : T ≤ T') (h5 : X ≤ X') (h6 : M' ≤ X') : WInv N m ns X' M' K' A' T' pend S :=
  { h with
    wb := fun p row hp k x hx => by have := h.wb p row hp k x hx; omega
    cb := fun p row hp k x hx => by have := h.cb p row hp k x hx; omega
    lb := fun j l hl => by obtain ⟨a, b⟩ := h.lb j l hl; exact ⟨by omega, b⟩
    wgt := by have := h.wgt; omega
    seb := by have := h.seb; omega
    lg := fun hM => h.lg (by omega)
    mx := h6 }
theorem WInv.line (h : WInv N m ns X M K A T pend S) {j : Nat} (hj : j < N * N) : ∃ l, S.ls[j]? = some l ∧ S.ls.getD j Ln.none = l := by
  have : j < S.ls.length := by rw [h.nls]; exact hj
  exact ⟨_, List.getElem?_eq_getElem this, getD_some (List.getElem?_eq_getElem this)⟩
theorem WInv.wrow (h : WInv N m ns X M K A T pend S) {p : Nat} (hp : p < N) : ∃ row, S.wt[p]? = some row ∧ S.wt.getD p [] = row ∧ row.length = m p := by
  have : p < S.wt.length := by rw [h.nwt]; exact hp
  exact ⟨_, List.getElem?_eq_getElem this, getD_some (List.getElem?_eq_getElem this), h.wl _ _ (List.getElem?_eq_getElem this)⟩
theorem WInv.crow (h : WInv N m ns X M K A T pend S) {p : Nat} (hp : p < N) : ∃ row, S.ct[p]? = some row ∧ S.ct.getD p [] = row ∧ row.length = m p := by
  have : p < S.ct.length := by rw [h.nct]; exact hp
  exact ⟨_, List.getElem?_eq_getElem this, getD_some (List.getElem?_eq_getElem this), h.cl _ _ (List.getElem?_eq_getElem this)⟩
theorem WInv.state (h : WInv N m ns X M K A T pend S) {p : Nat} (hp : p < N) : ∃ s, S.st[p]? = some s ∧ S.st.getD p 0 = s ∧ 0 ≤ s ∧ s < ns p := by
  have : p < S.st.length := by rw [h.nst]; exact hp
  exact ⟨_, List.getElem?_eq_getElem this, getD_some (List.getElem?_eq_getElem this), h.st _ _ (List.getElem?_eq_getElem this)⟩

/-- A packet is taken. -/
theorem WInv.pop {a : Pk × Nat} (h : WInv N m ns X M K A T (a :: pend) S) : WInv N m ns X (M - a.1.L) (K - a.1.W) (A - a.1.L) T pend S ∧ PkOk N m S.ls a.1 := by
  refine ⟨{ h with
    wb := fun p row hp k x hx => by have := h.wb p row hp k x hx; simp only [List.cons_append, Lc] at this; omega
    pk := fun b hb => h.pk b (by simp only [List.cons_append]; exact List.mem_cons_of_mem _ hb)
    wgt := by have := h.wgt; simp only [List.cons_append, Wc] at this; omega
    seb := by have := h.seb; simp only [List.cons_append, Lc] at this; omega
    mx := by have := h.mx; have := a.1.L_nonneg; omega }, h.pk a (by simp)⟩
/-- A packet is sent. -/
theorem WInv.send (h : WInv N m ns X M K A T pend S) (fates : List Int) {p : Pk} (hp : PkOk N m S.ls p) (hX : M + 2 * p.L ≤ X) : WInv N m ns X (M + 2 * p.L) (K + 2 * p.W) (A + 1 + 2 * p.L) T pend (sendS fates p S) := by
  have hL : Lc (pend ++ (sendS fates p S).fl) ≤ Lc (pend ++ S.fl) + 2 * p.L := by
    have := p.L_nonneg
    unfold sendS delayS
    simp only [Lc_append]
    split
    · simp [Lc]; omega
    · split
      · simp [Lc]; omega
      · split
        · simp [Lc]; omega
        · simp [Lc]; omega
  have hW : Wc (pend ++ (sendS fates p S).fl) ≤ Wc (pend ++ S.fl) + 2 * p.W := by
    have := p.W_pos
    unfold sendS delayS
    simp only [Wc_append]
    split
    · simp [Wc]; omega
    · split
      · simp [Wc]; omega
      · split
        · simp [Wc]; omega
        · simp [Wc]; omega
  exact { h with
    wb := fun q row hq k x hx => by have := h.wb q row hq k x hx; omega
    pk := fun b hb => by
      rcases List.mem_append.1 hb with hb | hb
      · exact h.pk b (List.mem_append_left _ hb)
      · rcases List.mem_append.1 hb with hb | hb
        · exact h.pk b (List.mem_append_right _ hb)
        · obtain ⟨n, _, rfl⟩ := List.mem_map.1 hb
          exact hp
    wgt := by have := h.wgt; omega
    seb := by
      have := h.seb
      have e : (sendS fates p S).se = S.se + 1 := rfl
      rw [e]
      omega
    mx := hX }
/-- A letter waits. -/
theorem WInv.wait (h : WInv N m ns X M K A T pend S) {p k : Nat} (hp : p < N) (hk : k < m p) (hX : M + 1 ≤ X) : WInv N m ns X (M + 1) K A T pend (waitS p k S) := by
  obtain ⟨row, hr, hg, hl⟩ := h.wrow hp
  have hk' : k < row.length := by omega
  have hx := List.getElem?_eq_getElem hk'
  have e : waitS p k S = { S with wt := S.wt.set p (row.set k (row[k] + 1)), lg := S.lg || decide (1048576 < row[k] + 1) } := by
    unfold waitS bump
    rw [hg, getD_some hx]
  rw [e]
  have hb := h.wb p row hr k _ hx
  have hn := Lc_nonneg (pend ++ S.fl)
  exact { h with
    nwt := by show (S.wt.set p _).length = N; rw [List.length_set]; exact h.nwt
    wl := fun q r hq => by
      rcases set_get hq with ⟨rfl, rfl⟩ | ⟨_, hq⟩
      · rw [List.length_set]; exact hl
      · exact h.wl q r hq
    wb := fun q r hq i x hi => by
      show 0 ≤ x ∧ x + Lc (pend ++ S.fl) ≤ M + 1
      rcases set_get hq with ⟨rfl, rfl⟩ | ⟨_, hq⟩
      · rcases set_get hi with ⟨rfl, rfl⟩ | ⟨_, hi⟩
        · omega
        · have := h.wb q row hr i x hi; omega
      · have := h.wb q r hq i x hi; omega
    lg := fun hM => by
      show (S.lg || decide (1048576 < row[k] + 1)) = false
      rw [h.lg hM]
      simp
      omega
    mx := hX }
/-- A line's numbers change, what it holds in all does not become less. -/
theorem WInv.setLn (h : WInv N m ns X M K A T pend S) {j : Nat} {l l' : Ln} (hl : S.ls[j]? = some l) (hj : j < N * N) {T' : Int} (hT : T ≤ T') (ht : l.tot ≤ l'.tot) (htT : (l'.tot : Int) ≤ T') (hac : l'.ac ≤ l'.tot) (hsn : l'.sn ≤ S.tk) (hq : ∀ a ∈ l'.q, 0 ≤ a ∧ a < (m (j % N) : Nat)) :
    WInv N m ns X M K A T' pend { S with ls := S.ls.set j l' } :=
  { h with
    nls := by show (S.ls.set j l').length = N * N; rw [List.length_set]; exact h.nls
    cb := fun p row hp k x hx => by have := h.cb p row hp k x hx; omega
    lb := fun i y hi => by
      rcases set_get hi with ⟨rfl, rfl⟩ | ⟨_, hi⟩
      · exact ⟨htT, hac, hsn, hq⟩
      · obtain ⟨a, b⟩ := h.lb i y hi; exact ⟨by omega, b⟩
    pk := fun b hb => PkOk.grow (tot_set (by rw [getD_some hl]; exact ht)) (h.pk b hb) }

theorem dropL_tot : ∀ (q : List Int) (rm sn num : Nat), (dropL q rm sn num).2.1 + (dropL q rm sn num).1.length = rm + q.length ∧ ((dropL q rm sn num).2.2 = sn ∨ (dropL q rm sn num).2.2 = 0) ∧ ∀ a ∈ (dropL q rm sn num).1, a ∈ q
  | [], rm, sn, num => ⟨rfl, .inl rfl, fun a ha => ha⟩
  | x :: r, rm, sn, num => by
    unfold dropL
    split
    · obtain ⟨h1, h2, h3⟩ := dropL_tot r (rm + 1) 0 num
      refine ⟨by rw [h1]; simp; omega, .inr (by rcases h2 with h2 | h2 <;> exact h2), fun a ha => List.mem_cons_of_mem _ (h3 a ha)⟩
    · exact ⟨rfl, .inl rfl, fun a ha => ha⟩
theorem drop_tot (l : Ln) (num : Nat) : (l.drop num).tot = l.tot ∧ ((l.drop num).sn = l.sn ∨ (l.drop num).sn = 0) ∧ (∀ a ∈ (l.drop num).q, a ∈ l.q) ∧ (l.drop num).ac = l.ac := by
  obtain ⟨h1, h2, h3⟩ := dropL_tot l.q l.rm l.sn num
  exact ⟨h1, h2, h3, rfl⟩

/-- A packet is handled. -/
theorem WInv.handle (fates : List Int) {a : Pk × Nat} (h : WInv N m ns X M K A T (a :: pend) S) (hN : 0 < N) : WInv N m ns X M K A T pend (handleS N fates a.1 S) := by
  obtain ⟨hp, hk⟩ := h.pop
  have hmx := h.mx
  obtain ⟨p, t⟩ := a
  cases p with
  | ack j num =>
    obtain ⟨hj, hnum⟩ := hk
    obtain ⟨l, hl, hgl⟩ := hp.line hj
    obtain ⟨a1, a2, a3, a4⟩ := hp.lb j l hl
    obtain ⟨d1, d2, d3, d4⟩ := drop_tot l num
    simp only [Pk.L, Pk.W] at hp
    have := (hp.setLn (l' := l.drop num) hl hj (Int.le_refl T) (Nat.le_of_eq d1.symm) (by rw [d1]; exact a1) (by rw [d1, d4]; exact a2) (by rcases d2 with e | e <;> rw [e]; exact a3; exact Nat.zero_le _) fun a ha => a4 a (d3 a ha)).mono (M' := M) (K' := K) (A' := A) (T' := T) (by omega) (by omega) (by omega) (by omega) (Int.le_refl X) hmx
    simpa only [handleS, hgl] using this
  | lett j num kind =>
    obtain ⟨hj, hnum, hk1, hk2⟩ := hk
    obtain ⟨l, hl, hgl⟩ := hp.line hj
    obtain ⟨a1, a2, a3, a4⟩ := hp.lb j l hl
    simp only [Pk.L, Pk.W] at hp
    unfold handleS
    simp only [hgl]
    rw [hgl] at hnum
    have hj2 : j % N < N := Nat.mod_lt _ hN
    by_cases hn : num = l.ac + 1
    · rw [if_pos hn]
      have h1 := hp.setLn (l' := { l with ac := l.ac + 1 }) hl hj (Int.le_refl T) (Nat.le_refl _) a1 (by show l.ac + 1 ≤ l.tot; omega) a3 a4
      have h2 := h1.wait hj2 (k := kind.toNat) (by omega) (by omega)
      have h3 := h2.send fates (p := .ack j (l.ac + 1)) ⟨hj, by
        show l.ac + 1 ≤ ((S.ls.set j { l with ac := l.ac + 1 }).getD j Ln.none).tot
        have hjl := (List.getElem?_eq_some_iff.1 hl).1
        rw [getD_set, if_pos ⟨rfl, hjl⟩]
        show l.ac + 1 ≤ l.tot
        omega⟩ (by simp only [Pk.L]; omega)
      simp only [Pk.L, Pk.W] at h3
      exact h3.mono (by omega) (by omega) (by omega) (Int.le_refl _) (Int.le_refl _) hmx
    · rw [if_neg hn]
      have h3 := hp.send fates (p := .ack j l.ac) ⟨hj, by rw [hgl]; exact a2⟩ (by simp only [Pk.L]; omega)
      simp only [Pk.L, Pk.W] at h3
      exact h3.mono (by omega) (by omega) (by omega) (Int.le_refl _) (Int.le_refl _) hmx

/-- A tick begins: the packets of this tick are taken out. -/
theorem WInv.begin_ (h : WInv N m ns X M K A T [] S) : WInv N m ns X M K A T ((S.fl.filter fun a => a.2 == S.tk + 1)) { S with tk := S.tk + 1, fl := S.fl.filter fun a => !(a.2 == S.tk + 1) } := by
  have hL : Lc ((S.fl.filter fun a => a.2 == S.tk + 1) ++ S.fl.filter fun a => !(a.2 == S.tk + 1)) = Lc S.fl := by rw [Lc_append]; exact Lc_split (fun a => a.2 == S.tk + 1) S.fl
  have hW : Wc ((S.fl.filter fun a => a.2 == S.tk + 1) ++ S.fl.filter fun a => !(a.2 == S.tk + 1)) = Wc S.fl := by rw [Wc_append]; exact Wc_split (fun a => a.2 == S.tk + 1) S.fl
  exact { h with
    wb := fun p row hp k x hx => by have := h.wb p row hp k x hx; simp only [List.nil_append] at this; rw [hL]; exact this
    lb := fun j l hl => by obtain ⟨a, b, c, d⟩ := h.lb j l hl; exact ⟨a, b, by show l.sn ≤ S.tk + 1; omega, d⟩
    pk := fun b hb => h.pk b (by
      simp only [List.nil_append]
      rcases List.mem_append.1 hb with hb | hb
      · exact (List.mem_filter.1 hb).1
      · exact (List.mem_filter.1 hb).1)
    wgt := by have := h.wgt; simp only [List.nil_append] at this; rw [hW]; exact this
    seb := by have := h.seb; simp only [List.nil_append] at this; rw [hL]; exact this }

theorem leastS_some {row : List Int} {k : Nat} (h : leastS row = some k) : ∃ x, row[k]? = some x ∧ 0 < x := by
  unfold leastS at h
  rw [List.findIdx?_eq_some_iff_getElem] at h
  obtain ⟨hk, h1, _⟩ := h
  exact ⟨row[k], List.getElem?_eq_getElem hk, by simpa using h1⟩

/-- One output. -/
theorem WInv.put (h : WInv N m ns X M K A T pend S) {p : Nat} (hp : p < N) {x : Int × Int} (h1 : 0 ≤ x.1 ∧ x.1 < N) (h2 : 0 ≤ x.2 ∧ x.2 < (m x.1.toNat : Nat)) (hX : M + 1 ≤ X) : WInv N m ns X (M + 1) K A (T + 1) pend (putS N p x S) := by
  unfold putS
  split
  · rename_i e
    have e2 : x.1.toNat = p := by omega
    rw [e2] at h2
    exact (h.wait hp (k := x.2.toNat) (by omega) hX).mono (Int.le_refl _) (Int.le_refl _) (Int.le_refl _) (by omega) (Int.le_refl _) hX
  · have hq : x.1.toNat < N := by omega
    have hj : p * N + x.1.toNat < N * N := by
      have : (p + 1) * N ≤ N * N := Nat.mul_le_mul_right N hp
      rw [Nat.succ_mul] at this
      omega
    obtain ⟨l, hl, hgl⟩ := h.line hj
    obtain ⟨a1, a2, a3, a4⟩ := h.lb _ l hl
    rw [hgl]
    have hm : (p * N + x.1.toNat) % N = x.1.toNat := by rw [Nat.add_comm, Nat.add_mul_mod_self_right, Nat.mod_eq_of_lt hq]
    have e : ({ l with q := l.q ++ [x.2] } : Ln).tot = l.tot + 1 := by unfold Ln.tot; simp; omega
    exact (h.setLn (l' := { l with q := l.q ++ [x.2] }) (T' := T + 1) hl hj (by omega) (by rw [e]; omega) (by rw [e]; push_cast; omega) (by rw [e]; show l.ac ≤ _; omega) a3 (fun a ha => by
      rcases List.mem_append.1 ha with ha | ha
      · exact a4 a ha
      · rw [List.mem_singleton] at ha; rw [ha, hm]; exact h2)).mono (by omega) (Int.le_refl _) (Int.le_refl _) (Int.le_refl _) (Int.le_refl _) hX
/-- Before the outputs of a processor that reads letter k. -/
theorem WInv.readIn {σ : Nat} {next : Nat → Int → Nat → Int} {sent : Nat → Int → Nat → List (Int × Int)} (hn : NetOk N σ m ns next sent) (h : WInv N m ns X M K A T pend S) {p k : Nat} (hp : p < N) (hk : leastS (S.wt.getD p []) = some k) :
    WInv N m ns X M K A (T + 1) pend { S with wt := bump S.wt p k (-1), ct := bump S.ct p k 1, st := S.st.set p (next p (S.st.getD p 0) k) } := by
  obtain ⟨row, hr, hg, hl⟩ := h.wrow hp
  obtain ⟨cr, hc, hgc, hlc⟩ := h.crow hp
  obtain ⟨s, hs, hgs, s0, s1⟩ := h.state hp
  rw [hg] at hk
  obtain ⟨x, hx, x0⟩ := leastS_some hk
  have hkl : k < row.length := (List.getElem?_eq_some_iff.1 hx).1
  have hy := List.getElem?_eq_getElem (show k < cr.length by omega)
  have hb := h.wb p row hr k x hx
  have hcb := h.cb p cr hc k _ hy
  have hnx := hn.next p s k hp s0 s1 (by omega)
  unfold bump
  rw [hg, hgc, hgs, getD_some hx, getD_some hy]
  exact { h with
    nst := by show (S.st.set p _).length = N; rw [List.length_set]; exact h.nst
    nwt := by show (S.wt.set p _).length = N; rw [List.length_set]; exact h.nwt
    nct := by show (S.ct.set p _).length = N; rw [List.length_set]; exact h.nct
    st := fun q t ht => by
      rcases set_get ht with ⟨rfl, rfl⟩ | ⟨_, ht⟩
      · exact hnx
      · exact h.st q t ht
    wl := fun q r hq => by
      rcases set_get hq with ⟨rfl, rfl⟩ | ⟨_, hq⟩
      · rw [List.length_set]; exact hl
      · exact h.wl q r hq
    cl := fun q r hq => by
      rcases set_get hq with ⟨rfl, rfl⟩ | ⟨_, hq⟩
      · rw [List.length_set]; exact hlc
      · exact h.cl q r hq
    wb := fun q r hq i y hi => by
      show 0 ≤ y ∧ y + Lc (pend ++ S.fl) ≤ M
      rcases set_get hq with ⟨rfl, rfl⟩ | ⟨_, hq⟩
      · rcases set_get hi with ⟨rfl, rfl⟩ | ⟨_, hi⟩
        · omega
        · exact h.wb q row hr i y hi
      · exact h.wb q r hq i y hi
    cb := fun q r hq i y hi => by
      rcases set_get hq with ⟨rfl, rfl⟩ | ⟨_, hq⟩
      · rcases set_get hi with ⟨rfl, rfl⟩ | ⟨_, hi⟩
        · omega
        · have := h.cb q cr hc i y hi; omega
      · have := h.cb q r hq i y hi; omega
    lb := fun j l hl => by obtain ⟨a, b⟩ := h.lb j l hl; exact ⟨by omega, b⟩ }
theorem WInv.puts {p : Nat} (hp : p < N) : ∀ (l : List (Int × Int)) {M T : Int} {S : Wr}, WInv N m ns X M K A T pend S → (∀ x ∈ l, 0 ≤ x.1 ∧ x.1 < N ∧ 0 ≤ x.2 ∧ x.2 < (m x.1.toNat : Nat)) → M + l.length ≤ X →
    WInv N m ns X (M + l.length) K A (T + l.length) pend (l.foldl (fun w x => putS N p x w) S)
  | [], M, T, S, h, _, hX => by simpa using h
  | x :: r, M, T, S, h, hx, hX => by
    rw [List.foldl_cons]
    simp only [List.length_cons] at hX ⊢
    push_cast at hX ⊢
    obtain ⟨a, b, c, d⟩ := hx x (by simp)
    have h1 := WInv.puts hp r (h.put hp ⟨a, b⟩ ⟨c, d⟩ (by omega)) (fun y hy => hx y (by simp [hy])) (by omega)
    exact h1.mono (by omega) (Int.le_refl _) (Int.le_refl _) (by omega) (Int.le_refl _) (by omega)
/-- A processor reads. -/
theorem WInv.read {σ : Nat} {next : Nat → Int → Nat → Int} {sent : Nat → Int → Nat → List (Int × Int)} (hn : NetOk N σ m ns next sent) (h : WInv N m ns X M K A T pend S) {p : Nat} (hp : p < N) (hX : M + σ ≤ X) :
    WInv N m ns X (M + σ) K A (T + 1 + σ) pend (readS N next sent p S) := by
  unfold readS
  rcases hk : leastS (S.wt.getD p []) with _ | k
  · exact h.mono (by omega) (Int.le_refl _) (Int.le_refl _) (by omega) (Int.le_refl _) hX
  · obtain ⟨row, hr, hg, hl⟩ := h.wrow hp
    obtain ⟨s, hs, hgs, s0, s1⟩ := h.state hp
    have hk2 := hk
    rw [hg] at hk2
    obtain ⟨x, hx, x0⟩ := leastS_some hk2
    have hkl : k < row.length := (List.getElem?_eq_some_iff.1 hx).1
    have hf := hn.few p s k hp s0 s1 (by omega)
    have ho := hn.out p s k hp s0 s1 (by omega)
    simp only
    rw [hgs]
    have h1 := h.readIn hn hp hk
    rw [hgs] at h1
    exact (WInv.puts hp _ h1 ho (by omega)).mono (by omega) (Int.le_refl _) (Int.le_refl _) (by omega) (Int.le_refl _) hX
/-- A line sends. -/
theorem WInv.lineS (h : WInv N m ns X M K A T [] S) (fates : List Int) {j : Nat} (hj : j < N * N) (hX : M + 2 ≤ X) : WInv N m ns X (M + 2) (K + 6) (A + 3) T [] (lineS fates j S) := by
  obtain ⟨l, hl, hgl⟩ := h.line hj
  obtain ⟨a1, a2, a3, a4⟩ := h.lb _ l hl
  unfold Go.Proofs.Ytnigfddanoaonaa.lineS
  rw [hgl]
  rcases hq : l.q with _ | ⟨a, r⟩
  · exact h.mono (by omega) (by omega) (by omega) (Int.le_refl _) (Int.le_refl _) hX
  · simp only
    split
    · have ht : l.rm + 1 ≤ l.tot := by unfold Ln.tot; rw [hq]; simp
      have hp : PkOk N m S.ls (.lett j (l.rm + 1) a) := ⟨hj, by rw [hgl]; exact ht, (a4 a (by rw [hq]; simp)).1, (a4 a (by rw [hq]; simp)).2⟩
      have h1 := h.send fates hp (by simp only [Pk.L]; omega)
      simp only [Pk.L, Pk.W] at h1
      have h2 := h1.setLn (l' := { l with sn := S.tk }) hl hj (Int.le_refl T) (Nat.le_refl _) a1 a2 (Nat.le_refl _) a4
      exact (h2.mono (by omega) (by omega) (by omega) (Int.le_refl _) (Int.le_refl _) hX)
    · exact h.mono (by omega) (by omega) (by omega) (Int.le_refl _) (Int.le_refl _) hX

theorem WInv.handles (fates : List Int) (hN : 0 < N) : ∀ (l : List (Pk × Nat)) {S : Wr}, WInv N m ns X M K A T l S → WInv N m ns X M K A T [] (l.foldl (fun w a => handleS N fates a.1 w) S)
  | [], S, h => h
  | a :: r, S, h => by
    rw [List.foldl_cons]
    exact WInv.handles fates hN r (h.handle fates hN)
theorem WInv.arrive (fates : List Int) (hN : 0 < N) (h : WInv N m ns X M K A T [] S) : WInv N m ns X M K A T [] (arriveS N fates { S with tk := S.tk + 1 }) := WInv.handles fates hN _ h.begin_
theorem WInv.reads {σ : Nat} {next : Nat → Int → Nat → Int} {sent : Nat → Int → Nat → List (Int × Int)} (hn : NetOk N σ m ns next sent) (h : WInv N m ns X M K A T [] S) :
    ∀ i, i ≤ N → M + (i * σ : Nat) ≤ X → WInv N m ns X (M + (i * σ : Nat)) K A (T + (i * (σ + 1) : Nat)) [] ((List.range i).foldl (fun w p => readS N next sent p w) S)
  | 0, _, hX => by simpa using h
  | i + 1, hi, hX => by
    rw [List.range_succ, List.foldl_append]
    have e1 : (i + 1) * σ = i * σ + σ := Nat.succ_mul _ _
    have e2 : (i + 1) * (σ + 1) = i * (σ + 1) + (σ + 1) := Nat.succ_mul _ _
    have h1 := WInv.reads hn h i (by omega) (by omega)
    exact (h1.read hn (p := i) (by omega) (by omega)).mono (by omega) (Int.le_refl _) (Int.le_refl _) (by omega) (Int.le_refl _) hX
theorem WInv.lines (fates : List Int) (h : WInv N m ns X M K A T [] S) : ∀ i, i ≤ N * N → M + (2 * i : Nat) ≤ X → WInv N m ns X (M + (2 * i : Nat)) (K + (6 * i : Nat)) (A + (3 * i : Nat)) T [] ((List.range i).foldl (fun w j => Go.Proofs.Ytnigfddanoaonaa.lineS fates j w) S)
  | 0, _, hX => by simpa using h
  | i + 1, hi, hX => by
    rw [List.range_succ, List.foldl_append]
    have h1 := WInv.lines fates h i (by omega) (by omega)
    exact (h1.lineS fates (j := i) (by omega) (by omega)).mono (by omega) (by omega) (by omega) (Int.le_refl _) (Int.le_refl _) hX
/-- A tick. -/
theorem WInv.tick {σ : Nat} {next : Nat → Int → Nat → Int} {sent : Nat → Int → Nat → List (Int × Int)} (hn : NetOk N σ m ns next sent) (fates : List Int) (hN : 0 < N) (h : WInv N m ns X M K A T [] S) (hX : M + (N * σ : Nat) + (2 * (N * N) : Nat) ≤ X) :
    WInv N m ns X (M + (N * σ : Nat) + (2 * (N * N) : Nat)) (K + (6 * (N * N) : Nat)) (A + (3 * (N * N) : Nat)) (T + (N * (σ + 1) : Nat)) [] (tickS N next sent fates S) :=
  WInv.lines fates (WInv.reads hn (h.arrive fates hN) N (Nat.le_refl _) (by omega)) (N * N) (Nat.le_refl _) hX
end

end Go.Proofs.Ytnigfddanoaonaa

set_option linter.unusedVariables false
set_option linter.unusedSimpArgs false
set_option linter.unnecessarySimpa false
namespace Go.Proofs.Ytnigfddanoaonaa
open Go.RowKit

/-- append of one element in a plain region, and where the new slice lies. -/
theorem wpList_append_at {α : Type} {R : Rep α} {P : Program} {ops : Array Oper} {rest : List Oper} {o : Oper} {a : Act} {w : World} {Q : Exit → Act → World → Prop} (hgd : o.guard = none) (s x : Operand) (t : TypeId)
    (ho : o.op = .call { callee := .builtin .append, args := #[s, x], argTypes := #[t, t] })
    (base : Nat) (e : TypeId) (z : Value) (size bytes : Nat) (ht : P.underlying t = some (.slice e)) (hinfo : (P.info? e).map (fun i => (i.zero, i.size, i.bytes)) = some (some z, size, bytes))
    (hzs : z.cells.size = size) (hsz : 0 < size) (ok : RepOk R size)
    (F : Foot) (v : Value) (xs : List α) (hs : a.eval s = v) (hown : OwnS R size base e F w v xs)
    (ad : Addr) (c : Nat) (news : List Value) (y : α) (hx : a.eval x = .slice (some ad) 1 c) (hnews : ∀ j u, news[j]? = some u → w.cell? (ad.add j) = some u) (hR : R F w news y) (hF : ∀ k, F k → k < base)
    (hbytes : (xs.length + 1) * bytes ≤ 140737488355328) (hm : xs.length + 1 ≤ maxLen) (hbase : base ≤ w.heap.size)
    (hK : ∀ v' w', OwnS R size base e F w' v' (xs ++ [y]) → Below base w w' → w.grownBy w' v.ownBlock → (∀ k, v'.ownBlock = some k → v.ownBlock = some k ∨ k = w.heap.size) → wpList P ops Q rest (a.put o.dst v') w') :
    wpList P ops Q (o :: rest) a w := by
  obtain ⟨i0, hi, hz0, hz1, hz2⟩ := info_parts hinfo
  obtain ⟨cells, hown0, h1, hc⟩ := hown
  have hnl := ok.len hR
  refine wpList_append_lies (w := w) hgd s x t ho base e i0 z size bytes ht hi hz0 hz1 hz2 hzs hsz v xs.length cells hs hown0 ad 1 c news hx (by rw [hnl, Nat.one_mul]) hnews (ok.one hR) (by omega) hm hbytes hbase w.heap.size rfl fun g cap w' h2 h3 h4 h5 => ?_
  have hb : Below base w w' := (Below.refl base w).grown h3 hbase fun k hk => (hown0.lt k hk).1
  have hsame : SameOn F w w' := fun k hk _ => hb.block k (hF k hk)
  have hn3 : ∀ u ∈ news, u.oneCell' = true := ok.one hR
  refine hK _ w' ?_ hb h3 fun k hk => ?_
  · have hl : (xs ++ [y]).length = xs.length + 1 := by simp
    refine ⟨cells ++ news, by rw [hl]; exact h2, ?_, ?_⟩
    · intro u hu
      rcases List.mem_append.1 hu with hu | hu
      · exact h1 u hu
      · exact hn3 u hu
    · intro i q hq
      have hcl : cells.length = xs.length * size := hown0.1
      by_cases hlt : i < xs.length
      · rw [chunk_app_left hcl hlt]
        rw [List.getElem?_append_left hlt] at hq
        exact ok.keep (hc i q hq) hsame
      · have hie : i = xs.length := by
          have := (List.getElem?_eq_some_iff.1 hq).1
          simp at this
          omega
        subst hie
        have hqy : q = y := by simpa using hq.symm
        subst hqy
        have : chunk size xs.length (cells ++ news) = news := by
          unfold chunk
          rw [← hcl, List.drop_left, List.take_of_length_le (by omega)]
        rw [this]
        exact ok.keep hR hsame
  · simp [Value.ownBlock] at hk
    subst hk
    exact h4

section
variable {B N : Nat} {L : WLay} {oP : Option Addr} {cP : Nat} {oF : Option Addr} {nF cF : Nat} {S : Wr} {W W' : World}
variable {m : Nat → Nat} {ns : Nat → Int} {X M K A T : Int} {pend : List (Pk × Nat)}

theorem handle_inv {a : Pk × Nat} (h : Wires B N L oP cP oF nF cF S W) (hi : WInv N m ns X M K A T (a :: pend) S) (fates : List Int) (hnF : nF = fates.length) (hF : SliceR intR 1 (Lt B) W oF fates) (hB : B ≤ W.heap.size) (hN0 : 0 < N) (hN : N ≤ 1000) (hm : ∀ p, p < N → m p ≤ 1000000)
    (hM : M ≤ 1000000000000) (hT : T ≤ 1000000000) (hK : K ≤ 1000000000) (hA : A ≤ 1000000000000) (htk : S.tk ≤ 1000000000000) (hfc : fates.length ≤ 9223372036854775807) :
    Calls Try.prog 62 #[.pointer (some ⟨L.p, 0, none⟩), pkV L.bl a.1] W fun e w' => e = .returned (.tuple #[]) ∧ ∃ L', Wires B N L' oP cP oF nF cF (handleS N fates a.1 S) w' ∧ Went N L W L' w' := by
  obtain ⟨hp, hk⟩ := hi.pop
  have hLn := Lc_nonneg (pend ++ S.fl)
  have hWl := Wc_length (pend ++ S.fl)
  have hse := hp.seb
  have hwg := hp.wgt
  simp only [List.length_append] at hWl
  push_cast at hWl
  obtain ⟨p, t⟩ := a
  cases p with
  | ack j num =>
    obtain ⟨hj, hnum⟩ := hk
    obtain ⟨l, hl, hgl⟩ := hp.line hj
    obtain ⟨a1, a2, a3, a4⟩ := hp.lb j l hl
    rw [hgl] at hnum
    have e : handleS N fates (.ack j num) S = { S with ls := S.ls.set j (l.drop num) } := by simp only [handleS, hgl]
    show Calls Try.prog 62 #[.pointer (some ⟨L.p, 0, none⟩), pkV L.bl (.ack j num)] W _
    rw [e]
    exact handleA_any h hl num (by omega) (by have : l.tot = l.rm + l.q.length := rfl; omega)
  | lett j num kind =>
    obtain ⟨hj, hnum, hk1, hk2⟩ := hk
    obtain ⟨l, hl, hgl⟩ := hp.line hj
    obtain ⟨a1, a2, a3, a4⟩ := hp.lb j l hl
    rw [hgl] at hnum
    obtain ⟨k, rfl⟩ : ∃ k : Nat, kind = k := ⟨kind.toNat, by omega⟩
    have hj2 : j % N < N := Nat.mod_lt _ hN0
    obtain ⟨row, hr, hg, hrl⟩ := hp.wrow hj2
    have hkl : k < row.length := by omega
    have hx := List.getElem?_eq_getElem hkl
    have hb := hp.wb _ row hr k _ hx
    have hm2 := hm _ hj2
    simp only [Pk.L, Pk.W] at hb hse hwg
    exact handleL_any h fates hnF hF hB hl num hr hx (by omega) (by omega) (by omega) hN (by omega) (by omega) htk (by omega) hfc

/-- The packets under way are another list. -/
theorem Wires.setFly (h : Wires B N L oP cP oF nF cF S W) {v : Value} {ys : List (Pk × Nat)} (hown : OwnS (arrR L.bl) 2 B 120 Non W v ys) :
    Wires B N { L with fv := v } oP cP oF nF cF { S with fl := ys } (W.setCell ⟨L.p, 6, none⟩ v) := by
  have n2 : ∀ (k : Nat) (x : Array Value) (t : TypeId), W.heap[k]? = some (Obj.cells x t (0, 0)) → t ≠ 65 → (W.setCell ⟨L.p, 6, none⟩ v).heap[k]? = W.heap[k]? := fun k x t hk ht2 => Below.heap_setCell W ⟨L.p, 6, none⟩ v k (ne_type hk h.main ht2)
  exact { nst := h.nst, nwt := h.nwt, nct := h.nct, nls := h.nls
          main := by
            have := h.main.put 6 v
            exact this
          sts := h.sts.keep (n2 _ _ _ h.sts (by decide))
          wtab := h.wtab.keep (n2 _ _ _ h.wtab (by decide))
          wrow := fun i l hl => (h.wrow i l hl).keep (n2 _ _ _ (h.wrow i l hl) (by decide))
          ctab := h.ctab.keep (n2 _ _ _ h.ctab (by decide))
          crow := fun i l hl => (h.crow i l hl).keep (n2 _ _ _ (h.crow i l hl) (by decide))
          ltab := h.ltab.keep (n2 _ _ _ h.ltab (by decide))
          lin := fun j l hl => (h.lin j l hl).keep (n2 _ _ _ (h.lin j l hl) (by decide))
          lett := fun j l hl => (h.lett j l hl).keep fun g hgg => by
            obtain ⟨cur, hcur⟩ := ownN_heap (h.lett j l hl) hgg
            exact n2 _ _ _ hcur (by decide)
          fly := fly_keep hown fun g hgg => by
            obtain ⟨cur, hcur⟩ := fly_heap hown hgg
            exact Below.heap_setCell W ⟨L.p, 6, none⟩ v g (ne_type hcur h.main (by decide))
          apart := h.apart, lap := h.lap, tabs := h.tabs, low := h.low, lowi := h.lowi, lowl := h.lowl }
theorem Went.setFly {v : Value} {W0 : World} (hb : Below W0.heap.size W0 W) (hv : ∀ g, v.ownBlock = some g → W0.heap.size ≤ g) (u : Value) : Went N L W0 { L with fv := v } (W.setCell ⟨L.p, 6, none⟩ u) where
  os := hb.os
  tape := hb.tape
  output := hb.output
  size := by show W0.heap.size ≤ (W.heap.modify _ _).size; rw [Array.size_modify]; exact hb.size
  block := fun k hk hm => by
    rw [Below.heap_setCell W ⟨L.p, 6, none⟩ u k fun e => hm (.inl e)]
    exact hb.block k hk
  mine := fun k hk hm => by
    rcases hm with e | e | e | e | e | e | e | e | e | e
    · exact .inl e
    · exact .inr (.inl e)
    · exact .inr (.inr (.inl e))
    · exact .inr (.inr (.inr (.inl e)))
    · exact .inr (.inr (.inr (.inr (.inl e))))
    · exact .inr (.inr (.inr (.inr (.inr (.inl e)))))
    · exact .inr (.inr (.inr (.inr (.inr (.inr (.inl e))))))
    · exact .inr (.inr (.inr (.inr (.inr (.inr (.inr (.inl e)))))))
    · exact .inr (.inr (.inr (.inr (.inr (.inr (.inr (.inr (.inl e))))))))
    · have h2 := hv k e
      omega
  fix := ⟨_, _, rfl⟩
end

end Go.Proofs.Ytnigfddanoaonaa

set_option linter.unusedVariables false
set_option linter.unusedSimpArgs false
set_option linter.unnecessarySimpa false
namespace Go.Proofs.Ytnigfddanoaonaa
open Go.RowKit

section
variable {P : Program} {ops : Array Oper} {Q : Exit → Act → World → Prop} {md : Region.Mode}

/-- The operations that have to come before the i-th. -/
def preOf (md : Region.Mode) (ops : Array Oper) (i : Nat) : List Nat := ((ops[i]?).map fun o => (o.after.toList.filter (Region.binds md)).map (·.on)).getD []
def leftOf (ops : Array Oper) (listed : Array Bool) : Nat := (List.range ops.size).countP fun i => !listed.getD i true
end

end Go.Proofs.Ytnigfddanoaonaa

set_option linter.unusedVariables false
set_option linter.unusedSimpArgs false
set_option linter.unnecessarySimpa false
namespace Go.Proofs.Ytnigfddanoaonaa
open Go.RowKit

def badFate (x : Int) : Bool := decide (x < 0) || decide (3 < x)
def fateErr (l : List Int) : Int := if 4096 < l.length then 5 else if l.any badFate then 1 else 0
theorem wcheck_any (l : List Int) (oa : Option Addr) (c : Nat) (F : Foot) (w : World) (hs : SliceR intR 1 F w oa l) (hc2 : l.length ≤ 9223372036854775807) :
    Calls Try.prog 41 #[.slice oa l.length c] w fun e w' => e = .returned (.int .i64 (fateErr l)) ∧ w = w' := by
  by_cases hl : 4096 < l.length
  · have HR : Hid (fateErr l = 5) := if_pos hl
    clear hs
    go_enter Try.func41, Try.ntmps41
    go_wp2_with fail
    go_ret
    exact ⟨ret_int (by rw [HR.out]), rfl⟩
  · have HC := hide (hasFate l oa c F w hs hc2)
    have HR : Hid (fateErr l = if l.any badFate then 1 else 0) := if_neg hl
    have he : (l.any fun x => decide (x < 0) || decide (3 < x)) = l.any badFate := rfl
    rw [he] at HC
    obtain ⟨b, hb⟩ : ∃ b, b = l.any badFate := ⟨_, rfl⟩
    rw [← hb] at HC HR
    clear hs he hb
    cases b
    · go_enter Try.func41, Try.ntmps41
      go_wp2_with (go_at_call 51; refine HC.out.mono ?_; rintro e w' ⟨rfl, rfl⟩)
      go_ret
      exact ⟨ret_int (by rw [HR.out]; rfl), rfl⟩
    · go_enter Try.func41, Try.ntmps41
      go_wp2_with (go_at_call 51; refine HC.out.mono ?_; rintro e w' ⟨rfl, rfl⟩)
      go_ret
      exact ⟨ret_int (by rw [HR.out]; rfl), rfl⟩

theorem tabInfo : (Try.prog.info? 23).map (fun i => (i.zero, i.size, i.bytes)) = some (some (.slice none 0 0), 1, 24) := by kernel_rfl
theorem ptrInfo : (Try.prog.info? 90).map (fun i => (i.zero, i.size, i.bytes)) = some (some (.pointer none), 1, 8) := by kernel_rfl

theorem run_make_row {α : Type} {f : α → Value} {P : Program} (w : World) (t : TypeId) (e : TypeId) (x0 : α) (bytes : Nat) (h1 : P.underlying t = some (.slice e)) (hinfo : (P.info? e).map (fun i => (i.zero, i.size, i.bytes)) = some (some (f x0), 1, bytes))
    (hone : (f x0).cells = #[f x0]) (n : Nat) (b2 : bytes * n ≤ 281474976710656) (b3 : n ≤ maxLen) :
    ∃ w', Sem.run P (Instr.makeSlice t (.int .i64 (n : Int)) (.int .i64 (n : Int))) w = .ok (.slice (some ⟨w.heap.size, 0, none⟩) n n) w' ∧ Row1 f w' w.heap.size e (List.replicate n x0) [] ∧ w.grownBy w' none := by
  obtain ⟨i0, hi, hz0, hz1, hz2⟩ := info_parts hinfo
  obtain ⟨w', hrun, r1, r2⟩ := run_make_full (P := P) w w.heap.size t e i0 (f x0) 1 h1 hi hz0 hz1 .i64 .i64 n (by rw [hz2]; exact b2) b3 (Nat.le_refl _)
  have hrow : Row1 f w' w.heap.size e (List.replicate n x0) [] := by
    rcases r1.2 with ⟨he, _⟩ | ⟨g, cap, cur, he, _, hh, _, _, hcs, htake⟩
    · cases he
    · injection he with e1 e2 e3
      injection e1 with e1
      injection e1 with e1
      subst e1 e3
      have hcur : cur.toList = (List.replicate n x0).map f ++ [] := by
        rw [List.append_nil, List.map_replicate]
        rw [← List.take_of_length_le (l := cur.toList) (i := n * 1) (by simp; omega), htake]
        apply List.ext_getElem?
        intro j
        simp only [Array.getElem?_toList, madeCells, Array.getElem?_map, Array.getElem?_range, List.getElem?_replicate, hone]
        by_cases hj : j < n
        · simp [hj, Nat.mod_one]
        · simp [hj]
      unfold Row1
      rw [← hcur]
      exact hh
  exact ⟨w', hrun, hrow, r2⟩

set_option maxRecDepth 100000 in
set_option maxHeartbeats 4000000 in
theorem begun_any (x : Nwk) (op : Option Addr) (cp : Nat) (os : Option Addr) (cs : Nat) (ow : Option Addr) (cw : Nat) (fates : List Int) (oF : Option Addr) (cF : Nat) (ticks : Int) (F G : Foot) (w : World)
    (hp : SliceR prcR 3 F w op x.procs) (hs : SliceR intR 1 F w os x.state) (ht : SliceR (slcR intR 1) 1 F w ow x.waiting) (hz : netErr x = 0) (hF : SliceR intR 1 G w oF fates) (hfz : fateErr fates = 0) (hsc : x.state.length ≤ cs) (ht0 : 0 ≤ ticks) (ht1 : ticks ≤ 4096) :
    Calls Try.prog 23 #[.agg #[.slice op x.procs.length cp, .slice os x.state.length cs, .slice ow x.waiting.length cw], .slice oF fates.length cF, .int .i64 ticks] w fun e w' =>
      ∃ L, e = .returned (.tuple #[.pointer (some ⟨L.p, 0, none⟩), .int .i64 0]) ∧ Wires w.heap.size x.procs.length L op cp oF fates.length cF (beginS x.state x.waiting x.procs.length) w' ∧ Caps x.procs.length x.waiting (x.waiting.map fun l => List.replicate l.length 0) L ∧ Below w.heap.size w w' := by
  have hr := netErr_zero hz
  have hn0 := hr.n.1
  have hn1 := hr.n.2
  have hfl : fates.length ≤ 4096 := by
    unfold fateErr at hfz
    split at hfz
    · cases hfz
    · omega
  have HRT := hide hr
  have HP : Hid (SliceR prcR 3 (Lt w.heap.size) w op x.procs) := hp.wide prcR_ok (by decide) (fun _ _ h => h)
  have HS : Hid (SliceR intR 1 (Lt w.heap.size) w os x.state) := hs.wide intR_ok (by decide) (fun _ _ h => h)
  have HT : Hid (SliceR (slcR intR 1) 1 (Lt w.heap.size) w ow x.waiting) := ht.wide (slcR_ok intR_ok (by decide)) (by decide) (fun _ _ h => h)
  obtain ⟨n, hn⟩ : ∃ n, n = x.procs.length := ⟨_, rfl⟩
  have hsn : x.state.length = n := by rw [hn]; exact hr.nst
  have htn : x.waiting.length = n := by rw [hn]; exact hr.nwt
  obtain ⟨W1, e1⟩ : ∃ W1, w.alloc (.cells #[.slice op n cp, .slice os n cs, .slice ow n cw] 26) = W1 := ⟨_, rfl⟩
  have bx1 : Box W1 w.heap.size [.slice op n cp, .slice os n cs, .slice ow n cw] 26 := by rw [← e1]; exact Box.new w [.slice op n cp, .slice os n cs, .slice ow n cw] 26
  have bb1 := bnew (Below.refl w.heap.size w) (.cells #[.slice op n cp, .slice os n cs, .slice ow n cw] 26)
  rw [e1] at bb1
  have x0 := bx1.cell 0
  have x1 := bx1.cell 1
  have x2 := bx1.cell 2
  simp only [List.getElem?_cons_zero, List.getElem?_cons_succ] at x0 x1 x2
  have hcall := netCheck_any x.procs op cp x.state os cs x.waiting ow cw _ W1 (HP.out.below prcR_ok bb1) (by omega) (HS.out.below intR_ok bb1) (by omega) (HT.out.below (slcR_ok intR_ok (by decide)) bb1) (by omega)
  rw [← hn, hsn, htn, show (⟨x.procs, x.state, x.waiting⟩ : Nwk) = x from rfl, hz] at hcall
  have HC := hide hcall
  have HC2 := hide (fun w2 (h : Below w.heap.size w w2) => wcheck_any fates oF cF G w2 (hF.below intR_ok h) (by omega))
  rw [hfz] at HC2
  have HC3 := hide (fun (w2 : World) (h : Below w.heap.size w w2) => cloneIW_any x.state os cs _ w2 (HS.out.below intR_ok h) hsc (by omega))
  rw [hsn] at HC3
  rw [← hn, hsn, htn]
  have HN := hide hn
  have HSN := hide hsn
  have HTN := hide htn
  rw [← hn] at hn0 hn1
  obtain ⟨nF, hnF⟩ : ∃ nF, nF = fates.length := ⟨_, rfl⟩
  rw [← hnF] at HC2 hfl ⊢
  have HBX1 := hide bx1
  have HBB1 := hide bb1
  clear hcall hp hs ht hz hF hfz hr hn hsn htn hnF bx1 bb1
  go_enter Try.func23, Try.ntmps23
  go_wp2_with (first
    | (go_at_call 19; refine HC.out.mono ?_; rintro e w2 ⟨rfl, hb2⟩; have hbx2 := HBX1.out.below hb2; have hlt2 : w.heap.size < w2.heap.size := hbx2.lt; have x0 := hbx2.cell 0; have x1 := hbx2.cell 1; have x2 := hbx2.cell 2; simp only [List.getElem?_cons_zero, List.getElem?_cons_succ] at x0 x1 x2; have HBX2 := hide hbx2; have HBB2 := hide (HBB1.out.trans (hb2.mono HBB1.out.size)); clear hb2 hbx2)
    | (go_at_call 41; refine (HC2.out _ HBB2.out).mono ?_; rintro e w2' ⟨rfl, rfl⟩; obtain ⟨W3, e3⟩ : ∃ W3, w2.alloc (.cells #[.slice op n cp, .slice os n cs, .slice ow n cw, .slice none 0 0, .slice none 0 0, .slice oF nF cF, .slice none 0 0, .int .i64 0, .int .i64 0, .bool false] 65) = W3 := ⟨_, rfl⟩; have bx3 : Box W3 w2.heap.size [.slice op n cp, .slice os n cs, .slice ow n cw, .slice none 0 0, .slice none 0 0, .slice oF nF cF, .slice none 0 0, .int .i64 0, .int .i64 0, .bool false] 65 := by { rw [← e3]; exact Box.new w2 [.slice op n cp, .slice os n cs, .slice ow n cw, .slice none 0 0, .slice none 0 0, .slice oF nF cF, .slice none 0 0, .int .i64 0, .int .i64 0, .bool false] 65 }; have bb3 := bnew (Below.refl w2.heap.size w2) (.cells #[.slice op n cp, .slice os n cs, .slice ow n cw, .slice none 0 0, .slice none 0 0, .slice oF nF cF, .slice none 0 0, .int .i64 0, .int .i64 0, .bool false] 65); rw [e3] at bb3; have x1 := (HBX2.out.below bb3).cell 1; have x2 := (HBX2.out.below bb3).cell 2; simp only [List.getElem?_cons_zero, List.getElem?_cons_succ] at x1 x2; have HBX3 := hide bx3; have HBB3 := hide (HBB2.out.trans (bb3.mono HBB2.out.size)); have HBX2 := hide (HBX2.out.below bb3); clear bx3 bb3)
    | (go_at_call 42; refine (HC3.out _ HBB3.out).mono ?_; rintro e w4 ⟨v, rfl, h4, hb4⟩; obtain ⟨gs, cs2, rs, hv, hgs, hcs2, _, hrow4, _⟩ := h4.row (by intro e; have := HSN.out; rw [e] at this; simp at this; omega); rw [HSN.out] at hcs2 hv; have hcs3 : n ≤ cs2 := by { omega }; subst hv; clear hcs2; have bx4 := HBX3.out.below hb4; have k1 := bx4.cell 1; have kf1 := bx4.free 1; have p5 := bx4.put 1 (.slice (some ⟨gs, 0, none⟩) n cs2); obtain ⟨W5, e5⟩ : ∃ W5, w4.setCell ⟨w2.heap.size, 1, none⟩ (.slice (some ⟨gs, 0, none⟩) n cs2) = W5 := ⟨_, rfl⟩; have k2 := p5.cell 2; have kf2 := p5.free 2; have hne : w.heap.size ≠ w2.heap.size := by { omega }; have xb := ((HBX2.out.below hb4).other (p := ⟨w2.heap.size, 1, none⟩) hne (.slice (some ⟨gs, 0, none⟩) n cs2)).other (p := ⟨w2.heap.size, 2, none⟩) hne (.slice none 0 0); rw [e5] at k2 kf2 xb; have p6 := p5.put 2 (.slice none 0 0); rw [e5] at p6; obtain ⟨W6, e6⟩ : ∃ W6, W5.setCell ⟨w2.heap.size, 2, none⟩ (.slice none 0 0) = W6 := ⟨_, rfl⟩; rw [e6] at p6 xb; simp only [List.set_cons_zero, List.set_cons_succ, List.getElem?_cons_zero, List.getElem?_cons_succ] at k1 k2 p6; have z2 := xb.cell 2; simp only [List.getElem?_cons_zero, List.getElem?_cons_succ] at z2; have HX6 := hide xb; have HP6 := hide p6; have HR4 := hide hrow4; have HB4 := hide hb4; clear p6 p5 bx4 hrow4 hb4 h4 xb))
  obtain ⟨p, hpe⟩ : ∃ p, p = w2.heap.size := ⟨_, rfl⟩
  have hp3 : p < W3.heap.size := by rw [hpe]; exact HBX3.out.lt
  have hB6 : Below w.heap.size w W6 := by
    rw [← e6, ← e5]
    exact ((HBB3.out.trans (HB4.out.mono HBB3.out.size)).setCell (Nat.le_of_lt hlt2) _).setCell (Nat.le_of_lt hlt2) _
  have hR6 : Row1 (Value.int .i64) W6 gs 3 x.state rs := by
    rw [← e6, ← e5]
    exact (HR4.out.other (p := ⟨w2.heap.size, 1, none⟩) (fun e => by simp only at e; omega) _).other (p := ⟨w2.heap.size, 2, none⟩) (fun e => by simp only at e; omega) _
  have HPT : Hid (Part w.heap.size n p op cp oF nF cF gs cs2 x.state rs (.slice none 0 0) (.slice none 0 0) (.slice none 0 0) [] [] [] W6) := {
    main := by rw [hpe]; exact HP6.out
    nst := HSN.out
    sts := hR6
    wtab := OwnS.nil _ _ _ _ _ _
    wrow := fun r hr => by cases hr
    ctab := OwnS.nil _ _ _ _ _ _
    crow := fun r hr => by cases hr
    ltab := OwnS.nil _ _ _ _ _ _
    lin := fun j b hj => by simp at hj
    dw := fun i j a b ha => by simp at ha
    dc := fun i j a b ha => by simp at ha
    dwc := fun a ha => by cases ha
    dl := fun i j a ha => by simp at ha
    tabs := fun g h1 => by simp [Value.ownBlock] at h1
    low := ⟨by have := HBB3.out.size; omega, by have := HBB3.out.size; omega, hcs3⟩ }
  have HB6 := hide hB6
  have hpB : w.heap.size < p := by omega
  rw [← hpe] at hlt2 ⊢
  clear hB6 hR6 hpe k1 k2 kf1 kf2 z2 hne hp3 hgs x0 x1 x2 e1
  go_loopw [48] (fun iv wr => ∃ (i : Nat) (tw tc tl : Value) (rw_ rc : List Rw) (rl : List Nat), i ≤ n ∧ iv = .int .i64 i ∧ Hid (Part w.heap.size n p op cp oF nF cF gs cs2 x.state rs tw tc tl rw_ rc rl wr) ∧ Hid (rw_.map (·.l) = x.waiting.take i) ∧ Hid (rc.map (·.l) = (x.waiting.take i).map fun l => List.replicate l.length 0) ∧ Hid (rw_.length = i ∧ rc.length = i ∧ rl.length = i * n) ∧ Hid (Below w.heap.size w wr) ∧ Hid (Box wr w.heap.size [.slice op n cp, .slice os n cs, .slice ow n cw] 26)) (fun iv _ => n - (intOf iv).toNat)
  case atStart => exact ⟨0, _, _, _, _, _, _, by omega, rfl, HPT, rfl, rfl, ⟨rfl, rfl, by simp⟩, HB6, HX6⟩
  case round =>
    obtain ⟨i, tw, tc, tl, rw_, rc, rl, hi, rfl, HPA, HW, HCT, HLN, HBi, HXi⟩ := hrel
    by_cases hlt : i < n
    · obtain ⟨l, _, hwl, b1, off1, ol, cl, rfl, _, c4, hcl, hcl2, hsl⟩ := (HT.out.below (slcR_ok intR_ok (by decide)) ((HBi.out.mono (Nat.le_refl _)))).slc_at (i := i) (by have := HTN.out; omega)
      obtain ⟨hL1, hL2, hL3⟩ := HLN.out
      have hl8 : 1 ≤ l.length ∧ l.length ≤ 8 := by
        have hip : i < x.procs.length := by have := HN.out; omega
        have hpr := List.getElem?_eq_getElem hip
        have h1 := HRT.out.wl i l _ hwl hpr
        have h2 := check_zero (HRT.out.proc i _ hpr)
        omega
      have hsz := HBi.out.size
      obtain ⟨ot, ct_, htw, _, _⟩ := HPA.out.wtab.slice valR_ok
      simp only [List.length_map, hL1] at htw
      subst htw
      have m2 := HPA.out.main.cell 2
      have mf2 := HPA.out.main.free 2
      simp only [List.getElem?_cons_zero, List.getElem?_cons_succ] at m2
      have m2d : wr.drew.cell? ⟨p, 2, none⟩ = some (.slice ot i ct_) := m2
      have mf2d : wr.drew.frozen? ⟨p, 2, none⟩ = false := mf2
      have hcl3 := cloneIW_any l ol cl _ wr.drew (hsl.keep intR_ok (fun _ _ _ => rfl)) hcl (by omega)
      obtain ⟨ll, hll⟩ : ∃ ll, ll = l.length := ⟨_, rfl⟩
      have HLL := hide hll
      rw [← hll] at hcl3 c4 hl8 hcl
      have HCL := hide hcl3
      have HWL := hide hwl
      have HLEN : Hid ((rw_.map Rw.val).length = i) := by show _ = _; rw [List.length_map]; exact hL1
      clear hwl hsl hcl2 hcl3 hll hL1 hL2 hL3
      go_upto_region 14 with fail
      go_cut [48] (fun s48 wx => s48 = .int .i64 (i : Nat) ∧ ∃ (tw' : Value) (r : Rw), Hid (r.l = l) ∧ Hid (Part w.heap.size n p op cp oF nF cF gs cs2 x.state rs tw' tc tl (rw_ ++ [r]) rc rl wx) ∧ Hid (Below w.heap.size w wx) ∧ Hid (Box wx w.heap.size [.slice op n cp, .slice os n cs, .slice (some ⟨b1, off1, none⟩) n cw] 26))
      case first =>
        go_wp2_with fail
        go_region_law (first
          | (refine step_append_at rfl (.tmp 58) (.tmp 61) 24 rfl w.heap.size 23 _ 1 24 Try.underlying24 tabInfo rfl (by decide) valR_ok Non (.slice ot i ct_) (rw_.map Rw.val) (by simp [Act.eval, Act.put]) (OwnS.new valR_ok HT7.out _) ⟨_, 0, none⟩ 1 [.slice (some ⟨gr, 0, none⟩) ll capr] (.slice (some ⟨gr, 0, none⟩) ll capr) (by simp [Act.eval, Act.put]) (World.news_of_block (heap_alloc_new _ _)) ⟨rfl, rfl⟩ (fun _ h => h.elim) (by rw [HLEN.out]; omega) (by rw [HLEN.out]; unfold maxLen; omega) (by simp; omega) ?_; intro v' w8 ho hb hg hat; have hbm := (HM7.out.next _).grown hg (fun e => by obtain ⟨cur, hcur⟩ := own_heap HT7.out e.symm; exact ne_type HM7.out hcur (by decide) rfl); have k6 := hbm.cell 2; have kf := hbm.free 2; obtain ⟨o3, c3, rfl, _, _⟩ := ho.slice valR_ok; simp only [List.getElem?_cons_zero, List.getElem?_cons_succ] at k6)
          | (go_simp; go_at_call 42; refine HCL.out.mono ?_; rintro e w7 ⟨v60, rfl, h60, hb60⟩; obtain ⟨gr, capr, rr, hv60, hgr, hcapr, _, hrow7, _⟩ := h60.row (by intro e; have := HLL.out; rw [e] at this; simp at this; omega); rw [← HLL.out] at hv60 hcapr; subst hv60; have hcr : ll ≤ capr := by { omega }; clear hcapr h60; have hs7 : wr.heap.size ≤ w7.heap.size := hb60.size; have HT7 := hide (HPA.out.wtab.below valR_ok (Below.trans (Below.refl _ _).drew hb60)); have HM7 := hide (HPA.out.main.below (Below.trans (Below.refl _ _).drew hb60)); have m2 := HM7.out.cell 2; have mf2 := HM7.out.free 2; simp only [List.getElem?_cons_zero, List.getElem?_cons_succ] at m2; have m2n := cell_next m2 (.cells #[.slice (some ⟨gr, 0, none⟩) ll capr] 23); have HR7 := hide hrow7; have HB60 : Hid (Below wr.heap.size wr w7) := (Below.refl _ _).drew.trans hb60; clear hb60 hrow7))
        all_goals
          have hk8 : ∀ k, k < wr.heap.size → some k ≠ (Value.slice ot i ct_).ownBlock → w8.heap[k]? = wr.heap[k]? := fun k hk hne => (hg.block k (by show k < (w7.alloc _).heap.size; simp; omega) hne).trans ((Below.heap_alloc w7 _ k (by omega)).trans (HB60.out.block k hk))
          have hr8 : Row1 (Value.int .i64) w8 gr 3 l rr := HR7.out.keep ((hg.block gr (by have := HR7.out.lt; show gr < (w7.alloc _).heap.size; simp; omega) (fun e => by obtain ⟨cur, hcur⟩ := own_heap HT7.out e.symm; exact ne_type HR7.out hcur (by decide) rfl)).trans (Below.heap_alloc w7 _ gr HR7.out.lt))
          have hpw := HPA.out.pushW (r := ⟨gr, capr, l, rr⟩) (by unfold Rw.val; rw [← HLL.out]; exact ho) hk8 hr8 hgr hsz (by show l.length ≤ capr; rw [← HLL.out]; exact hcr) (fun k hk => (hat k hk).imp id fun e => by rw [e]; show wr.heap.size ≤ (w7.alloc _).heap.size; simp; omega)
          have hbw : Below w.heap.size w (w8.setCell ⟨p, 2, none⟩ (.slice o3 ((rw_.map Rw.val) ++ [Value.slice (some ⟨gr, 0, none⟩) ll capr]).length c3)) := (((HBi.out.trans (HB60.out.mono hsz)).trans ((bnew (Below.refl w7.heap.size w7) (.cells #[.slice (some ⟨gr, 0, none⟩) ll capr] 23)).mono (B' := w.heap.size) (by omega))).trans hb).setCell (Nat.le_of_lt hpB) _
          have hbx : Box (w8.setCell ⟨p, 2, none⟩ (.slice o3 ((rw_.map Rw.val) ++ [Value.slice (some ⟨gr, 0, none⟩) ll capr]).length c3)) w.heap.size [.slice op n cp, .slice os n cs, .slice (some ⟨b1, off1, none⟩) n cw] 26 := (HXi.out.keep (hk8 _ HXi.out.lt fun e => by obtain ⟨cur, hcur⟩ := own_heap HPA.out.wtab e.symm; exact ne_type HXi.out hcur (by decide) rfl)).other (fun e => by simp only at e; omega) _
          simp only [List.length_append, List.length_cons, List.length_nil, Nat.zero_add, List.length_map] at hpw hbw hbx
          have HP8 := hide hpw
          have HB8 := hide hbw
          have HX8 := hide hbx
          clear hk8 hr8 hpw hbw hbx ho hb hg hat hbm k6 kf m2 mf2 m2d mf2d
          go_wp2_with fail
          go_meet
          exact ⟨rfl, _, ⟨gr, capr, l, rr⟩, rfl, HP8, HB8, HX8⟩
      case rest =>
        obtain ⟨rfl, tw', r, HRl, HPA, HBi, HXi⟩ := hcut
        obtain ⟨hL1, hL2, hL3⟩ := HLN.out
        have hsz := HBi.out.size
        obtain ⟨oc, cc_, htc, _, _⟩ := HPA.out.ctab.slice valR_ok
        simp only [List.length_map, hL2] at htc
        subst htc
        have m3 := HPA.out.main.cell 3
        have mf3 := HPA.out.main.free 3
        simp only [List.getElem?_cons_zero, List.getElem?_cons_succ] at m3
        have m3d : wc.drew.cell? ⟨p, 3, none⟩ = some (.slice oc i cc_) := m3
        have mf3d : wc.drew.frozen? ⟨p, 3, none⟩ = false := mf3
        have HLEN : Hid ((rc.map Rw.val).length = i) := by show _ = _; rw [List.length_map]; exact hL2
        clear hL1 hL2 hL3
        obtain ⟨w7, hrun7, hrow7, hg7⟩ := run_make_row (f := Value.int .i64) (P := Try.prog) wc.drew 23 3 (0 : Int) 8 Try.underlying23 clInfoI (by rfl) ll (by omega) (by unfold maxLen; omega)
        have hb7 : Below wc.heap.size wc w7 := (Below.refl _ _).drew.trans ((Below.refl _ _).grown hg7 (Nat.le_refl _) fun k hk => by cases hk)
        have HT7 := hide (HPA.out.ctab.below valR_ok hb7)
        have HM7 := hide (HPA.out.main.below hb7)
        have m37 := HM7.out.cell 3
        have mf37 := HM7.out.free 3
        simp only [List.getElem?_cons_zero, List.getElem?_cons_succ] at m37
        have m3n := cell_next m37 (.cells #[.slice (some ⟨wc.heap.size, 0, none⟩) ll ll] 23)
        have hs7 : wc.heap.size ≤ w7.heap.size := hb7.size
        have HR7 : Hid (Row1 (Value.int .i64) w7 wc.heap.size 3 (List.replicate ll (0 : Int)) []) := hrow7
        have HB60 := hide hb7
        clear hrow7 hg7 hb7
        go_upto_region 15 with fail
        go_cut [48] (fun s48 wx => s48 = .int .i64 (i : Nat) ∧ ∃ (tc' : Value) (r' : Rw), Hid (r'.l = List.replicate ll 0) ∧ Hid (Part w.heap.size n p op cp oF nF cF gs cs2 x.state rs tw' tc' tl (rw_ ++ [r]) (rc ++ [r']) rl wx) ∧ Hid (Below w.heap.size w wx) ∧ Hid (Box wx w.heap.size [.slice op n cp, .slice os n cs, .slice (some ⟨b1, off1, none⟩) n cw] 26))
        case first =>
          go_wp2_with fail
          go_region_law ((refine step_append_at rfl (.tmp 70) (.tmp 74) 24 rfl w.heap.size 23 _ 1 24 Try.underlying24 tabInfo rfl (by decide) valR_ok Non (.slice oc i cc_) (rc.map Rw.val) (by simp [Act.eval, Act.put]) (OwnS.new valR_ok HT7.out _) ⟨_, 0, none⟩ 1 [.slice (some ⟨wc.heap.size, 0, none⟩) ll ll] (.slice (some ⟨wc.heap.size, 0, none⟩) ll ll) (by simp [Act.eval, Act.put]) (World.news_of_block (heap_alloc_new _ _)) ⟨rfl, rfl⟩ (fun _ h => h.elim) (by rw [HLEN.out]; omega) (by rw [HLEN.out]; unfold maxLen; omega) (by simp; omega) ?_; intro v' w8 ho hb hg hat; have hbm := (HM7.out.next _).grown hg (fun e => by obtain ⟨cur, hcur⟩ := own_heap HT7.out e.symm; exact ne_type HM7.out hcur (by decide) rfl); have k6 := hbm.cell 3; have kf := hbm.free 3; obtain ⟨o3, c3, rfl, _, _⟩ := ho.slice valR_ok; simp only [List.getElem?_cons_zero, List.getElem?_cons_succ] at k6))
          all_goals
            have hk8 : ∀ k, k < wc.heap.size → some k ≠ (Value.slice oc i cc_).ownBlock → w8.heap[k]? = wc.heap[k]? := fun k hk hne => (hg.block k (by show k < (w7.alloc _).heap.size; simp; omega) hne).trans ((Below.heap_alloc w7 _ k (by omega)).trans (HB60.out.block k hk))
            have hr8 : Row1 (Value.int .i64) w8 wc.heap.size 3 (List.replicate ll (0 : Int)) [] := HR7.out.keep ((hg.block wc.heap.size (by have := HR7.out.lt; show wc.heap.size < (w7.alloc _).heap.size; simp; omega) (fun e => by obtain ⟨cur, hcur⟩ := own_heap HT7.out e.symm; exact ne_type HR7.out hcur (by decide) rfl)).trans (Below.heap_alloc w7 _ wc.heap.size HR7.out.lt))
            have hpw := HPA.out.pushC (r := ⟨wc.heap.size, ll, List.replicate ll 0, []⟩) (by unfold Rw.val slV; simp only [List.length_replicate]; exact ho) hk8 hr8 (Nat.le_refl _) hsz (by show (List.replicate ll (0 : Int)).length ≤ ll; simp) (fun k hk => (hat k hk).imp id fun e => by rw [e]; show wc.heap.size ≤ (w7.alloc _).heap.size; simp; omega)
            have hbw : Below w.heap.size w (w8.setCell ⟨p, 3, none⟩ (.slice o3 ((rc.map Rw.val) ++ [Value.slice (some ⟨wc.heap.size, 0, none⟩) ll ll]).length c3)) := (((HBi.out.trans (HB60.out.mono hsz)).trans ((bnew (Below.refl w7.heap.size w7) (.cells #[.slice (some ⟨wc.heap.size, 0, none⟩) ll ll] 23)).mono (B' := w.heap.size) (by omega))).trans hb).setCell (Nat.le_of_lt hpB) _
            have hbx : Box (w8.setCell ⟨p, 3, none⟩ (.slice o3 ((rc.map Rw.val) ++ [Value.slice (some ⟨wc.heap.size, 0, none⟩) ll ll]).length c3)) w.heap.size [.slice op n cp, .slice os n cs, .slice (some ⟨b1, off1, none⟩) n cw] 26 := (HXi.out.keep (hk8 _ HXi.out.lt fun e => by obtain ⟨cur, hcur⟩ := own_heap HPA.out.ctab e.symm; exact ne_type HXi.out hcur (by decide) rfl)).other (fun e => by simp only at e; omega) _
            simp only [List.length_append, List.length_cons, List.length_nil, Nat.zero_add, List.length_map] at hpw hbw hbx
            have HP8 := hide hpw
            have HB8 := hide hbw
            have HX8 := hide hbx
            clear hk8 hr8 hpw hbw hbx ho hb hg hat hbm k6 kf m3 mf3 m3d mf3d
            go_wp2_with fail
            go_meet
            exact ⟨rfl, _, ⟨wc.heap.size, ll, List.replicate ll 0, []⟩, rfl, HP8, HB8, HX8⟩
        case rest =>
          obtain ⟨rfl, tc', r', HRl2, HPA, HBi, HXi⟩ := hcut
          have z0 := HXi.out.cell 0
          simp only [List.getElem?_cons_zero, List.getElem?_cons_succ] at z0
          have HWN : Hid ((rw_ ++ [r]).map (·.l) = x.waiting.take (i + 1)) := by
            show _ = _
            rw [List.take_add_one, HWL.out, List.map_append, HW.out]
            simp [HRl.out]
          have HCN : Hid ((rc ++ [r']).map (·.l) = (x.waiting.take (i + 1)).map fun l => List.replicate l.length 0) := by
            show _ = _
            rw [List.take_add_one, HWL.out, List.map_append, HCT.out]
            simp [HRl2.out, HLL.out]
          go_wp2_with fail
          go_loopw [81] (fun iv wx => ∃ (q : Nat) (tl' : Value) (rl' : List Nat), q ≤ n ∧ iv = .int .i64 q ∧ Hid (Part w.heap.size n p op cp oF nF cF gs cs2 x.state rs tw' tc' tl' (rw_ ++ [r]) (rc ++ [r']) rl' wx) ∧ Hid (rl'.length = i * n + q) ∧ Hid (Below w.heap.size w wx) ∧ Hid (Box wx w.heap.size [.slice op n cp, .slice os n cs, .slice (some ⟨b1, off1, none⟩) n cw] 26)) (fun iv _ => n - (intOf iv).toNat)
          case atStart => exact ⟨0, tl, rl, by omega, rfl, HPA, HLN.out.2.2, HBi, HXi⟩
          case round =>
            obtain ⟨q, tl', rl', hq, rfl, HPL, HRL, HBl, HXl⟩ := hrel
            by_cases hlq : q < n
            · obtain ⟨otl, ctl, htl, _, _⟩ := HPL.out.ltab.slice valR_ok
              have hrl := HRL.out
              have hin : i * n + q ≤ 156 := by
                have h1 : i * n ≤ 12 * 12 := Nat.mul_le_mul (by omega) hn1
                omega
              obtain ⟨m, hm⟩ : ∃ m, m = rl'.length := ⟨_, rfl⟩
              simp only [List.length_map, ← hm] at htl
              subst htl
              have hdiv : rl'.length / n = i := by rw [hrl, Nat.mul_comm, Nat.mul_add_div (by omega), Nat.div_eq_of_lt hlq, Nat.add_zero]
              have hmod : rl'.length % n = q := by rw [hrl, Nat.mul_comm, Nat.mul_add_mod, Nat.mod_eq_of_lt hlq]
              have m4 := HPL.out.main.cell 4
              simp only [List.getElem?_cons_zero, List.getElem?_cons_succ] at m4
              have hszl := HBl.out.size
              obtain ⟨W7, e7⟩ : ∃ W7, wr.alloc (.cells #[.slice none 0 0, .int .i64 0, .int .i64 0, .int .i64 (i : Nat), .int .i64 (q : Nat), .int .i64 0] 94) = W7 := ⟨_, rfl⟩
              have bx7 : Box W7 wr.heap.size [.slice none 0 0, .int .i64 0, .int .i64 0, .int .i64 (i : Nat), .int .i64 (q : Nat), .int .i64 0] 94 := by rw [← e7]; exact Box.new wr [.slice none 0 0, .int .i64 0, .int .i64 0, .int .i64 (i : Nat), .int .i64 (q : Nat), .int .i64 0] 94
              have bb7 := bnew (Below.refl wr.heap.size wr) (.cells #[.slice none 0 0, .int .i64 0, .int .i64 0, .int .i64 (i : Nat), .int .i64 (q : Nat), .int .i64 0] 94)
              rw [e7] at bb7
              have hs7b : wr.heap.size ≤ W7.heap.size := bb7.size
              have HT7b := hide (HPL.out.ltab.below valR_ok bb7)
              have HM7b := hide (HPL.out.main.below bb7)
              have HBX7 := hide bx7
              have HBB7 := hide bb7
              have HDM := hide (And.intro hdiv hmod)
              have HM := hide hm
              clear bx7 bb7 hdiv hmod hrl
              have hm156 : m ≤ 156 := by have := HM.out; have := HRL.out; omega
              clear hm
              go_wp2_with (at_builtin; refine wpList_append_at rfl (.tmp 88) (.tmp 93) 62 rfl w.heap.size 90 _ 1 8 Try.underlying62 ptrInfo rfl (by decide) valR_ok Non (.slice otl m ctl) (rl'.map ptV) rfl (OwnS.new valR_ok HT7b.out _) ⟨_, 0, none⟩ 1 [Value.pointer (some ⟨wr.heap.size, 0, none⟩)] (ptV wr.heap.size) rfl (World.news_of_block (heap_alloc_new _ _)) ⟨rfl, rfl⟩ (fun _ h => h.elim) (by rw [List.length_map]; have := HM.out; omega) (by rw [List.length_map]; have := HM.out; unfold maxLen; omega) (by simp; omega) ?_; intro v' w9 ho hb hg hat; have hbm := (HM7b.out.next _).grown hg (fun e => by obtain ⟨cur, hcur⟩ := own_heap HT7b.out e.symm; exact ne_type HM7b.out hcur (by decide) rfl); have k6 := hbm.cell 4; have kf := hbm.free 4; obtain ⟨o3, c3, rfl, _, _⟩ := ho.slice valR_ok; simp only [List.getElem?_cons_zero, List.getElem?_cons_succ] at k6)
              have hk9 : ∀ k, k < wr.heap.size → some k ≠ (Value.slice otl m ctl).ownBlock → w9.heap[k]? = wr.heap[k]? := fun k hk hne => (hg.block k (by show k < (W7.alloc _).heap.size; simp; omega) hne).trans ((Below.heap_alloc W7 _ k (by omega)).trans (HBB7.out.block k hk))
              have hb9 : Box w9 wr.heap.size [.slice none 0 0, .int .i64 0, .int .i64 0, .int .i64 (rl'.length / n : Nat), .int .i64 (rl'.length % n : Nat), .int .i64 0] 94 := by
                rw [HDM.out.1, HDM.out.2]
                exact HBX7.out.keep ((hg.block wr.heap.size (by have := HBX7.out.lt; show wr.heap.size < (W7.alloc _).heap.size; simp; omega) (fun e => by obtain ⟨cur, hcur⟩ := own_heap HT7b.out e.symm; exact ne_type HBX7.out hcur (by decide) rfl)).trans (Below.heap_alloc W7 _ wr.heap.size HBX7.out.lt))
              have hpw := HPL.out.pushL (b := wr.heap.size) ho hk9 hb9 (Nat.le_refl _) hszl
              have hbw : Below w.heap.size w (w9.setCell ⟨p, 4, none⟩ (.slice o3 ((rl'.map ptV) ++ [ptV wr.heap.size]).length c3)) := (((HBl.out.trans (HBB7.out.mono hszl)).trans ((bnew (Below.refl W7.heap.size W7) (.cells #[ptV wr.heap.size] 90)).mono (B' := w.heap.size) (by omega))).trans hb).setCell (Nat.le_of_lt hpB) _
              have hbx : Box (w9.setCell ⟨p, 4, none⟩ (.slice o3 ((rl'.map ptV) ++ [ptV wr.heap.size]).length c3)) w.heap.size [.slice op n cp, .slice os n cs, .slice (some ⟨b1, off1, none⟩) n cw] 26 := (HXl.out.keep (hk9 _ HXl.out.lt fun e => by obtain ⟨cur, hcur⟩ := own_heap HPL.out.ltab e.symm; exact ne_type HXl.out hcur (by decide) rfl)).other (fun e => by simp only at e; omega) _
              simp only [List.length_append, List.length_cons, List.length_nil, Nat.zero_add, List.length_map] at hpw hbw hbx
              have HP8 := hide hpw
              have HB8 := hide hbw
              have HX8 := hide hbx
              clear hk9 hb9 hpw hbw hbx ho hb hg hat hbm
              go_wp2_with fail
              go_roundw
              case rel => exact ⟨q + 1, _, rl' ++ [wr.heap.size], by omega, by go_num, HP8, by show _ = _; rw [List.length_append, HRL.out]; rfl, HB8, HX8⟩
              case measure => simp [intOf]; omega
            · have hqe : q = n := by omega
              subst hqe
              go_wp2_with fail
              go_roundw
              case rel => exact ⟨i + 1, tw', tc', tl', rw_ ++ [r], rc ++ [r'], rl', by omega, by go_num, HPL, HWN, HCN, ⟨by rw [List.length_append, HLN.out.1]; rfl, by rw [List.length_append, HLN.out.2.1]; rfl, by rw [HRL.out, Nat.succ_mul]⟩, HBl, HXl⟩
              case measure => simp [intOf]; omega
    · have hie : i = n := by omega
      subst hie
      have hw0 : rw_.map (·.l) = x.waiting := by rw [HW.out, List.take_of_length_le (by have := HTN.out; omega)]
      have hc0 : rc.map (·.l) = (rw_.map (·.l)).map fun l => List.replicate l.length 0 := by rw [HCT.out, HW.out]
      obtain ⟨L, h1, h2, h3⟩ := HPA.out.wires (by omega) HLN.out.1 HLN.out.2.1 HLN.out.2.2 hc0
      rw [hc0, hw0] at h2
      rw [hw0] at h1
      have HF1 := hide h1
      have HF2 := hide h2
      have HF3 := hide h3
      clear hw0 hc0 h1 h2 h3
      go_wp2_with fail
      go_ret2
      exact ⟨L, by rw [HF3.out]; rfl, HF1.out, HF2.out, HBi.out⟩

end Go.Proofs.Ytnigfddanoaonaa

set_option linter.unusedVariables false
set_option linter.unusedSimpArgs false
set_option linter.unnecessarySimpa false
namespace Go.Proofs.Ytnigfddanoaonaa
open Go.RowKit

section
variable {B N : Nat} {L : WLay} {oP : Option Addr} {cP : Nat} {oF : Option Addr} {nF cF : Nat} {S : Wr} {W W' : World}
theorem Wires.blk_lt (h : Wires B N L oP cP oF nF cF S W) {r : IR} {b : Nat} (hr : r.ok N) (hb : r.blk L = some b) : b < W.heap.size := by
  cases r with
  | s => injection hb with hb; rw [← hb]; exact h.sts.lt
  | w i => injection hb with hb; rw [← hb]; exact h.mine_lt (.inr (.inr (.inr (.inr (.inr (.inl ⟨i, hr, rfl⟩))))))
  | c i => injection hb with hb; rw [← hb]; exact h.mine_lt (.inr (.inr (.inr (.inr (.inr (.inr (.inl ⟨i, hr, rfl⟩)))))))
  | q j => exact h.mine_lt (.inr (.inr (.inr (.inr (.inr (.inr (.inr (.inr (.inl ⟨j, hr, hb⟩)))))))))
theorem setQ_other {j : Nat} {v : Value} {r : IR} (hr : r ≠ .q j) : r.blk (L.setQ j v) = r.blk L := by
  cases r with
  | s => rfl
  | w i => rfl
  | c i => rfl
  | q m =>
    show (if m = j then v else L.lv m).ownBlock = (L.lv m).ownBlock
    rw [if_neg fun e => hr (by rw [e])]
theorem setQ_same {j : Nat} {v : Value} : IR.blk (L.setQ j v) (.q j) = v.ownBlock := by
  show (if j = j then v else L.lv j).ownBlock = v.ownBlock
  rw [if_pos rfl]

/-- The letters of a line, in the row where they lay or in a new one. -/
theorem Wires.pushQ (h : Wires B N L oP cP oF nF cF S W) {j : Nat} {l : Ln} (hl : S.ls[j]? = some l) {v : Value} {q : List Int} {W1 : World} (hown : OwnN B 3 W1 v q) (hg : ∀ k, k < W.heap.size → some k ≠ (L.lv j).ownBlock → W1.heap[k]? = W.heap[k]?) (hB : Below B W W1)
    (hat : ∀ k, v.ownBlock = some k → (L.lv j).ownBlock = some k ∨ W.heap.size ≤ k) :
    Wires B N (L.setQ j v) oP cP oF nF cF { S with ls := S.ls.set j { l with q := q } } (W1.setCell ⟨L.bl j, 0, none⟩ v) ∧ Went N L W (L.setQ j v) (W1.setCell ⟨L.bl j, 0, none⟩ v) := by
  have hjl := (List.getElem?_eq_some_iff.1 hl).1
  have hj : j < N * N := by have := h.nls; omega
  have iw : ∀ {j : Nat} {l : List Int}, S.wt[j]? = some l → j < N := fun hl => by have := (List.getElem?_eq_some_iff.1 hl).1; have := h.nwt; omega
  have ic : ∀ {j : Nat} {l : List Int}, S.ct[j]? = some l → j < N := fun hl => by have := (List.getElem?_eq_some_iff.1 hl).1; have := h.nct; omega
  have il : ∀ {j : Nat} {l : Ln}, S.ls[j]? = some l → j < N * N := fun hl => by have := (List.getElem?_eq_some_iff.1 hl).1; have := h.nls; omega
  have hq0 : ∀ {k : Nat} {x : Array Value} {t : TypeId}, W.heap[k]? = some (Obj.cells x t (0, 0)) → t ≠ 3 → some k ≠ (L.lv j).ownBlock := fun {k x t} hk ht e => by
    obtain ⟨cur, hcur⟩ := ownN_heap (h.lett j l hl) e.symm
    rw [hk] at hcur
    injection hcur with hcur
    injection hcur with _ h2
    exact ht h2
  have n1 : ∀ (k : Nat) (x : Array Value) (t : TypeId), W.heap[k]? = some (Obj.cells x t (0, 0)) → t ≠ 3 → W1.heap[k]? = W.heap[k]? := fun k x t hk ht => hg k (Array.getElem?_eq_some_iff.1 hk).1 (hq0 hk ht)
  have r1 : ∀ (r : IR) (k : Nat), r.ok N → r.blk L = some k → r ≠ .q j → W1.heap[k]? = W.heap[k]? := fun r k hr hk hne => hg k (h.blk_lt hr hk) fun e => hne (h.apart r (.q j) k hr hj hk e.symm)
  have hln : Box W1 (L.bl j) (lnC L N j l) 94 := (h.lin j l hl).keep (n1 _ _ _ (h.lin j l hl) (by decide))
  have n2 : ∀ (k : Nat) (x : Array Value) (t : TypeId), W.heap[k]? = some (Obj.cells x t (0, 0)) → t ≠ 3 → t ≠ 94 → (W1.setCell ⟨L.bl j, 0, none⟩ v).heap[k]? = W.heap[k]? := fun k x t hk ht ht2 => by
    rw [Below.heap_setCell W1 ⟨L.bl j, 0, none⟩ v k (ne_type hk (h.lin j l hl) ht2)]
    exact n1 k x t hk ht
  have r2 : ∀ (r : IR) (k : Nat) (x : Array Value), W.heap[k]? = some (Obj.cells x 3 (0, 0)) → r.ok N → r.blk L = some k → r ≠ .q j → (W1.setCell ⟨L.bl j, 0, none⟩ v).heap[k]? = W.heap[k]? := fun r k x hk hr hb hne => by
    rw [Below.heap_setCell W1 ⟨L.bl j, 0, none⟩ v k (ne_type hk (h.lin j l hl) (by decide))]
    exact r1 r k hr hb hne
  have hset : ∀ {m : Nat} {y : Ln}, (S.ls.set j { l with q := q })[m]? = some y → (m = j ∧ y = { l with q := q }) ∨ (m ≠ j ∧ S.ls[m]? = some y) := fun {m y} hm => by
    rw [List.getElem?_set] at hm
    split at hm
    · rename_i e
      injection hm with hm
      exact .inl ⟨e.symm, hm.symm⟩
    · rename_i e
      exact .inr ⟨fun h => e h.symm, hm⟩
  have hnew : ∀ (r : IR) (b : Nat), r.ok N → r.blk L = some b → r ≠ .q j → v.ownBlock ≠ some b := fun r b hr hb hne e => by
    rcases hat b e with h2 | h2
    · exact hne (h.apart r (.q j) b hr hj hb h2)
    · have := h.blk_lt hr hb; omega
  refine ⟨
   { nst := h.nst, nwt := h.nwt, nct := h.nct
     nls := by show (S.ls.set j { l with q := q }).length = N * N; rw [List.length_set]; exact h.nls
     main := h.main.keep (n2 _ _ _ h.main (by decide) (by decide))
     sts := h.sts.keep (r2 .s _ _ h.sts trivial rfl (by intro e; cases e))
     wtab := h.wtab.keep (n2 _ _ _ h.wtab (by decide) (by decide))
     wrow := fun m y hm => (h.wrow m y hm).keep (r2 (.w m) _ _ (h.wrow m y hm) (iw hm) rfl (by intro e; cases e))
     ctab := h.ctab.keep (n2 _ _ _ h.ctab (by decide) (by decide))
     crow := fun m y hm => (h.crow m y hm).keep (r2 (.c m) _ _ (h.crow m y hm) (ic hm) rfl (by intro e; cases e))
     ltab := h.ltab.keep (n2 _ _ _ h.ltab (by decide) (by decide))
     lin := fun m y hm => by
       rcases hset hm with ⟨rfl, rfl⟩ | ⟨hmj, hm⟩
       · have := hln.put 0 v
         show Box _ (L.bl m) [(if m = m then v else L.lv m), _, _, _, _, _] _
         rw [if_pos rfl]
         exact this
       · have hmN : m < N * N := il hm
         have h8 : Box W1 (L.bl m) (lnC L N m y) 94 := (h.lin m y hm).keep (n1 _ _ _ (h.lin m y hm) (by decide))
         have := h8.other (p := ⟨L.bl j, 0, none⟩) (fun e => hmj (h.lap m j hmN hj e)) v
         show Box _ (L.bl m) [(if m = j then v else L.lv m), _, _, _, _, _] _
         rw [if_neg hmj]
         exact this
     lett := fun m y hm => by
       rcases hset hm with ⟨rfl, rfl⟩ | ⟨hmj, hm⟩
       · show OwnN _ _ _ (if m = m then v else L.lv m) q
         rw [if_pos rfl]
         exact hown.keep fun g hgg => by
           obtain ⟨cur, hcur⟩ := ownN_heap hown hgg
           exact Below.heap_setCell W1 ⟨L.bl m, 0, none⟩ v g (ne_type hcur hln (by decide))
       · show OwnN _ _ _ (if m = j then v else L.lv m) y.q
         rw [if_neg hmj]
         exact (h.lett m y hm).keep fun g hgg => by
           obtain ⟨cur, hcur⟩ := ownN_heap (h.lett m y hm) hgg
           exact r2 (.q m) g _ hcur (il hm) hgg (by intro e; injection e with e; exact hmj e)
     fly := fly_keep h.fly fun g hgg => by
       obtain ⟨cur, hcur⟩ := fly_heap h.fly hgg
       exact n2 _ _ _ hcur (by decide) (by decide)
     apart := fun r r' b h1 h2 h3 h4 => by
       by_cases e1 : r = .q j
       · by_cases e2 : r' = .q j
         · rw [e1, e2]
         · rw [e1, setQ_same] at h3
           rw [setQ_other e2] at h4
           exact absurd h3 (hnew r' b h2 h4 e2)
       · rw [setQ_other e1] at h3
         by_cases e2 : r' = .q j
         · rw [e2, setQ_same] at h4
           exact absurd h4 (hnew r b h1 h3 e1)
         · rw [setQ_other e2] at h4
           exact h.apart r r' b h1 h2 h3 h4
     lap := h.lap, tabs := h.tabs, low := h.low
     lowi := fun r b h1 h2 => by
       by_cases e1 : r = .q j
       · rw [e1, setQ_same] at h2
         exact (hown.block b h2).1
       · rw [setQ_other e1] at h2
         exact h.lowi r b h1 h2
     lowl := h.lowl }, ?_⟩
  refine { os := hB.os, tape := hB.tape, output := hB.output
           size := by show W.heap.size ≤ (W1.heap.modify _ _).size; rw [Array.size_modify]; exact hB.size
           block := fun k hk hm => ?_
           mine := fun k hk hm => ?_
           fix := ⟨_, _, rfl⟩ }
  · rw [Below.heap_setCell W1 ⟨L.bl j, 0, none⟩ v k fun e => hm (.inr (.inr (.inr (.inr (.inr (.inr (.inr (.inl ⟨j, hj, e⟩))))))))]
    exact hg k hk fun e => hm (.inr (.inr (.inr (.inr (.inr (.inr (.inr (.inr (.inl ⟨j, hj, e.symm⟩)))))))))
  · rcases hm with e | e | e | e | e | e | e | e | ⟨i, hi, e⟩ | e
    · exact .inl e
    · exact .inr (.inl e)
    · exact .inr (.inr (.inl e))
    · exact .inr (.inr (.inr (.inl e)))
    · exact .inr (.inr (.inr (.inr (.inl e))))
    · exact .inr (.inr (.inr (.inr (.inr (.inl e)))))
    · exact .inr (.inr (.inr (.inr (.inr (.inr (.inl e))))))
    · exact .inr (.inr (.inr (.inr (.inr (.inr (.inr (.inl e)))))))
    · by_cases hij : i = j
      · subst hij
        have e2 : v.ownBlock = some k := by
          have := @setQ_same L i v
          rw [← this]
          exact e
        rcases hat k e2 with h2 | h2
        · exact .inr (.inr (.inr (.inr (.inr (.inr (.inr (.inr (.inl ⟨i, hi, h2⟩))))))))
        · omega
      · have e2 : (L.lv i).ownBlock = some k := by
          have := @setQ_other L j v (.q i) (by intro e; injection e with e; exact hij e)
          rw [← show IR.blk L (.q i) = (L.lv i).ownBlock from rfl, ← this]
          exact e
        exact .inr (.inr (.inr (.inr (.inr (.inr (.inr (.inr (.inl ⟨i, hi, e2⟩))))))))
    · exact .inr (.inr (.inr (.inr (.inr (.inr (.inr (.inr (.inr e))))))))
end

end Go.Proofs.Ytnigfddanoaonaa

set_option linter.unusedVariables false
set_option linter.unusedSimpArgs false
set_option linter.unnecessarySimpa false
namespace Go.Proofs.Ytnigfddanoaonaa
open Go.RowKit

def ruleP (procs : List Prc) (p : Nat) (s : Int) (k : Nat) : Rul := ruleAt (procs.getD p prc0).rules s k
def nextP (procs : List Prc) (p : Nat) (s : Int) (k : Nat) : Int := (ruleP procs p s k).next
def pairO (o : Out) : Int × Int := (o.dst, o.letter)
def sentP (procs : List Prc) (p : Nat) (s : Int) (k : Nat) : List (Int × Int) := (ruleP procs p s k).sent.map pairO
def lettersP (procs : List Prc) (p : Nat) : Nat := (procs.getD p prc0).letters.toNat
def statesP (procs : List Prc) (p : Nat) : Int := (procs.getD p prc0).states

theorem Right.rule {x : Nwk} (h : Right x) {p k : Nat} {s : Int} (hp : p < x.procs.length) (h0 : 0 ≤ s) (h1 : s < statesP x.procs p) (hk : k < lettersP x.procs p) :
    ∃ pr row r, x.procs[p]? = some pr ∧ x.procs.getD p prc0 = pr ∧ pr.rules[s.toNat]? = some row ∧ row[k]? = some r ∧ ruleP x.procs p s k = r ∧ (0 ≤ r.next ∧ r.next < pr.states) ∧ r.sent.length ≤ 16 ∧
      ∀ o ∈ r.sent, (0 ≤ o.dst ∧ o.dst < x.procs.length) ∧ 0 ≤ o.letter ∧ o.letter < lettersP x.procs o.dst.toNat := by
  have hpr := List.getElem?_eq_getElem hp
  have hg : x.procs.getD p prc0 = x.procs[p] := getD_some hpr
  have hc := h.proc p _ hpr
  unfold statesP at h1
  unfold lettersP at hk
  rw [hg] at h1 hk
  have hz := check_zero hc
  have hs : s.toNat < (x.procs[p]).rules.length := by have := hz.2.2.2.1; omega
  have hrow := List.getElem?_eq_getElem hs
  have hl := valid_row hc hrow
  have hk2 : k < ((x.procs[p]).rules[s.toNat]).length := by omega
  have hr := List.getElem?_eq_getElem hk2
  obtain ⟨v1, v2, v3⟩ := valid_rule hc hrow hr
  refine ⟨_, _, _, hpr, hg, hrow, hr, ?_, v1, v2, fun o ho => ?_⟩
  · unfold ruleP ruleAt
    rw [hg, getD_some hrow, show ((k : Nat) : Int).toNat = k from Int.toNat_natCast k, getD_some hr]
  · obtain ⟨a, b, c⟩ := v3 o ho
    have ha : o.dst < x.procs.length := a.2
    refine ⟨⟨a.1, ha⟩, b, ?_⟩
    have := outsOk_all (rulesOk_all (rowsOk_all (h.und p _ hpr) _ (List.mem_of_getElem? hrow)) _ (List.mem_of_getElem? hr)) o ho
    unfold lettersP
    omega
theorem Right.ok {x : Nwk} (h : Right x) : NetOk x.procs.length 16 (lettersP x.procs) (statesP x.procs) (nextP x.procs) (sentP x.procs) where
  next := fun p s k hp h0 h1 hk => by
    obtain ⟨pr, row, r, e1, e2, e3, e4, e5, e6, _⟩ := h.rule hp h0 h1 hk
    unfold nextP statesP
    rw [e5, e2]
    exact e6
  few := fun p s k hp h0 h1 hk => by
    obtain ⟨pr, row, r, e1, e2, e3, e4, e5, e6, e7, _⟩ := h.rule hp h0 h1 hk
    unfold sentP
    rw [e5, List.length_map]
    exact e7
  out := fun p s k hp h0 h1 hk y hy => by
    obtain ⟨pr, row, r, e1, e2, e3, e4, e5, e6, e7, e8⟩ := h.rule hp h0 h1 hk
    unfold sentP at hy
    rw [e5] at hy
    obtain ⟨o, ho, rfl⟩ := List.mem_map.1 hy
    obtain ⟨a, b, c⟩ := e8 o ho
    exact ⟨a.1, a.2, b, c⟩
theorem Right.letters {x : Nwk} (h : Right x) (p : Nat) (hp : p < x.procs.length) : 1 ≤ lettersP x.procs p ∧ lettersP x.procs p ≤ 8 := by
  have hpr := List.getElem?_eq_getElem hp
  have hz := check_zero (h.proc p _ hpr)
  unfold lettersP
  rw [getD_some hpr]
  omega
/-- The machine at its beginning. -/
theorem Right.begin_ {x : Nwk} (h : Right x) {M X : Int} (hM : ∀ t ∈ x.waiting, ∀ k ∈ t, k ≤ M) (hX : M ≤ X) : WInv x.procs.length (lettersP x.procs) (statesP x.procs) X M 0 0 0 [] (beginS x.state x.waiting x.procs.length) where
  nst := h.nst
  nwt := h.nwt
  nct := by show (x.waiting.map _).length = _; rw [List.length_map]; exact h.nwt
  nls := by simp [beginS]
  st := fun p s hs => by
    have hp : p < x.procs.length := by have := (List.getElem?_eq_some_iff.1 hs).1; have := h.nst; simp only [beginS] at *; omega
    have hpr := List.getElem?_eq_getElem hp
    unfold statesP
    rw [getD_some hpr]
    exact h.st p s _ hs hpr
  wl := fun p row hr => by
    have hp : p < x.procs.length := by have := (List.getElem?_eq_some_iff.1 hr).1; have := h.nwt; simp only [beginS] at *; omega
    have hpr := List.getElem?_eq_getElem hp
    unfold lettersP
    rw [getD_some hpr]
    have := h.wl p row _ hr hpr
    omega
  cl := fun p row hr => by
    simp only [beginS, List.getElem?_map, Option.map_eq_some_iff] at hr
    obtain ⟨t, ht, rfl⟩ := hr
    have hp : p < x.procs.length := by have := (List.getElem?_eq_some_iff.1 ht).1; have := h.nwt; omega
    have hpr := List.getElem?_eq_getElem hp
    unfold lettersP
    rw [getD_some hpr, List.length_replicate]
    have := h.wl p t _ ht hpr
    omega
  wb := fun p row hr k y hy => by
    have h1 := h.wb row (List.mem_of_getElem? hr) y (List.mem_of_getElem? hy)
    have h2 := hM row (List.mem_of_getElem? hr) y (List.mem_of_getElem? hy)
    refine ⟨h1.1, ?_⟩
    show y + Lc ([] ++ []) ≤ M
    simp [Lc]
    exact h2
  cb := fun p row hr k y hy => by
    simp only [beginS, List.getElem?_map, Option.map_eq_some_iff] at hr
    obtain ⟨t, ht, rfl⟩ := hr
    rw [List.getElem?_replicate] at hy
    split at hy
    · injection hy with hy; omega
    · cases hy
  lb := fun j l hl => by
    simp only [beginS, List.getElem?_replicate] at hl
    split at hl
    · injection hl with hl
      subst hl
      exact ⟨by simp [Ln.tot, Ln.none], by simp [Ln.tot, Ln.none], by simp [Ln.none], fun a ha => by simp [Ln.none] at ha⟩
    · cases hl
  pk := fun a ha => by simp [beginS] at ha
  wgt := by simp [beginS, Wc]
  seb := by simp [beginS, Lc]
  lg := fun _ => rfl
  mx := hX
end Go.Proofs.Ytnigfddanoaonaa

set_option linter.unusedVariables false
set_option linter.unusedSimpArgs false
namespace Go.Proofs.Ytnigfddanoaonaa
open Go.RowKit

/-- ov holds the headers vs (elements of type lt) of the lists xss (of elements of type e). -/
structure Lists (base : Nat) (e lt : TypeId) (w : World) (ov : Value) (vs : List Value) (xss : List (List Int)) : Prop where
  row : w.ownsRow base lt 1 ov vs.length vs
  ms : OwnM base e w vs xss
  off : ∀ (i : Nat) (v : Value) (k : Nat), vs[i]? = some v → v.ownBlock = some k → ov.ownBlock ≠ some k

section
variable {base : Nat} {e lt : TypeId} {w w' : World} {ov : Value} {vs : List Value} {xss : List (List Int)}
theorem Lists.nil (base : Nat) (e lt : TypeId) (w : World) : Lists base e lt w (.slice none 0 0) [] [] :=
  ⟨World.ownsRow_nil _ _ _ _, OwnM.nils 0, fun i v k h => by simp at h⟩
theorem Lists.len (h : Lists base e lt w ov vs xss) : vs.length = xss.length := h.ms.len
theorem Lists.below (h : Lists base e lt w ov vs xss) (hb : Below w.heap.size w w') : Lists base e lt w' ov vs xss := by
  refine ⟨h.row.kept (row := none) ⟨hb.os, hb.tape, hb.output, hb.size, fun k hk _ => hb.block k hk⟩ ?_, h.ms.below hb, h.off⟩
  cases ov.ownBlock <;> simp
theorem Lists.new (h : Lists base e lt w ov vs xss) (o : Obj) : Lists base e lt (w.alloc o) ov vs xss := h.below (bnew (Below.refl _ _) o)
theorem Lists.draw (h : Lists base e lt w ov vs xss) : Lists base e lt w.drew ov vs xss := ⟨h.row.drew, h.ms.draw, h.off⟩
/-- A change in blocks that are not theirs. -/
theorem Lists.under (h : Lists base e lt w ov vs xss) {k : Nat} (hg : w.grownBy w' (some k)) (hk : k < base) : Lists base e lt w' ov vs xss := by
  refine ⟨h.row.kept hg ?_, h.ms.keep fun i v g h1 hgv => hg.block g (h.ms.block h1 g hgv).2 ?_, h.off⟩
  · refine .inr fun he => ?_
    have := (h.row.lt k he).1
    omega
  · intro he
    injection he with he
    have := (h.ms.block h1 g hgv).1
    omega
/-- One more list, empty: 'out = append(out, nil)'. -/
theorem Lists.snoc (h : Lists base e lt w ov vs xss) {o : Obj} {ov' : Value} (hr : w'.ownsRow base lt 1 ov' (vs.length + 1) (vs ++ [.slice none 0 0])) (hg : (w.alloc o).grownBy w' ov.ownBlock)
    (hat : ov'.ownBlock = ov.ownBlock ∨ ov'.ownBlock = some (w.alloc o).heap.size) : Lists base e lt w' ov' (vs ++ [.slice none 0 0]) (xss ++ [[]]) := by
  have hnew : ∀ (i : Nat) (v : Value) (k : Nat), (vs ++ [.slice none 0 0])[i]? = some v → v.ownBlock = some k → vs[i]? = some v := fun i v k hi hk => by
    rcases Nat.lt_or_ge i vs.length with hj | hj
    · rw [List.getElem?_append_left hj] at hi; exact hi
    · rw [List.getElem?_append_right hj] at hi
      have hm := List.mem_of_getElem? hi
      simp at hm
      subst hm
      simp [Value.ownBlock] at hk
  refine ⟨by rw [List.length_append]; exact hr, ((h.ms.new o).keep fun i v g h1 hgv => hg.block g ?_ fun he => h.off i v g h1 hgv he.symm).snoc, fun i v k hi hk he => ?_⟩
  · have := (h.ms.block h1 g hgv).2; simp; omega
  · have h1 := hnew i v k hi hk
    rcases hat with ha | ha
    · exact h.off i v k h1 hk (ha ▸ he)
    · rw [ha] at he
      injection he with he
      have := (h.ms.block h1 k hk).2
      simp at he
      omega
/-- List i has grown, and its header was stored: 'out[i] = append(out[i], x)'. -/
theorem Lists.grow {g cap : Nat} (h : Lists base e lt w (.slice (some ⟨g, 0, none⟩) vs.length cap) vs xss) {i : Nat} {v v' : Value} {xs : List Int} {x : Int} {o : Obj} (hi : vs[i]? = some v) (hx : xss[i]? = some xs)
    (ho : OwnN base e w' v' (xs ++ [x])) (hg : (w.alloc o).grownBy w' v.ownBlock) (hv : ∀ k, v'.ownBlock = some k → v.ownBlock = some k ∨ (w.alloc o).heap.size ≤ k) :
    Lists base e lt (w'.setCell ⟨g, i, none⟩ v') (.slice (some ⟨g, 0, none⟩) (vs.set i v').length cap) (vs.set i v') (xss.set i (xs ++ [x])) := by
  have hgl := (h.row.lt g rfl).2
  have hng : v.ownBlock ≠ some g := fun he => h.off i v g hi he rfl
  have hng' : v'.ownBlock ≠ some g := fun he => by
    rcases hv g he with h1 | h1
    · exact hng h1
    · simp at h1; omega
  have hrow : w'.ownsRow base lt 1 (.slice (some ⟨g, 0, none⟩) vs.length cap) vs.length vs := (h.row.alloc o).kept hg (.inr fun he => hng he.symm)
  have hms := h.ms.grow hi hx ho hg hv
  have hoff : ∀ (j : Nat) (u : Value) (k : Nat), (vs.set i v')[j]? = some u → u.ownBlock = some k → k ≠ g := fun j u k hu hk he => by
    subst he
    by_cases e1 : i = j
    · subst e1
      rw [List.getElem?_set_self (List.getElem?_eq_some_iff.1 hi).1] at hu
      injection hu with hu
      subst hu
      exact hng' hk
    · rw [List.getElem?_set_ne e1] at hu
      exact h.off j u k hu hk rfl
  refine ⟨by rw [List.length_set]; exact (hrow.stored i v').1, hms.keep fun j u k hu hk => Below.heap_setCell _ _ _ _ ?_, fun j u k hu hk he => hoff j u k hu hk ?_⟩
  · exact hoff j u k hu hk
  · simp [Value.ownBlock] at he; exact he.symm
end

/-- 'append(v, x)' as one step of a region that draws its order. -/
theorem step_append_n {P : Program} {ops : Array Oper} {o : Oper} {a : Act} {w : World} {K : Act → World → Prop} {Q : Exit → Act → World → Prop} {E : Prop} (hgd : o.guard = none) (s y : Operand) (t : TypeId)
    (ho : o.op = .call { callee := .builtin .append, args := #[s, y], argTypes := #[t, t] })
    (base : Nat) (e : TypeId) (z : Value) (ht : P.underlying t = some (.slice e)) (hinfo : (P.info? e).map (fun i => (i.zero, i.size, i.bytes)) = some (some z, 1, 8))
    (hzs : z.cells.size = 1) (v : Value) (xs : List Int) (hs : a.eval s = v) (hown : OwnN base e w v xs)
    (ad : Addr) (c : Nat) (x : Int) (hy : a.eval y = .slice (some ad) 1 c) (hx : w.cell? (ad.add 0) = some (.int .i64 x)) (ix : I64 x) (hn : xs.length + 1 ≤ 1000000000) (hbase : base ≤ w.heap.size)
    (hK : ∀ v' w', OwnN base e w' v' (xs ++ [x]) → Below base w w' → w.grownBy w' v.ownBlock → (∀ k, v'.ownBlock = some k → v.ownBlock = some k ∨ w.heap.size ≤ k) → K (a.put o.dst v') w') :
    if Region.wanted o (yielded ops a.tmps) = true then Oper.wp P o a w K Q else E := by
  have hw : Region.wanted o (yielded ops a.tmps) = true := by simp [Region.wanted, hgd]
  rw [if_pos hw]
  obtain ⟨i0, hi, hz0, hz1, hz2⟩ := info_parts hinfo
  obtain ⟨v', w', hrun, h2, h3, h4⟩ := run_append_n (P := P) t o.type i0 z ht hi hz0 hz1 hz2 hzs hown ad c x hx ix hn hbase
  have hb : Below base w w' := (Below.refl base w).grown h3 hbase fun k hk => (hown.block k hk).1
  unfold Oper.wp execOp
  simp only [ho, resolve, invoke, builtin, Sem.run_bind, Sem.run_pure, Result.andThen_ok, List.map_toArray, List.map_cons, List.map_nil, hs, hy, hrun]
  exact hK v' w' h2 hb h3 h4

end Go.Proofs.Ytnigfddanoaonaa

set_option linter.unusedVariables false
set_option linter.unusedSimpArgs false
set_option linter.unnecessarySimpa false
namespace Go.Proofs.Ytnigfddanoaonaa
open Go.RowKit

section
variable {B N : Nat} {L : WLay} {oP : Option Addr} {cP : Nat} {oF : Option Addr} {nF cF : Nat} {S : Wr} {W W' : World}
variable {X M K A T : Int}

theorem SliceR.prc_of {F : Foot} {w : World} {oa : Option Addr} {xs : List Prc} (h : SliceR prcR 3 F w oa xs) {i : Nat} (hi : i < xs.length) :
    ∃ p b off oa' c, xs[i]? = some p ∧ oa = some ⟨b, off, none⟩ ∧ F b ∧ w.cell? ⟨b, off + i * 3, none⟩ = some (.int .i64 p.states) ∧ w.cell? ⟨b, off + i * 3 + 1, none⟩ = some (.int .i64 p.letters) ∧ w.cell? ⟨b, off + i * 3 + 2, none⟩ = some (.slice oa' p.rules.length c) ∧ I64 p.states ∧ I64 p.letters ∧ p.rules.length ≤ c ∧ p.rules.length ≤ 9223372036854775807 ∧ SliceR (slcR ruleR 2) 1 F w oa' p.rules := by
  obtain ⟨p, h1, h2, b, off, cs, h3, h4, ⟨oa', c, rfl, h5, h6, h7, h8, h9⟩, h10⟩ := h.at hi
  exact ⟨p, b, off, oa', c, h2, h3, h4, by simpa using h10 0 _ rfl, by simpa using h10 1 _ rfl, by simpa using h10 2 _ rfl, h5, h6, h7, h8, h9⟩

theorem intInfoW : (Try.prog.info? 3).map (fun i => (i.zero, i.size, i.bytes)) = some (some (.int .i64 0), 1, 8) := by kernel_rfl
theorem one_cellW {w : World} {t : TypeId} {v : Value} {j : Nat} {u : Value} (h : [v][j]? = some u) : (w.alloc (.cells #[v] t)).cell? ((⟨w.heap.size, 0, none⟩ : Addr).add j) = some u :=
  World.news_of_block (cs := #[v]) (heap_alloc_new w _) j u h
theorem i64_of {a : Int} (h0 : -1000000000000 ≤ a) (h1 : a ≤ 1000000000000) : I64 a := by unfold I64; omega

set_option maxRecDepth 100000 in
set_option maxHeartbeats 4000000 in
theorem wread_any (h : Wires B N L oP cP oF nF cF S W) {x : Nwk} (hx : Right x) (hN : N = x.procs.length) (hi : WInv N (lettersP x.procs) (statesP x.procs) X M K A T [] S)
    (hP : SliceR prcR 3 (Lt B) W oP x.procs) (hB : B ≤ W.heap.size) {p : Nat} (hp : p < N) (hX : M + 16 ≤ X) (hXX : X ≤ 1000000000000) (hT : T ≤ 900000000) :
    Calls Try.prog 46 #[.pointer (some ⟨L.p, 0, none⟩), .int .i64 p] W fun e w' => e = .returned (.tuple #[]) ∧ ∃ L', Wires B N L' oP cP oF nF cF (readS N (nextP x.procs) (sentP x.procs) p S) w' ∧ Went N L W L' w' := by
  have hn12 : N ≤ 12 := by have := hx.n.2; omega
  have hmx := hi.mx
  obtain ⟨row, hr, hg, hl⟩ := hi.wrow hp
  have hlet := hx.letters p (by omega)
  have HRB : Hid (∀ (k : Nat) (y : Int), row[k]? = some y → 0 ≤ y ∧ y ≤ M) := fun k y hy => by
    have := hi.wb p row hr k y hy
    have h2 := Lc_nonneg ([] ++ S.fl)
    omega
  have hrow := h.wrow p row hr
  have hsl : SliceR intR 1 All W (some ⟨L.bw p, 0, none⟩) row := hrow.ints (fun y hy => by
    obtain ⟨k, hk, rfl⟩ := List.mem_iff_getElem.1 hy
    have := HRB.out k _ (List.getElem?_eq_getElem hk)
    exact i64_of (by omega) (by omega)) trivial
  obtain ⟨_, _, c2, _, _, _, _, _, _, _⟩ := h.cells
  have t0 := h.wtab.cell (i := p) (x := slV (L.bw p) row.length (L.kw p)) (by simp [hp, hr])
  simp only [id_eq] at t0
  unfold slV at c2 t0
  have hlen : row.length ≤ 8 := by omega
  have HSL := hide hsl
  have HH := hide h
  have HI := hide hi
  have HX := hide hx
  have HP := hide hP
  have HN := hide hN
  have HR := hide hr
  have HG := hide hg
  have HL := hide hl
  clear hsl hg hl hrow h hi hx hP hN hr hlet
  rcases hk : row.findIdx? (fun n => decide (0 < n)) with _ | k
  · have HE : Hid (readS N (nextP x.procs) (sentP x.procs) p S = S) := by
      show _ = _
      unfold readS leastS
      rw [HG.out, hk]
    have HK := hide hk
    clear hk
    go_enter Try.func46, Try.ntmps46
    go_wp2_with (go_at_call 63; refine (idxPos row _ _ All _ HSL.out (by omega)).mono ?_; rintro e w2 ⟨rfl, rfl⟩; rw [HK.out]; simp only [idxI])
    refine bodyPost_ret (results_none rfl _ _ _) rfl ?_
    exact ⟨rfl, L, by rw [HE.out]; exact HH.out, Went.refl _ _ _⟩
  · have HK := hide hk
    have hls : leastS (S.wt.getD p []) = some k := by rw [HG.out]; exact hk
    clear hk
    obtain ⟨v, hv, hv0⟩ := leastS_some (row := row) (by rw [← HG.out]; exact hls)
    have hvM := HRB.out k v hv
    have hkl : k < row.length := (List.getElem?_eq_some_iff.1 hv).1
    have r0 := (HH.out.wrow p row HR.out).cell hv
    have rf := (HH.out.wrow p row HR.out).free k
    have hW1 := HH.out.setWait HR.out hkl (v - 1)
    have hG1 : Went N L W L (W.setCell ⟨L.bw p, k, none⟩ (.int .i64 (v - 1))) := Went.put (.inr (.inr (.inr (.inr (.inr (.inl ⟨p, hp, rfl⟩))))))
    obtain ⟨W1, e1⟩ : ∃ W1, W.setCell ⟨L.bw p, k, none⟩ (.int .i64 (v - 1)) = W1 := ⟨_, rfl⟩
    rw [e1] at hW1 hG1
    obtain ⟨cr, hcr, hgc, hlc⟩ := HI.out.crow hp
    have hkc : k < cr.length := by have := HL.out; omega
    have hy := List.getElem?_eq_getElem hkc
    have hcb := HI.out.cb p cr hcr k _ hy
    obtain ⟨y, hye⟩ : ∃ y, y = cr[k] := ⟨_, rfl⟩
    rw [← hye] at hy hcb
    clear hye
    obtain ⟨_, _, _, d3, _, _, _, _, _, _⟩ := hW1.cells
    have d4 := hW1.ctab.cell (i := p) (x := slV (L.bc p) cr.length (L.kc p)) (by simp [hp, hcr])
    simp only [id_eq] at d4
    unfold slV at d3 d4
    have d5 := (hW1.crow p cr hcr).cell hy
    have d6 := (hW1.crow p cr hcr).free k
    have hW2 := hW1.setCount hcr hkc (y + 1)
    have hG2 : Went N L W L (W1.setCell ⟨L.bc p, k, none⟩ (.int .i64 (y + 1))) := hG1.trans (Went.put (.inr (.inr (.inr (.inr (.inr (.inr (.inl ⟨p, hp, rfl⟩))))))))
    obtain ⟨W2, e2⟩ : ∃ W2, W1.setCell ⟨L.bc p, k, none⟩ (.int .i64 (y + 1)) = W2 := ⟨_, rfl⟩
    rw [e2] at hW2 hG2
    obtain ⟨s, hs, hgs, s0, s1⟩ := HI.out.state hp
    obtain ⟨pr, rw_, r, q1, q2, q3, q4, q5, q6, q7, q8⟩ := HX.out.rule (p := p) (k := k) (s := s) (by rw [← HN.out]; exact hp) s0 s1 (by have := HL.out; omega)
    obtain ⟨sn, rfl⟩ := Int.eq_ofNat_of_zero_le s0
    simp only [Int.toNat_natCast] at q3
    have hP2 : SliceR prcR 3 (Lt B) W2 oP x.procs := HP.out.keep prcR_ok fun q hq hql => (HH.out.went_below hG2 hB).block q hq
    have hS0 : Hid ({ S with wt := bump S.wt p k (-1), ct := bump S.ct p k 1, st := S.st.set p r.next } = { S with wt := S.wt.set p (row.set k (v - 1)), ct := S.ct.set p (cr.set k (y + 1)), st := S.st.set p r.next }) := by
      show _ = _
      unfold bump
      rw [HG.out, hgc, getD_some hv, getD_some hy]
      rfl
    have HRI : Hid (WInv N (lettersP x.procs) (statesP x.procs) X M K A (T + 1) [] { S with wt := S.wt.set p (row.set k (v - 1)), ct := S.ct.set p (cr.set k (y + 1)), st := S.st.set p r.next }) := by
      have := HI.out.readIn (HN.out ▸ HX.out.ok) hp hls
      rw [hgs, show nextP x.procs p (sn : Int) k = r.next from by unfold nextP; rw [q5], hS0.out] at this
      exact this
    have HRS : Hid (readS N (nextP x.procs) (sentP x.procs) p S = r.sent.foldl (fun w o => putS N p (pairO o) w) { S with wt := S.wt.set p (row.set k (v - 1)), ct := S.ct.set p (cr.set k (y + 1)), st := S.st.set p r.next }) := by
      show _ = _
      unfold readS
      rw [hls]
      simp only
      rw [hgs, show nextP x.procs p (sn : Int) k = r.next from by unfold nextP; rw [q5], hS0.out, show sentP x.procs p (sn : Int) k = r.sent.map pairO from by unfold sentP; rw [q5], List.foldl_map]
    obtain ⟨pr', b1, off1, oa1, cc1, z1, rfl, z2, z3, z4, z5, z6, z7, z8, z9, z10⟩ := hP2.prc_of (i := p) (by rw [← HN.out]; exact hp)
    rw [q1] at z1
    injection z1 with z1
    subst z1
    have hsl2 : sn < pr.rules.length := (List.getElem?_eq_some_iff.1 q3).1
    obtain ⟨row2, _, y1, b2, off2, oa2, cc2, rfl, y2, y3, y4, y5, y6⟩ := z10.slc_at hsl2
    rw [q3] at y1
    injection y1 with y1
    subst y1
    have hkl2 : k < rw_.length := (List.getElem?_eq_some_iff.1 q4).1
    obtain ⟨nx, st, _, x1, x2, b3, off3, oa3, cc3, rfl, x3, x4, x5, x6, x7, x8⟩ := y6.rule_at hkl2
    rw [q4] at x1
    injection x1 with x1
    subst x1
    simp only at q6 q7 q8 HRI HRS hS0
    obtain ⟨g0, g1, _, _, _, _, _, _, _, _⟩ := hW2.cells
    have g2 := hW2.sts.cell hs
    have g3 := hW2.sts.free p
    unfold slV at g1
    have l0 := World.block_lt_of_cell? _ _ g0
    have l1 := World.block_lt_of_cell? _ _ g1
    have l2 := World.block_lt_of_cell? _ _ g2
    have l3 := World.block_lt_of_cell? _ _ z5
    have l4 := World.block_lt_of_cell? _ _ y3
    have l5 := World.block_lt_of_cell? _ _ x4
    simp only at l0 l1 l2 l3 l4 l5
    have HW2 := hide hW2
    have HG2 := hide hG2
    have HST := hide x8
    have HQ8 := hide q8
    have hcl : pr.rules.length ≤ 16 := by
      have := check_zero (HX.out.proc p pr q1)
      omega
    have kd : decide ((k : Int) < 0) = false := by simp
    clear hlc hW1 hG1 hW2 hG2 x8 q8 hy hcr hgc hgs q1 q2 q3 q4 q5 hP2 z10 y6 hv hls hS0
    go_enter Try.func46, Try.ntmps46
    go_wp2_with (go_at_call 63; refine (idxPos row _ _ All _ HSL.out (by omega)).mono ?_; rintro e w2 ⟨rfl, rfl⟩; rw [HK.out]; simp only [idxI])
    go_region
    obtain ⟨W3, e3⟩ : ∃ W3, (W2.alloc (.cells #[.int .i64 nx, .slice oa3 st.length cc3] 78)).drew = W3 := ⟨_, rfl⟩
    have bb3 : Below W2.heap.size W2 W3 := by rw [← e3]; exact (bnew (Below.refl _ _) _).drew
    have bx3 : Box W3 W2.heap.size [.int .i64 nx, .slice oa3 st.length cc3] 78 := by rw [← e3]; exact (Box.new W2 [.int .i64 nx, .slice oa3 st.length cc3] 78).draw
    have hW3 := HW2.out.below bb3
    have hG3 := HG2.out.trans (Went.of_below bb3)
    obtain ⟨_, i1, _, _, _, _, _, _, _, _⟩ := hW3.cells
    have i2 := hW3.sts.free p
    have i3 := bx3.cell 0
    have i4 := hW3.sts.cell (i := p) (x := (sn : Int)) (by assumption)
    simp only [List.getElem?_cons_zero, List.getElem?_cons_succ] at i3
    unfold slV at i1
    have hW4 := (hW3.setState hp nx).draw
    have hG4 : Went N L W L (W3.setCell ⟨L.gs, p, none⟩ (.int .i64 nx)).drew := (hG3.trans (Went.put (.inr (.inl rfl)))).trans (Went.drew 1)
    have hb4 : Box (W3.setCell ⟨L.gs, p, none⟩ (.int .i64 nx)).drew W2.heap.size [.int .i64 nx, .slice oa3 st.length cc3] 78 := (bx3.other (p := ⟨L.gs, p, none⟩) (fun e => by have := HW2.out.mine_lt (.inr (.inl rfl)); simp only at e; omega) _).draw
    have HW4 := hide hW4
    have HG4 := hide hG4
    have HB4 := hide hb4
    clear hW3 hG3 hW4 hG4 hb4 bx3 bb3 g0 g1 g2 g3 l0 l1 l2 l3 l4 l5 z2 z3 z4 z5 y3 x3 x4
    rw [e3]
    go_wp2_with fail
    go_region
    obtain ⟨W4, e4⟩ : ∃ W4, (W3.setCell ⟨L.gs, p, none⟩ (.int .i64 nx)).drew = W4 := ⟨_, rfl⟩
    rw [e4] at HW4 HG4 HB4
    obtain ⟨S0, hS0⟩ : ∃ S0 : Wr, { S with wt := S.wt.set p (row.set k (v - 1)), ct := S.ct.set p (cr.set k (y + 1)), st := S.st.set p nx } = S0 := ⟨_, rfl⟩
    have HW5 : Hid (Wires B N L (some ⟨b1, off1, none⟩) cP oF nF cF S0 W4) := by show Wires _ _ _ _ _ _ _ _ _ _; rw [← hS0]; exact HW4.out
    rw [hS0] at HRI HRS
    have c5 := HB4.out.cell 1
    simp only [List.getElem?_cons_zero, List.getElem?_cons_succ] at c5
    clear HW4 HW2 hS0 i1 i2 i3 i4 hs d3 d4 d5 d6 r0 rf c2 t0
    rw [e4]
    go_wp2_with fail
    go_loopw [79] (fun iv wr => ∃ (i : Nat) (L3 : WLay) (S3 : Wr), i ≤ st.length ∧ iv = .int .i64 i ∧ Hid (S3 = (st.take i).foldl (fun w o => putS N p (pairO o) w) S0) ∧ Hid (Wires B N L3 (some ⟨b1, off1, none⟩) cP oF nF cF S3 wr) ∧ Hid (Went N L W L3 wr) ∧ Hid (WInv N (lettersP x.procs) (statesP x.procs) X (M + i) K A (T + 1 + i) [] S3)) (fun iv _ => st.length - (intOf iv).toNat)
    case atStart => exact ⟨0, L, S0, by omega, rfl, rfl, HW5, HG4, HRI.out.mono (by simp) (Int.le_refl _) (Int.le_refl _) (by simp) (Int.le_refl _) (by simpa using hmx)⟩
    case round =>
      obtain ⟨i, L3, S3, hi, rfl, HS3, HW6, HG6, HI6⟩ := hrel
      by_cases hlt : i < st.length
      · have hst : SliceR outR 2 (Lt B) wr oa3 st := HST.out.keep outR_ok fun q hq hql => ((HH.out.went_below HG6.out hB).block q hq).trans ((HH.out.went_below HG2.out hB).block q hq).symm
        obtain ⟨tt, le, hd, hxo, it, il, b, off, rfl, hbF, oc0, oc1⟩ := hst.out_at hlt
        obtain ⟨⟨m1, m2⟩, m3, m4⟩ := HQ8.out _ (List.mem_of_getElem? hxo)
        simp only at m1 m2 m3 m4
        obtain ⟨tn, rfl⟩ := Int.eq_ofNat_of_zero_le m1
        obtain ⟨ln, rfl⟩ := Int.eq_ofNat_of_zero_le m3
        simp only [Int.toNat_natCast] at m4
        obtain ⟨W1', hW1'⟩ : ∃ W1', wr.alloc (.cells #[.int .i64 tn, .int .i64 ln] 75) = W1' := ⟨_, rfl⟩
        have bx : Box W1' wr.heap.size [.int .i64 tn, .int .i64 ln] 75 := by rw [← hW1']; exact Box.new wr [.int .i64 tn, .int .i64 ln] 75
        have bb := bnew (Below.refl wr.heap.size wr) (.cells #[.int .i64 tn, .int .i64 ln] 75)
        rw [hW1'] at bb
        have k0 := bx.cell 0
        have k1 := bx.cell 1
        simp only [List.getElem?_cons_zero, List.getElem?_cons_succ] at k0 k1
        have hmi := HI6.out.mx
        have HFT : Hid ((st.take (i + 1)).foldl (fun w o => putS N p (pairO o) w) S0 = putS N p ((tn : Int), (ln : Int)) S3) := by
          show _ = _
          rw [List.take_add_one, hxo, List.foldl_append, HS3.out]
          rfl
        have HIN : Hid (WInv N (lettersP x.procs) (statesP x.procs) X (M + (i + 1 : Nat)) K A (T + 1 + (i + 1 : Nat)) [] (putS N p ((tn : Int), (ln : Int)) S3)) := by
          have := HI6.out.put hp (x := ((tn : Int), (ln : Int))) ⟨by simp, by have := HN.out; simp only; omega⟩ ⟨by simp, by simp only [Int.toNat_natCast]; omega⟩ (by omega)
          have e1 : M + ((i + 1 : Nat) : Int) = M + i + 1 := by push_cast; omega
          have e2 : T + 1 + ((i + 1 : Nat) : Int) = T + 1 + i + 1 := by push_cast; omega
          rw [e1, e2]
          exact this
        have HWa := hide (HW6.out.below bb)
        have HGa := hide (HG6.out.trans (Went.of_below bb))
        have HBa : Hid (B ≤ W1'.heap.size) := by show _ ≤ _; have := HGa.out.size; omega
        have HBX := hide bx
        have hln8 : ln < 8 := by have := (HX.out.letters tn (by omega)).2; omega
        have htn12 : tn < N := by have := HN.out; omega
        by_cases hq : tn = p
        · subst hq
          obtain ⟨row3, hr3, hg3, hl3⟩ := HI6.out.wrow hp
          have hk3 : ln < row3.length := by omega
          have hx3 := List.getElem?_eq_getElem hk3
          have hb3 := HI6.out.wb _ row3 hr3 ln _ hx3
          have hlc3 := Lc_nonneg ([] ++ S3.fl)
          have hcall := wait_any (HWa.out) hr3 hx3 (by omega) (by omega) (by have := (HX.out.letters tn (by omega)).2; omega)
          rw [HG6.out.p] at hcall
          have HC := hide hcall
          have HPE : Hid (putS N tn ((tn : Int), (ln : Int)) S3 = waitS tn ln S3) := by show _ = _; unfold putS; simp
          have q1 : (((tn : Nat) : Int) == ((tn : Nat) : Int)) = true := by simp
          clear hcall hb3 hlc3 hx3 hk3 hl3 hg3 hr3 hst hd hxo bx bb m4
          go_wp2_with (go_at_call 65; refine HC.out.mono ?_; rintro e w4 ⟨rfl, h4, g4⟩; have HW7 := hide h4; have HG7 := hide g4; clear h4 g4)
          have HGN := hide (HGa.out.trans HG7.out)
          go_roundw
          case rel => exact ⟨i + 1, L3, _, by omega, by go_num, by show _ = _; rw [HFT.out, HPE.out], HW7, HGN, by rw [← HPE.out]; exact HIN⟩
          case measure => simp [intOf]; omega
        · have q1 : (((tn : Nat) : Int) == ((p : Nat) : Int)) = false := by simp; omega
          have hpN : p * N ≤ 144 := Nat.le_trans (Nat.mul_le_mul (show p ≤ 12 by omega) (show N ≤ 12 by omega)) (by omega)
          have hjN : p * N + tn < N * N := by
            have := Nat.mul_le_mul_right N (show p + 1 ≤ N by omega)
            rw [Nat.succ_mul] at this
            omega
          obtain ⟨pN, hpe⟩ : ∃ pN, pN = p * N := ⟨_, rfl⟩
          obtain ⟨j, hj⟩ : ∃ j, j = pN + tn := ⟨_, rfl⟩
          have hw1 : IntKind.i64.wrap ((p : Int) * (N : Int)) = (pN : Int) := by
            rw [← Int.natCast_mul, ← hpe]
            unfold IntKind.wrap; simp [IntKind.signed, IntKind.bits]; omega
          have hw2 : IntKind.i64.wrap ((pN : Int) + (tn : Int)) = (j : Int) := by
            rw [hj]
            unfold IntKind.wrap; simp [IntKind.signed, IntKind.bits]; omega
          rw [← hpe] at hjN hpN
          rw [← hj] at hjN
          obtain ⟨j0, _, _, _, j4, _, _, _, _, _⟩ := HWa.out.cells
          have lt := HWa.out.ltab.cell (i := j) (x := Value.pointer (some ⟨L3.bl j, 0, none⟩)) (by simp [hjN])
          simp only [id_eq] at lt
          unfold slV at j4
          rw [HG6.out.p] at j0 j4
          have HJ : Hid (j = p * N + tn) := by show _ = _; rw [hj, hpe]
          clear hst hd hxo bx bb m4 hj hpe
          go_wp2_with fail
          go_quiet (fail)
          obtain ⟨W5, hW5⟩ : ∃ W5, W1'.drewN nq = W5 := ⟨_, rfl⟩
          have HWb : Hid (Wires B N L3 (some ⟨b1, off1, none⟩) cP oF nF cF S3 W5) := by show Wires _ _ _ _ _ _ _ _ _ _; rw [← hW5]; exact HWa.out.drewN nq
          have HGb : Hid (Went N L W L3 W5) := by show Went _ _ _ _ _; rw [← hW5]; exact HGa.out.trans (Went.drew nq)
          have hbx5 : Box W5 wr.heap.size [.int .i64 tn, .int .i64 ln] 75 := by rw [← hW5]; exact HBX.out
          have HB5 : Hid (B ≤ W5.heap.size) := by show _ ≤ _; rw [← hW5]; exact HBa.out
          rw [hW5]
          obtain ⟨l, hl, hgl⟩ := HI6.out.line hjN
          obtain ⟨lb1, lb2, lb3, lb4⟩ := HI6.out.lb j l hl
          have hql : l.q.length ≤ 999999999 := by
            have : l.tot = l.rm + l.q.length := rfl
            omega
          have hlin := HWb.out.lin j l hl
          have hlet := HWb.out.lett j l hl
          obtain ⟨oq, cq, hfv⟩ := hlet.form
          have p0 := hlin.cell 0
          have pf := hlin.free 0
          simp only [lnC, List.getElem?_cons_zero] at p0
          rw [hfv] at p0
          have k5 := hbx5.cell 1
          simp only [List.getElem?_cons_zero, List.getElem?_cons_succ] at k5
          have p0n := cell_next p0 (.cells #[.int .i64 (ln : Int)] 3)
          have HFV := hide hfv
          have HLE := hide hlet
          have HLI := hide hlin
          have HNE : Hid (some (L3.bl j) ≠ (L3.lv j).ownBlock) := fun e => by
            obtain ⟨cur, hcur⟩ := ownN_heap HLE.out e.symm
            exact ne_type HLI.out hcur (by decide) rfl
          have HLS := hide hl
          have HGL := hide hgl
          clear hfv hlet hlin hl hgl lb1 lb2 lb3 lb4 hbx5 hW5 k0 k1 j0 j4 lt hw1 hw2
          go_wp2_with fail
          go_region_law (refine step_append_n rfl (.tmp 114) (.tmp 117) 23 rfl B 3 _ Try.underlying23 intInfoW rfl (L3.lv j) l.q (by simp [Act.eval, Act.put, HFV.out]) ((HLE.out.new _).draw) ⟨_, 0, none⟩ 1 (ln : Int) (by simp [Act.eval, Act.put]) (one_cellW rfl) (by constructor <;> omega) (by omega) (by have := HB5.out; simp; omega) ?_; intro v' w3 ho hb hg hat; have hbm := ((HLI.out.next _).draw).grown hg HNE.out; have k6 := hbm.cell 0; have kf := hbm.free 0; obtain ⟨o3, c3, rfl⟩ := ho.form; simp only [lnC, List.getElem?_cons_zero] at k6)
          all_goals
            have hpf := HWb.out.pushQ HLS.out ho (fun k hk hne => (hg.block k (by show k < (W5.alloc _).heap.size; simp; omega) hne).trans (Below.heap_alloc W5 _ k hk)) (((bnew (Below.refl _ _) _).drew.mono HB5.out).trans hb) (fun k hk => (hat k hk).imp id fun e => Nat.le_trans (by show W5.heap.size ≤ (W5.alloc _).heap.size; simp) e)
            simp only [List.length_append, List.length_cons, List.length_nil, Nat.zero_add] at hpf
            have HPE : Hid (putS N p ((tn : Int), (ln : Int)) S3 = { S3 with ls := S3.ls.set j { l with q := l.q ++ [(ln : Int)] } }) := by
              show _ = _
              unfold putS
              rw [if_neg (by simp; omega)]
              simp only [Int.toNat_natCast]
              rw [← HJ.out, HGL.out]
            have HX7 := hide hpf.1
            have HY7 := hide (HGb.out.trans hpf.2)
            clear hpf ho hg hb hat hbm k6 kf p0 p0n pf
            go_wp2_with fail
            go_roundw
            case rel => exact ⟨i + 1, _, _, by clear HX7 HY7 HIN; omega, by go_num, by show _ = _; rw [HFT.out, HPE.out], HX7, HY7, by rw [← HPE.out]; exact HIN⟩
            case measure => simp [intOf]; omega
      · have htk : st.take i = st := List.take_of_length_le (by omega)
        go_wp2_with fail
        go_end0
        refine ⟨rfl, L3, ?_, HG6.out⟩
        rw [HRS.out, ← htk, ← HS3.out]
        exact HW6.out
end

end Go.Proofs.Ytnigfddanoaonaa

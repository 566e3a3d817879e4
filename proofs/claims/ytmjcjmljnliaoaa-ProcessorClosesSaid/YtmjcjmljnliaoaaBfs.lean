/-
  The search for reachable states, and the fixed point: plain Lean.
-/
import Derived.Test.YtmjcjmljnliaoaaReach
set_option linter.unusedVariables false
namespace Go.Proofs.Ytmjcjmljnliaoaa
open Go.RowKit

def castL (l : List Nat) : List Int := l.map fun n : Nat => (n : Int)
theorem castL_len (l : List Nat) : (castL l).length = l.length := by simp [castL]
theorem castL_app (l m : List Nat) : castL (l ++ m) = castL l ++ castL m := by simp [castL]
theorem castL_mem {l : List Nat} {n : Nat} : (n : Int) ∈ castL l ↔ n ∈ l := by
  simp only [castL, List.mem_map]
  constructor
  · rintro ⟨m, hm, h⟩
    have : m = n := by omega
    exact this ▸ hm
  · exact fun h => ⟨n, h, rfl⟩

theorem nodup_len {S : Nat} : ∀ {l : List Nat}, l.Nodup → (∀ x ∈ l, x < S) → l.length ≤ S := by
  induction S with
  | zero =>
    intro l _ h
    match l with
    | [] => simp
    | x :: r => exact absurd (h x (by simp)) (by omega)
  | succ S ih =>
    intro l hn h
    have h1 : (l.erase S).Nodup := hn.erase S
    have h2 : ∀ x ∈ l.erase S, x < S := fun x hx => by
      have h3 := List.mem_of_mem_erase hx
      have h4 := h x h3
      have h5 : x ≠ S := fun e => by subst e; exact (List.Nodup.not_mem_erase hn) hx
      omega
    have h3 := ih h1 h2
    have h4 : l.length ≤ (l.erase S).length + 1 := by
      rw [List.length_erase]; split <;> omega
    omega

section
variable {nx : Nat → Nat → Nat} {L S s : Nat}
theorem rch_refl : Rch nx L s s := ⟨0, rfl⟩
theorem rch_step {t a : Nat} (h : Rch nx L s t) (ha : a < L) : Rch nx L s (nx t a) := by
  obtain ⟨k, hk⟩ := h
  exact ⟨k + 1, .inr ⟨t, a, hk, ha, rfl⟩⟩
theorem rch_lt (hs : s < S) (h : ∀ u a, u < S → a < L → nx u a < S) {t : Nat} (ht : Rch nx L s t) : t < S := by
  obtain ⟨k, hk⟩ := ht
  exact within_lt hs h k t hk
theorem rch_in {P : Nat → Prop} (h0 : P s) (h : ∀ u a, P u → a < L → P (nx u a)) {t : Nat} (ht : Rch nx L s t) : P t := by
  obtain ⟨k, hk⟩ := ht
  induction k generalizing t with
  | zero => cases hk; exact h0
  | succ k ih =>
    rcases hk with hk | ⟨u, a, hu, ha, rfl⟩
    · exact ih hk
    · exact h u a (ih hu) ha
theorem rch_trans {t u : Nat} (h : Rch nx L s t) (h2 : Rch nx L t u) : Rch nx L s u := rch_in (P := fun x => Rch nx L s x) h (fun _ _ hu ha => rch_step hu ha) h2

/-- The search: what waits, what was seen. -/
structure Bfs (nx : Nat → Nat → Nat) (L s : Nat) (work seen : List Nat) : Prop where
  nodup : seen.Nodup
  start : s ∈ seen
  sound : ∀ x ∈ seen, Rch nx L s x
  sub : ∀ x ∈ work, x ∈ seen
  closed : ∀ u ∈ seen, u ∉ work → ∀ a, a < L → nx u a ∈ seen
/-- .. while the letters of t from k on are still to come. -/
structure Mid (nx : Nat → Nat → Nat) (L s t k : Nat) (work seen : List Nat) : Prop where
  nodup : seen.Nodup
  start : s ∈ seen
  sound : ∀ x ∈ seen, Rch nx L s x
  sub : ∀ x ∈ work, x ∈ seen
  here : t ∈ seen
  done : ∀ a, a < k → nx t a ∈ seen
  closed : ∀ u ∈ seen, u ∉ work → u ≠ t → ∀ a, a < L → nx u a ∈ seen
theorem Bfs.begin : Bfs nx L s [s] [s] :=
  ⟨by simp, by simp, fun x hx => by simp at hx; subst hx; exact rch_refl, fun x hx => hx, fun u hu hn => absurd hu hn⟩
theorem Bfs.pop {t : Nat} {r seen : List Nat} (h : Bfs nx L s (t :: r) seen) : Mid nx L s t 0 r seen :=
  ⟨h.nodup, h.start, h.sound, fun x hx => h.sub x (by simp [hx]), h.sub t (by simp), fun a ha => by omega, fun u hu hn hne a ha => h.closed u hu (by simp [hn, hne]) a ha⟩
theorem Mid.old {t k : Nat} {work seen : List Nat} (h : Mid nx L s t k work seen) (hm : nx t k ∈ seen) : Mid nx L s t (k + 1) work seen := by
  refine ⟨h.nodup, h.start, h.sound, h.sub, h.here, fun a ha => ?_, h.closed⟩
  rcases Nat.lt_or_ge a k with h1 | h1
  · exact h.done a h1
  · have : a = k := by omega
    exact this ▸ hm
theorem Mid.more {t k : Nat} {work seen : List Nat} (h : Mid nx L s t k work seen) (hm : nx t k ∉ seen) (hk : k < L) : Mid nx L s t (k + 1) (work ++ [nx t k]) (seen ++ [nx t k]) where
  nodup := by
    rw [List.nodup_append]
    exact ⟨h.nodup, by simp, fun a ha b hb => by simp at hb; subst hb; exact fun e => hm (e ▸ ha)⟩
  start := by simp [h.start]
  sound := fun x hx => by
    rcases List.mem_append.1 hx with hx | hx
    · exact h.sound x hx
    · simp at hx; subst hx; exact rch_step (h.sound t h.here) hk
  sub := fun x hx => by
    rcases List.mem_append.1 hx with hx | hx
    · simp [h.sub x hx]
    · simp at hx; simp [hx]
  here := by simp [h.here]
  done := fun a ha => by
    rcases Nat.lt_or_ge a k with h1 | h1
    · simp [h.done a h1]
    · have : a = k := by omega
      subst this; simp
  closed := fun u hu hn hne a ha => by
    rcases List.mem_append.1 hu with hu | hu
    · simp [h.closed u hu (fun hw => hn (by simp [hw])) hne a ha]
    · exact absurd (by simp at hu; simp [hu]) hn
theorem Mid.finish {t : Nat} {work seen : List Nat} (h : Mid nx L s t L work seen) : Bfs nx L s work seen :=
  ⟨h.nodup, h.start, h.sound, h.sub, fun u hu hn a ha => by
    by_cases e : u = t
    · subst e; exact h.done a ha
    · exact h.closed u hu hn e a ha⟩
theorem Bfs.all {seen : List Nat} (h : Bfs nx L s [] seen) (t : Nat) : t ∈ seen ↔ Rch nx L s t :=
  ⟨h.sound t, fun ht => rch_in (P := fun x => x ∈ seen) h.start (fun u a hu ha => h.closed u hu (by simp) a ha) ht⟩
theorem Bfs.few {work seen : List Nat} (h : Bfs nx L s work seen) (hs : s < S) (hn : ∀ u a, u < S → a < L → nx u a < S) : seen.length ≤ S :=
  nodup_len h.nodup fun x hx => rch_lt hs hn (h.sound x hx)
theorem Mid.few {t k : Nat} {work seen : List Nat} (h : Mid nx L s t k work seen) (hs : s < S) (hn : ∀ u a, u < S → a < L → nx u a < S) : seen.length ≤ S :=
  nodup_len h.nodup fun x hx => rch_lt hs hn (h.sound x hx)
end

/-- The list of what is reachable, in order. -/
def IsReach (nx : Nat → Nat → Nat) (L s : Nat) (l : List Int) : Prop := l.Pairwise (· < ·) ∧ ∀ t : Int, t ∈ l ↔ ∃ n : Nat, t = n ∧ Rch nx L s n

theorem sorted_ext : ∀ {l m : List Int}, l.Pairwise (· < ·) → m.Pairwise (· < ·) → (∀ x, x ∈ l ↔ x ∈ m) → l = m
  | [], [], _, _, _ => rfl
  | [], y :: m, _, _, h => absurd ((h y).2 (by simp)) (by simp)
  | x :: l, [], _, _, h => absurd ((h x).1 (by simp)) (by simp)
  | x :: l, y :: m, hl, hm, h => by
    rw [List.pairwise_cons] at hl hm
    have e : x = y := by
      have h1 := (h x).1 (by simp)
      have h2 := (h y).2 (by simp)
      rcases List.mem_cons.1 h1 with h1 | h1
      · exact h1
      · rcases List.mem_cons.1 h2 with h2 | h2
        · exact h2.symm
        · have := hl.1 y h2; have := hm.1 x h1; omega
    subst e
    congr 1
    refine sorted_ext hl.2 hm.2 fun z => ?_
    have hz := h z
    constructor
    · intro hzl
      rcases List.mem_cons.1 (hz.1 (by simp [hzl])) with e | e
      · have := hl.1 z hzl; omega
      · exact e
    · intro hzm
      rcases List.mem_cons.1 (hz.2 (by simp [hzm])) with e | e
      · have := hm.1 z hzm; omega
      · exact e
theorem isReach_unique {nx : Nat → Nat → Nat} {L s : Nat} {l m : List Int} (h : IsReach nx L s l) (h2 : IsReach nx L s m) : l = m :=
  sorted_ext h.1 h2.1 fun x => (h.2 x).trans (h2.2 x).symm

theorem lt_of_both : ∀ {l : List Int}, l.Pairwise (fun x y => decide (x ≤ y) = true) → l.Nodup → l.Pairwise (· < ·)
  | [], _, _ => by simp
  | x :: r, h, h2 => by
    rw [List.pairwise_cons] at h ⊢
    rw [List.nodup_cons] at h2
    refine ⟨fun y hy => ?_, lt_of_both h.2 h2.2⟩
    have h3 := h.1 y hy
    have h4 : x ≠ y := fun e => h2.1 (e ▸ hy)
    simp at h3
    omega

theorem isReach_sort {nx : Nat → Nat → Nat} {L s : Nat} {seen : List Nat} (h : Bfs nx L s [] seen) : IsReach nx L s ((castL seen).mergeSort fun x y => decide (x ≤ y)) := by
  have hperm := List.mergeSort_perm (castL seen) fun x y => decide (x ≤ y)
  have hsort := List.pairwise_mergeSort (le := fun x y : Int => decide (x ≤ y)) (by intro a b c; simp; omega) (by intro a b; simp; omega) (castL seen)
  have hnd : (castL seen).Nodup := by
    unfold castL
    exact List.Pairwise.map _ (fun a b hab e => hab (by omega)) h.nodup
  have hnd2 := hperm.nodup_iff.2 hnd
  refine ⟨?_, fun t => ?_⟩
  · exact lt_of_both hsort hnd2
  · rw [hperm.mem_iff]
    simp only [castL, List.mem_map]
    constructor
    · rintro ⟨n, hn, rfl⟩; exact ⟨n, rfl, (h.all n).1 hn⟩
    · rintro ⟨n, rfl, hn⟩; exact ⟨n, (h.all n).2 hn, rfl⟩

/-- The fixed point, round by round: bs after k rounds; of the round after that the states below t have been taken; of t the letters below j. -/
structure Led (nx : Nat → Nat → Nat) (L S s k t : Nat) (bs : List Bool) : Prop where
  len : bs.length = S
  got : ∀ u, within nx L s k u → bs[u]? = some true
  sound : ∀ u, bs[u]? = some true → Rch nx L s u
  part : ∀ u, u < t → within nx L s k u → ∀ a, a < L → bs[nx u a]? = some true

section
variable {nx : Nat → Nat → Nat} {L S s : Nat}
theorem Led.begin (hs : s < S) : Led nx L S s 0 0 ((List.replicate S false).set s true) where
  len := by simp
  got := fun u hu => by cases hu; simp [hs]
  sound := fun u hu => by
    by_cases e : s = u
    · subst e; exact rch_refl
    · rw [List.getElem?_set_ne e, List.getElem?_replicate] at hu
      split at hu <;> simp at hu
  part := fun u hu => by omega
theorem Led.set {k t j : Nat} {bs : List Bool} (h : Led nx L S s k t bs) (ht : bs[t]? = some true) (hj : j < L) (hn : nx t j < S) (hd : ∀ a, a < j → bs[nx t a]? = some true) :
    Led nx L S s k t (bs.set (nx t j) true) ∧ (bs.set (nx t j) true)[t]? = some true ∧ ∀ a, a < j + 1 → (bs.set (nx t j) true)[nx t a]? = some true := by
  have mono : ∀ u, bs[u]? = some true → (bs.set (nx t j) true)[u]? = some true := fun u hu => by
    by_cases e : nx t j = u
    · subst e; rw [List.getElem?_set_self (by rw [h.len]; exact hn)]
    · rw [List.getElem?_set_ne e]; exact hu
  refine ⟨⟨by simp [h.len], fun u hu => mono u (h.got u hu), fun u hu => ?_, fun u hu hw a ha => mono _ (h.part u hu hw a ha)⟩, mono t ht, fun a ha => ?_⟩
  · by_cases e : nx t j = u
    · subst e; exact rch_step (h.sound t ht) hj
    · rw [List.getElem?_set_ne e] at hu; exact h.sound u hu
  · rcases Nat.lt_or_ge a j with h1 | h1
    · exact mono _ (hd a h1)
    · have : a = j := by omega
      subst this
      rw [List.getElem?_set_self (by rw [h.len]; exact hn)]
theorem Led.next {k t : Nat} {bs : List Bool} (h : Led nx L S s k t bs) (hd : bs[t]? = some true → ∀ a, a < L → bs[nx t a]? = some true) : Led nx L S s k (t + 1) bs := by
  refine ⟨h.len, h.got, h.sound, fun u hu hw a ha => ?_⟩
  rcases Nat.lt_or_ge u t with h1 | h1
  · exact h.part u h1 hw a ha
  · have : u = t := by omega
    subst this
    exact hd (h.got u hw) a ha
theorem Led.round (hs : s < S) (hn : ∀ u a, u < S → a < L → nx u a < S) {k : Nat} {bs : List Bool} (h : Led nx L S s k S bs) : Led nx L S s (k + 1) 0 bs where
  len := h.len
  got := fun u hu => by
    rcases hu with hu | ⟨v, a, hv, ha, rfl⟩
    · exact h.got u hu
    · exact h.part v (within_lt hs hn k v hv) hv a ha
  sound := h.sound
  part := fun u hu => by omega
/-- What the reference says in the end. -/
def Leads (nx : Nat → Nat → Nat) (L S s : Nat) (bs : List Bool) : Prop := bs.length = S ∧ ∀ u, bs[u]? = some true ↔ Rch nx L s u
theorem Led.all (hs : s < S) (hn : ∀ u a, u < S → a < L → nx u a < S) {bs : List Bool} (h : Led nx L S s S 0 bs) : Leads nx L S s bs :=
  ⟨h.len, fun u => ⟨h.sound u, fun hu => h.got u ((rch_within hs hn u).1 hu)⟩⟩
end

theorem true_of_getD {bs : List Bool} {n : Nat} (h : n < bs.length) : bs.getD n false = true ↔ bs[n]? = some true := by
  rw [List.getD_eq_getElem?_getD, List.getElem?_eq_getElem h]; simp

/-- The list of the states whose place in bs is true. -/
def trues (bs : List Bool) : Nat → List Int
  | 0 => []
  | k + 1 => if bs.getD k false then trues bs k ++ [(k : Int)] else trues bs k
theorem trues_mem (bs : List Bool) : ∀ k (t : Int), t ∈ trues bs k ↔ ∃ n : Nat, t = n ∧ n < k ∧ bs.getD n false = true
  | 0, t => by simp [trues]
  | k + 1, t => by
    unfold trues
    split
    · rename_i hk
      rw [List.mem_append, trues_mem bs k t]
      constructor
      · rintro (⟨n, h1, h2, h3⟩ | h)
        · exact ⟨n, h1, by omega, h3⟩
        · simp at h; exact ⟨k, h, by omega, hk⟩
      · rintro ⟨n, h1, h2, h3⟩
        rcases Nat.lt_or_ge n k with h4 | h4
        · exact .inl ⟨n, h1, h4, h3⟩
        · have : n = k := by omega
          subst this
          exact .inr (by simp [h1])
    · rename_i hk
      rw [trues_mem bs k t]
      constructor
      · rintro ⟨n, h1, h2, h3⟩; exact ⟨n, h1, by omega, h3⟩
      · rintro ⟨n, h1, h2, h3⟩
        rcases Nat.lt_or_ge n k with h4 | h4
        · exact ⟨n, h1, h4, h3⟩
        · have : n = k := by omega
          subst this
          exact absurd h3 hk
theorem trues_len (bs : List Bool) : ∀ k, (trues bs k).length ≤ k
  | 0 => by simp [trues]
  | k + 1 => by unfold trues; have := trues_len bs k; split <;> simp <;> omega
theorem trues_sorted (bs : List Bool) : ∀ k, (trues bs k).Pairwise (· < ·)
  | 0 => by simp [trues]
  | k + 1 => by
    unfold trues
    split
    · rw [List.pairwise_append]
      refine ⟨trues_sorted bs k, by simp, fun a ha b hb => ?_⟩
      obtain ⟨n, h1, h2, _⟩ := (trues_mem bs k a).1 ha
      simp at hb
      omega
    · exact trues_sorted bs k
theorem trues_reach {nx : Nat → Nat → Nat} {L S s : Nat} {bs : List Bool} (hs : s < S) (hn : ∀ u a, u < S → a < L → nx u a < S) (h : Leads nx L S s bs) : IsReach nx L s (trues bs S) := by
  refine ⟨trues_sorted bs S, fun t => ?_⟩
  rw [trues_mem]
  constructor
  · rintro ⟨n, h1, h2, h3⟩
    exact ⟨n, h1, (h.2 n).1 ((true_of_getD (by rw [h.1]; exact h2)).1 h3)⟩
  · rintro ⟨n, h1, h2⟩
    have h3 := rch_lt hs hn h2
    exact ⟨n, h1, h3, (true_of_getD (by rw [h.1]; exact h3)).2 ((h.2 n).2 h2)⟩

/-- Recurrent: from all that is reachable one comes back. -/
def Back (nx : Nat → Nat → Nat) (L s : Nat) : Prop := ∀ t, Rch nx L s t → Rch nx L t s

end Go.Proofs.Ytmjcjmljnliaoaa

/-
  The reachable states: the program's search.
-/
import Derived.Test.YtmjcjmljnliaoaaHas
import Derived.Test.YtmjcjmljnliaoaaRepeat
import Derived.Test.YtmjcjmljnliaoaaBfs
import Derived.Test.YtmjcjmljnliaoaaQueue
import Derived.Test.YtmjcjmljnliaoaaRow1
import Derived.Test.YtmjcjmljnliaoaaSortI
set_option linter.unusedVariables false
namespace Go.Proofs.Ytmjcjmljnliaoaa
open Go.RowKit

def nxOf (rs : List (List Rul)) (u a : Nat) : Nat := (ruleAt rs u a).next.toNat

theorem nx_ok {S L : Int} {rs : List (List Rul)} (hV : checkErr ⟨S, L, rs⟩ 12 = 0) {u a : Nat} (hu : u < rs.length) (ha : (a : Int) < L) : (ruleAt rs u a).next = (nxOf rs u a : Int) ∧ nxOf rs u a < rs.length := by
  have hrow := List.getElem?_eq_getElem hu
  have hl := valid_row hV hrow
  have haj : a < rs[u].length := by simp at hl; omega
  have hru := List.getElem?_eq_getElem haj
  have hr := (valid_rule hV hrow hru).1
  have hS := (check_zero hV).2.2.2.1
  simp at hr hS
  unfold nxOf
  rw [ruleAt_eq hrow hru]
  omega

theorem nx_lt {S L : Int} {rs : List (List Rul)} (hV : checkErr ⟨S, L, rs⟩ 12 = 0) : ∀ u a, u < rs.length → a < L.toNat → nxOf rs u a < rs.length :=
  fun u a hu ha => (nx_ok hV hu (by omega)).2

/-- A list of integers that can be read. -/
def IntsAt (w : World) (v : Value) (l : List Int) : Prop := ∃ oa c, v = .slice oa l.length c ∧ l.length ≤ c ∧ SliceR intR 1 All w oa l

def ReachPost (w : World) (rs : List (List Rul)) (L : Int) (s : Nat) (e : Ending) (w' : World) : Prop :=
  ∃ v l, e = .returned v ∧ IsReach (nxOf rs) L.toNat s l ∧ l.length ≤ rs.length ∧ IntsAt w' v l ∧ Below w.heap.size w w'

theorem castL_cons (t : Nat) (r : List Nat) : castL (t :: r) = (t : Int) :: castL r := rfl
def lenV : Value → Nat
  | .slice _ n _ => n
  | _ => 0

theorem read1 {S L : Int} {rs : List (List Rul)} {oa : Option Addr} {c : Nat} {t k : Nat} {F G : Foot} {ob : Option Addr} (w : World) (hs : SliceR (slcR ruleR 2) 1 F w oa rs) (hV : Hid (checkErr ⟨S, L, rs⟩ 12 = 0)) (hS : t < rs.length) (hk : (k : Int) < L) (hw : SliceR intR 1 G w ob [(k : Int)]) :
    Calls Try.prog 92 #[.agg #[.int .i64 S, .int .i64 L, .slice oa rs.length c], .int .i64 t, .slice ob 1 1] w fun e w' => ∃ v, e = .returned (.tuple #[.int .i64 (nxOf rs t k : Nat), v]) ∧ Below w.heap.size w w' := by
  have hL16 := (check_zero hV.out).2.2.2.1
  simp at hL16
  have hl : Hid (lettersErr L [(k : Int)] = 0) := by
    show _ = _
    have : belowB (k : Int) L = true := by simp [belowB]; omega
    simp [lettersErr, this]
  refine (read_any S L rs oa c t [(k : Int)] ob 1 F G w hs hw hV (by omega) hl (by simp)).mono ?_
  rintro e w' ⟨v, rfl, _, hb⟩
  refine ⟨v, ?_, hb⟩
  have h1 : (readSpec rs t [(k : Int)]).1 = (ruleAt rs t k).next := rfl
  rw [h1, (nx_ok hV.out hS hk).1]

theorem contains_q {base : Nat} {e : TypeId} (x : Int) (l : List Int) (v : Value) (w : World) (hq : OwnQ base e w v l) (hl : l.length ≤ 1000000000) :
    Calls Try.prog 55 #[v, .int .i64 x] w fun e w' => e = .returned (.bool (decide (x ∈ l))) ∧ w = w' := by
  obtain ⟨oa, c, rfl, hc, hs⟩ := hq.slice
  exact contains_any x l oa c _ w hs hc (by omega)

theorem OwnQ.lenV {base : Nat} {e : TypeId} {w : World} {v : Value} {xs : List Int} (hq : OwnQ base e w v xs) : lenV v = xs.length := by
  obtain ⟨oa, c, rfl, hc, hs⟩ := hq.slice
  rfl
theorem queue_close {base : Nat} {e : TypeId} {w3 w5 w6 : World} {u5 u6 v5 v6 : Value} {o5 o6 : Obj} {xs ys : List Int} (hs3 : OwnQ base e w3 u6 xs) (HD : ∀ k, u5.ownBlock = some k → u6.ownBlock ≠ some k) (hq5 : OwnQ base e w5 v5 ys)
    (hg5 : (w3.alloc o5).grownBy w5 u5.ownBlock) (hv5 : ∀ k, v5.ownBlock = some k → u5.ownBlock = some k ∨ (w3.alloc o5).heap.size ≤ k) (hg6 : (w5.alloc o6).grownBy w6 u6.ownBlock) (hv6 : ∀ k, v6.ownBlock = some k → u6.ownBlock = some k ∨ (w5.alloc o6).heap.size ≤ k) :
    OwnQ base e w6 v5 ys ∧ Hid (∀ k, v5.ownBlock = some k → v6.ownBlock ≠ some k) := by
  have hne : ∀ k, v5.ownBlock = some k → u6.ownBlock ≠ some k := fun k hk h6 => by
    rcases hv5 k hk with h | h
    · exact HD k h h6
    · have := (hs3.block k h6).2; simp at h; omega
  refine ⟨(hq5.new o6).keep fun g hg => hg6.block g (by have := (hq5.block g hg).2; simp; omega) fun he => hne g hg he.symm, fun k hk h6 => ?_⟩
  rcases hv6 k h6 with h | h
  · exact hne k hk h
  · have := (hq5.block k hk).2; simp at h; omega

theorem bfs_done {rs : List (List Rul)} {L : Int} {s0 : Nat} {seen : List Nat} (h : Bfs (nxOf rs) L.toNat s0 [] seen) : IsReach (nxOf rs) L.toNat s0 ((castL seen).mergeSort fun x y => decide (x ≤ y)) := isReach_sort h

set_option maxRecDepth 100000 in
set_option maxHeartbeats 2000000 in
theorem reachable_any (S L : Int) (rs : List (List Rul)) (oa : Option Addr) (c : Nat) (s0 : Nat) (F : Foot) (w : World) (hs : SliceR (slcR ruleR 2) 1 F w oa rs)
    (hV : Hid (checkErr ⟨S, L, rs⟩ 12 = 0)) (hS : s0 < rs.length) :
    Calls Try.prog 104 #[.agg #[.int .i64 S, .int .i64 L, .slice oa rs.length c], .int .i64 s0] w (ReachPost w rs L s0) := by
  obtain ⟨Lk, rfl⟩ := Int.eq_ofNat_of_zero_le (show 0 ≤ L by have := (check_zero hV.out).2.2.1; simp at this; omega)
  have hL8 : Lk ≤ 8 := by have := (check_zero hV.out).2.2.1; simp at this; omega
  have hS16 : rs.length ≤ 16 := by have h1 := (check_zero hV.out).2.1; have h2 := (check_zero hV.out).2.2.2.1; simp at h1 h2; omega
  have HNX := hide (nx_lt hV.out)
  simp only [Int.toNat_natCast] at HNX
  go_enter Try.func104, Try.ntmps104
  go_wp2_with fail
  go_step3
  go_wp2_with fail
  go_step3
  go_wp2_with fail
  have hb0 := box_refl w (.cells #[.int .i64 S, .int .i64 Lk, .slice oa rs.length c] 47)
  go_loopw [5, 6] (fun wv sv wr => ∃ work seen : List Nat, Hid (Bfs (nxOf rs) Lk s0 work seen) ∧ OwnQ (w.heap.size + 1) 3 wr wv (castL work) ∧ OwnQ (w.heap.size + 1) 3 wr sv (castL seen) ∧
      Hid (∀ k, wv.ownBlock = some k → sv.ownBlock ≠ some k) ∧ work.length ≤ seen.length ∧
      Below (w.heap.size + 1) (w.alloc (.cells #[.int .i64 S, .int .i64 Lk, .slice oa rs.length c] 47)) wr) (fun wv sv _ => 2 * (rs.length - lenV sv) + lenV wv)
  case atStart =>
    have i64 : ∀ x ∈ castL [s0], I64 x := by intro x hx; simp [castL] at hx; subst hx; unfold I64; omega
    refine ⟨[s0], [s0], Bfs.begin, ?_, ?_, ?_, by simp, ?_⟩
    · have h := OwnQ.lit (w.alloc (.cells #[.int .i64 S, .int .i64 Lk, .slice oa rs.length c] 47)) 3 (castL [s0]) i64 (by simp [castL])
      rw [World.size_alloc] at h
      exact h.new _
    · have h := OwnQ.lit ((w.alloc (.cells #[.int .i64 S, .int .i64 Lk, .slice oa rs.length c] 47)).alloc (.cells #[.int .i64 s0] 3)) 3 (castL [s0]) i64 (by simp [castL])
      rw [World.size_alloc, World.size_alloc] at h
      exact h.rebase (by omega)
    · intro k hk; simp [Value.ownBlock] at hk ⊢; omega
    · exact box_new (box_new hb0 (by simp) _) (by simp) _
  case round =>
    obtain ⟨work, seen, HB, hq, hqs, HD, hws, hb⟩ := hrel
    have d0 := box_cell hb 0
    have d1 := box_cell hb 1
    have d2 := box_cell hb 2
    simp at d0 d1 d2
    have hsz := box_lt hb
    have hfew : seen.length ≤ rs.length := HB.out.few hS HNX.out
    match work, HB, hq, hws with
    | [], HB, hq, hws =>
      obtain ⟨ow, cw, rfl, _, _⟩ := hq.slice
      simp only [castL, List.map_nil, List.length_nil] at *
      go_wp2_with fail
      refine (sortI_any _ _ _ _ _ hqs (by simp; omega)).mono ?_
      rintro e w2 ⟨rfl, hq2, hg2⟩
      have hb2 := hb.grown hg2 (by omega) fun k hk => (hqs.block k hk).1
      obtain ⟨oa2, c2, rfl, hc2, hsl⟩ := hq2.slice
      go_wp2_with fail
      rw [Exit.noGoto_ret]
      go_ret
      refine ⟨.slice oa2 seen.length c2, _, rfl, ?_, ?_, ⟨oa2, c2, by rw [List.length_mergeSort]; simp, hc2, hsl.all intR_ok (by omega)⟩, below_box hb2⟩
      · simp only [Int.toNat_natCast]; exact isReach_sort HB.out
      · rw [List.length_mergeSort]; simp; exact hfew
    | t :: r, HB, hq, hws =>
      simp only [List.length_cons] at hws
      rw [castL_cons] at hq
      obtain ⟨g, o, cap, hv, hg1, hg2, hrc, hcm, ct, _, hq1⟩ := hq.head
      rw [castL_len] at hv hrc hq1
      subst hv
      have h10 : ((r.length : Int) + 1 == 0) = false := by simp; omega
      have ht : t < rs.length := rch_lt hS HNX.out (HB.out.sound t (HB.out.sub t (by simp)))
      have HM := hide HB.out.pop
      have hd1 : Hid (∀ k, (Value.slice (some (if cap = 0 then ⟨g, o, none⟩ else ⟨g, o + 1, none⟩)) r.length cap).ownBlock = some k → u6.ownBlock ≠ some k) := by
        intro k hk; refine HD.out k ?_; simp [Value.ownBlock] at hk ⊢; split at hk <;> exact hk
      have hle : 2 * (rs.length - seen.length) + r.length + 1 ≤ 2 * (rs.length - lenV u6) + lenV (.slice (some ⟨g, o, none⟩) (r.length + 1) (cap + 1)) := by
        obtain ⟨o6, c6, rfl, _⟩ := hqs.slice
        simp [lenV, castL_len]
        omega
      obtain ⟨m0, hm0⟩ : ∃ m0, m0 = 2 * (rs.length - lenV u6) + lenV (.slice (some ⟨g, o, none⟩) (r.length + 1) (cap + 1)) := ⟨_, rfl⟩
      rw [← hm0] at hle
      have HM0 := hide hm0
      clear hm0 HB HD hq
      have HQ : ∃ o', (cap = 0 → o' = o) ∧ (0 < cap → o' = o + 1) ∧ OwnQ (w.heap.size + 1) 3 wr (.slice (some ⟨g, o', none⟩) r.length cap) (castL r) ∧ Hid (∀ k, (Value.slice (some ⟨g, o', none⟩) r.length cap).ownBlock = some k → u6.ownBlock ≠ some k) := by
        by_cases hcap : cap = 0
        · rw [if_pos hcap] at hq1 hd1; exact ⟨o, fun _ => rfl, fun h => by omega, hq1, hd1⟩
        · rw [if_neg hcap] at hq1 hd1; exact ⟨o + 1, fun h => by omega, fun _ => rfl, hq1, hd1⟩
      clear hq1 hd1
      obtain ⟨o', ho1, ho2, hq1, hd1⟩ := HQ
      rcases Nat.eq_zero_or_pos cap with hcap | hcap
      case' inl => have h := ho1 hcap; subst h; subst hcap; obtain rfl : r = [] := List.eq_nil_of_length_eq_zero (by omega); clear h10; simp only [List.length_nil, Nat.zero_add] at *
      case' inr => have h := ho2 hcap; subst h
      all_goals
        clear ho1 ho2
        go_wp2_with fail
        obtain ⟨wo, rfl⟩ : ∃ wo : World, wo = wr := ⟨_, rfl⟩
        go_loopw [25, 5, 6] (fun iv wv sv wx => ∃ (k : Nat) (work seen : List Nat), k ≤ Lk ∧ iv = .int .i64 k ∧ Hid (Mid (nxOf rs) Lk s0 t k work seen) ∧ OwnQ (w.heap.size + 1) 3 wx wv (castL work) ∧ OwnQ (w.heap.size + 1) 3 wx sv (castL seen) ∧
          Hid (∀ k, wv.ownBlock = some k → sv.ownBlock ≠ some k) ∧ 2 * (rs.length - seen.length) + work.length + 1 ≤ m0 ∧ work.length ≤ seen.length ∧
          Below (w.heap.size + 1) (w.alloc (.cells #[.int .i64 S, .int .i64 Lk, .slice oa rs.length c] 47)) wx) (fun iv _ _ _ => Lk - (intOf iv).toNat)
        case atStart => exact ⟨0, _, seen, by omega, rfl, HM, hq1, hqs, hd1, hle, by first | omega | simp, hb⟩
        case round =>
          obtain ⟨k, work1, seen1, hk, rfl, HM1, hw1, hs1, HD1, hle1, hws1, hb1⟩ := hrel
          clear hqs hq1 hd1 HM hle hb d0 d1 d2 ct hfew hsz
          have d0 := box_cell hb1 0
          have d1 := box_cell hb1 1
          have d2 := box_cell hb1 2
          simp at d0 d1 d2
          have hsz := box_lt hb1
          have hfew : seen1.length ≤ rs.length := HM1.out.few hS HNX.out
          by_cases hlt : k < Lk
          · go_wp2_with fail
            refine (read1 (S := S) (L := Lk) (t := t) (k := k) (F := F) (G := All) (c := c) _ ((hs.below rowR_ok (below_box hb1)).below rowR_ok (bnew (Below.refl _ _) _)) hV ht (by omega) (one_int (by unfold I64; omega) trivial)).mono ?_
            rintro e w3 ⟨vr, rfl, hb3⟩
            have hb3' := box_then (box_new hb1 (by simp) _) (by simp) hb3
            have hw3 := (hw1.new _).below hb3
            have hs3 := (hs1.new _).below hb3
            have hsz3 := box_lt hb3'
            by_cases hm : nxOf rs t k ∈ seen1
            · have hdec : decide ((nxOf rs t k : Int) ∈ castL seen1) = true := by simp [castL_mem, hm]
              have HO := hide (HM1.out.old hm)
              clear hm hb3 hw1 hs1
              go_wp2_with fail
              refine (contains_q _ _ _ _ hs3 (by rw [castL_len]; omega)).mono ?_
              rintro e w4 ⟨he4, rfl⟩
              rw [hdec] at he4
              subst he4
              go_wp2_with fail
              go_roundw
              case rel => exact ⟨k + 1, work1, seen1, by omega, by go_num, HO, hw3, hs3, HD1, hle1, hws1, hb3'⟩
              case measure => simp [intOf]; omega
            · have hdec : decide ((nxOf rs t k : Int) ∈ castL seen1) = false := by simp [castL_mem, hm]
              have HO := hide (HM1.out.more hm hlt)
              have hnx := HNX.out t k ht hlt
              have hfew2 : seen1.length + 1 ≤ rs.length := by have := HO.out.few hS HNX.out; simpa using this
              clear hm hb3 hw1 hs1
              go_wp2_with fail
              refine (contains_q _ _ _ _ hs3 (by rw [castL_len]; omega)).mono ?_
              rintro e w4 ⟨he4, rfl⟩
              rw [hdec] at he4
              subst he4
              go_wp2_with (first
                | (at_builtin; refine (wpList_append_q rfl (.tmp 40) (.tmp 42) 22 rfl (w.heap.size + 1) 3 _ Try.underlying22 intInfo rfl _ (castL work1) rfl (hw3.new _) ⟨w3.heap.size, 0, none⟩ 1 (nxOf rs t k) rfl (by simp [Addr.add]) (by unfold I64; omega) (by rw [castL_len]; omega) (by simp; omega) ?_); intro v5 w5 hq5 hb5 hg5 hv5)
                | (at_builtin; refine (wpList_append_q rfl (.tmp 44) (.tmp 46) 22 rfl (w.heap.size + 1) 3 _ Try.underlying22 intInfo rfl _ (castL seen1) rfl (((hs3.new _).keep (fun g hg => hg5.block g (by have := (hs3.block g hg).2; simp; omega) (fun he => HD1.out g he.symm hg))).new _) ⟨w5.heap.size, 0, none⟩ 1 (nxOf rs t k) rfl (by simp [Addr.add]) (by unfold I64; omega) (by rw [castL_len]; omega) (by have := hg5.size; simp at this ⊢; omega) ?_); intro v6 w6 hq6 hb6 hg6 hv6))
              obtain ⟨hq5', HD5⟩ := queue_close hs3 HD1.out hq5 hg5 hv5 hg6 hv6
              clear hq5 hg5 hv5 hg6 hv6
              go_roundw
              case rel => exact ⟨k + 1, work1 ++ [nxOf rs t k], seen1 ++ [nxOf rs t k], by omega, by go_num, HO, by rw [castL_app]; exact hq5', by rw [castL_app]; exact hq6, HD5, by simp; omega, by simp; omega, (box_new ((box_new hb3' (by simp) _).trans hb5) (by simp) _).trans hb6⟩
              case measure => simp [intOf]; omega
          · have : k = Lk := by omega
            subst this
            have HB2 := hide HM1.out.finish
            have hl1 := hw1.lenV
            have hl2 := hs1.lenV
            rw [castL_len] at hl1 hl2
            have HL1 := hide hl1
            have HL2 := hide hl2
            clear hl1 hl2
            go_wp2_with fail
            go_roundw
            case rel => exact ⟨work1, seen1, HB2, hw1, hs1, HD1, hws1, hb1⟩
            case measure =>
              have h1 := HL1.out
              have h2 := HL2.out
              have h3 := HM0.out
              simp
              rw [h1, h2]
              omega

end Go.Proofs.Ytmjcjmljnliaoaa

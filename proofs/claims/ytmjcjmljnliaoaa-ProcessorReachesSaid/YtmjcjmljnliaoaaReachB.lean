/-
  Reachable and Recurrent: the reference.
-/
import Derived.Test.YtmjcjmljnliaoaaReachA
import Derived.Test.YtmjcjmljnliaoaaLeads
import Derived.Deep.RegionHeld3
set_option linter.unusedVariables false
namespace Go.Proofs.Ytmjcjmljnliaoaa
open Go.RowKit

set_option maxRecDepth 100000 in
set_option maxHeartbeats 2000000 in
theorem rreaches_any (S L s : Int) (rs : List (List Rul)) (oa : Option Addr) (c : Nat) (F : Foot) (w : World) (hs : SliceR (slcR ruleR 2) 1 F w oa rs) (hc : rs.length ≤ c) (hc2 : rs.length ≤ 9223372036854775807) :
    Calls Try.prog 52 #[.agg #[.int .i64 S, .int .i64 L, .slice oa rs.length c], .int .i64 s] w (ReachesPost w S L s rs) := by
  go_enter Try.func52, Try.ntmps52
  go_wp2_with fail
  refine (rstate_any S L s rs oa c F _ (hs.below rowR_ok (bnew (Below.refl _ _) _)) hc hc2).mono ?_
  rintro e w2 ⟨rfl, hb2⟩
  have hx2 := hb2.mono (B' := w.heap.size + 1) (by simp)
  have d0 := box_cell hx2 0
  have d1 := box_cell hx2 1
  have d2 := box_cell hx2 2
  simp at d0 d1 d2
  clear hb2
  by_cases hz : stateErr ⟨S, L, rs⟩ s = 0
  case neg =>
    have hz1 := not_err hz
    have HZ : Hid (ReachRes S L s rs []) := ⟨fun _ => rfl, fun h => absurd h hz⟩
    clear hz
    go_wp2_with fail
    go_ret2
    exact ⟨none, [], 0, rfl, HZ.out, by simp, by simp, SliceR.nil _ _ _ _ _, below_box hx2⟩
  have hz1 := is_err hz
  have HZ := hide hz
  have HST := state_zero hz
  have HV := hide HST.1
  obtain ⟨n, rfl⟩ := Int.eq_ofNat_of_zero_le HST.2.1
  have hn : n < rs.length := by have h1 := HST.2.2; have h2 := (check_zero HST.1).2.2.2.1; simp at h1 h2; omega
  have h16 : rs.length ≤ 16 := by have h1 := (check_zero HST.1).2.1; have h2 := (check_zero HST.1).2.2.2.1; simp at h1 h2; omega
  have hSl : S = rs.length := by have := (check_zero HST.1).2.2.2.1; simp at this; omega
  subst hSl
  have HNX := hide (nx_lt HST.1)
  clear hz HST
  go_wp2_with fail
  refine (leads_any rs.length L rs oa c n F _ (hs.below rowR_ok (below_box hx2)) HV hn).mono ?_
  rintro e w3 ⟨g, bs, rfl, hl, hr, hg, hb3⟩
  have HL := hide hl
  have hbl : bs.length = rs.length := hl.1
  have hx3 := box_then hx2 (by simp) hb3
  have hsz2 := hx2.size
  simp at hsz2
  clear hl d0 d1 d2 hx2 hb3
  go_wp2_with fail
  go_loopw [8, 9] (fun v iv wr => ∃ k : Nat, k ≤ rs.length ∧ iv = .int .i64 k ∧ OwnS intR 1 w3.heap.size 3 Non wr v (trues bs k) ∧ Below w3.heap.size w3 wr) (fun _ iv _ => rs.length - (intOf iv).toNat)
  case atStart => exact ⟨0, by omega, rfl, OwnS.nil _ _ _ _ _ _, Below.refl _ _⟩
  case round =>
    obtain ⟨k, hk, rfl, ho, hb⟩ := hrel
    have hx := box_then hx3 (by simp) hb
    have d0 := box_cell hx 0
    simp at d0
    by_cases hlt : k < rs.length
    · obtain ⟨bt, hbt⟩ : ∃ bt, bs[k]? = some bt := ⟨_, List.getElem?_eq_getElem (by omega)⟩
      have ct := (hr.below hb).cell hbt
      have hlen := trues_len bs k
      have hgd : bs.getD k false = bt := by rw [List.getD_eq_getElem?_getD, hbt]; rfl
      cases bt with
      | false =>
        have HT : Hid (trues bs (k + 1) = trues bs k) := by show _ = _; rw [trues, hgd]; rfl
        clear hbt hgd
        go_wp2_with fail
        go_roundw
        case rel => exact ⟨k + 1, by omega, by go_num, by rw [HT.out]; exact ho, hb⟩
        case measure => simp [intOf]; omega
      | true =>
        have HT : Hid (trues bs (k + 1) = trues bs k ++ [(k : Int)]) := by show _ = _; rw [trues, hgd]; rfl
        clear hbt hgd
        go_wp2_with (at_builtin; refine wpList_append_rep rfl (.tmp 29) (.tmp 31) 22 rfl w3.heap.size 3 _ 1 8 Try.underlying22 intInfo rfl (by decide) intR_ok Non All u8 (trues bs k) rfl (ho.new intR_ok _) (some ⟨wr.heap.size, 0, none⟩) 1 [(k : Int)] rfl (one_int (by unfold I64; omega) trivial) (fun _ _ h => h) (fun _ h => h.elim) (by simp; omega) (by simp; omega) (by have := hb.size; simp; omega) ?_; intro v' w4 ho4 hb4 hg4)
        go_roundw
        case rel => exact ⟨k + 1, by omega, by go_num, by rw [HT.out]; exact ho4, (bnew hb _).trans hb4⟩
        case measure => simp [intOf]; omega
    · have : k = rs.length := by omega
      subst this
      obtain ⟨o4, c4, rfl, hc4, hs4⟩ := ho.slice intR_ok
      have HR : Hid (ReachRes rs.length L n rs (trues bs rs.length)) := ⟨fun h => absurd HZ.out h, fun _ q hq => by
        have : n = q := by omega
        subst this
        exact trues_reach hn HNX.out HL.out⟩
      have hlen := trues_len bs rs.length
      go_wp2_with fail
      go_ret2
      exact ⟨o4, _, c4, by rw [HZ.out]; rfl, HR.out, by omega, hc4, hs4.all intR_ok (by omega), below_box hx⟩

theorem rch_get {rs : List (List Rul)} {L s n : Nat} {bs : List Bool} (h : Leads (nxOf rs) L rs.length s bs) {b : Bool} (hb : bs[n]? = some b) : b = true ↔ Rch (nxOf rs) L s n := by
  rw [← h.2 n, hb]
  simp

def BackPost (w : World) (rs : List (List Rul)) (L n : Nat) (e : Ending) (w' : World) : Prop := ∃ b, e = .returned (.bool b) ∧ (b = true ↔ Back (nxOf rs) L n) ∧ Below w.heap.size w w'

set_option maxRecDepth 100000 in
set_option maxHeartbeats 2000000 in
theorem returns_any (S L : Int) (rs : List (List Rul)) (oa : Option Addr) (c : Nat) (n : Nat) (F : Foot) (w : World) (hs : SliceR (slcR ruleR 2) 1 F w oa rs) (HV : Hid (checkErr ⟨S, L, rs⟩ 12 = 0)) (hn : n < rs.length) :
    Calls Try.prog 106 #[.agg #[.int .i64 S, .int .i64 L, .slice oa rs.length c], .int .i64 n] w (BackPost w rs L.toNat n) := by
  have h16 : rs.length ≤ 16 := by have h1 := (check_zero HV.out).2.1; have h2 := (check_zero HV.out).2.2.2.1; simp at h1 h2; omega
  have hSl : S = rs.length := by have := (check_zero HV.out).2.2.2.1; simp at this; omega
  subst hSl
  have HNX := hide (nx_lt HV.out)
  go_enter Try.func106, Try.ntmps106
  go_wp2_with fail
  have hb0 := box_refl w (.cells #[.int .i64 rs.length, .int .i64 L, .slice oa rs.length c] 47)
  refine (leads_any rs.length L rs oa c n F _ (hs.below rowR_ok (below_box hb0)) HV hn).mono ?_
  rintro e w3 ⟨g, bs, rfl, hl, hr, hg, hb3⟩
  have HL := hide hl
  have hbl : bs.length = rs.length := hl.1
  have hx3 := box_then hb0 (by simp) hb3
  clear hl hb0 hb3
  go_wp2_with fail
  go_loopw [6] (fun iv wr => ∃ k : Nat, k ≤ rs.length ∧ iv = .int .i64 k ∧ Hid (∀ t, t < k → Rch (nxOf rs) L.toNat n t → Rch (nxOf rs) L.toNat t n) ∧ Below w3.heap.size w3 wr) (fun iv _ => rs.length - (intOf iv).toNat)
  case atStart => exact ⟨0, by omega, rfl, fun i h => by omega, Below.refl _ _⟩
  case round =>
    obtain ⟨k, hk, rfl, HK, hb⟩ := hrel
    have hx := box_then hx3 (by simp) hb
    have d0 := box_cell hx 0
    have d1 := box_cell hx 1
    have d2 := box_cell hx 2
    simp at d0 d1 d2
    by_cases hlt : k < rs.length
    · obtain ⟨bt, hbt⟩ : ∃ bt, bs[k]? = some bt := ⟨_, List.getElem?_eq_getElem (by omega)⟩
      have ct := (hr.below hb).cell hbt
      have HB := hide (rch_get HL.out hbt)
      clear hbt
      cases bt with
      | false =>
        go_wp2_with fail
        go_roundw
        case rel =>
          refine ⟨k + 1, by omega, by go_num, fun t ht hr => ?_, hb⟩
          rcases Nat.lt_or_ge t k with h1 | h1
          · exact HK.out t h1 hr
          · have : t = k := by omega
            subst this
            exact absurd (HB.out.2 hr) (by simp)
        case measure => simp [intOf]; omega
      | true =>
        go_wp2_with fail
        refine (leads_any rs.length L rs oa c k F _ (hs.below rowR_ok (below_box hx)) HV hlt).mono ?_
        rintro e w4 ⟨g4, bs4, rfl, hl4, hr4, hg4, hb4⟩
        have hbl4 : bs4.length = rs.length := hl4.1
        obtain ⟨b4, hb4n⟩ : ∃ b4, bs4[n]? = some b4 := ⟨_, List.getElem?_eq_getElem (by omega)⟩
        have cn := hr4.cell hb4n
        have HB4 := hide (rch_get hl4 hb4n)
        clear hb4n hl4
        cases b4 with
        | false =>
          have HN : Hid ¬ (Back (nxOf rs) L.toNat n) := fun h => absurd (HB4.out.2 (h k (HB.out.1 trivial))) (by simp)
          go_wp2_with fail
          go_ret
          exact ⟨false, rfl, ⟨fun h => Bool.noConfusion h, fun h => absurd h HN.out⟩, below_then (below_box hx) hb4⟩
        | true =>
          go_wp2_with fail
          go_roundw
          case rel =>
            refine ⟨k + 1, by omega, by go_num, fun t ht hr => ?_, below_then hb hb4⟩
            rcases Nat.lt_or_ge t k with h1 | h1
            · exact HK.out t h1 hr
            · have : t = k := by omega
              subst this
              exact HB4.out.1 trivial
          case measure => simp [intOf]; omega
    · have : k = rs.length := by omega
      subst this
      have HN : Hid (Back (nxOf rs) L.toNat n) := fun t ht => HK.out t (rch_lt hn HNX.out ht) ht
      go_wp2_with fail
      go_ret
      exact ⟨true, rfl, ⟨fun _ => HN.out, fun _ => rfl⟩, below_box hx⟩

set_option maxHeartbeats 1000000 in
theorem rrecs_any (S L s : Int) (rs : List (List Rul)) (oa : Option Addr) (c : Nat) (F : Foot) (w : World) (hs : SliceR (slcR ruleR 2) 1 F w oa rs) (hc : rs.length ≤ c) (hc2 : rs.length ≤ 9223372036854775807) :
    Calls Try.prog 54 #[.agg #[.int .i64 S, .int .i64 L, .slice oa rs.length c], .int .i64 s] w (RecsPost w S L s rs) := by
  go_enter Try.func54, Try.ntmps54
  go_wp2_with fail
  refine (rstate_any S L s rs oa c F _ (hs.below rowR_ok (bnew (Below.refl _ _) _)) hc hc2).mono ?_
  rintro e w2 ⟨rfl, hb2⟩
  have hx2 := hb2.mono (B' := w.heap.size + 1) (by simp)
  have d0 := box_cell hx2 0
  have d1 := box_cell hx2 1
  have d2 := box_cell hx2 2
  simp at d0 d1 d2
  clear hb2
  by_cases hz : stateErr ⟨S, L, rs⟩ s = 0
  case neg =>
    have hz1 := not_err hz
    have HZ : Hid (RecRes S L s rs false) := ⟨fun _ => rfl, fun h => absurd h hz⟩
    clear hz
    go_wp2_with fail
    go_ret2
    exact ⟨false, rfl, HZ.out, below_box hx2⟩
  have hz1 := is_err hz
  have HZ := hide hz
  have HST := state_zero hz
  have HV := hide HST.1
  obtain ⟨n, rfl⟩ := Int.eq_ofNat_of_zero_le HST.2.1
  have hn : n < rs.length := by have h1 := HST.2.2; have h2 := (check_zero HST.1).2.2.2.1; simp at h1 h2; omega
  clear hz HST
  go_wp2_with fail
  refine (returns_any S L rs oa c n F _ (hs.below rowR_ok (below_box hx2)) HV hn).mono ?_
  rintro e w3 ⟨b, rfl, HB, hb3⟩
  go_wp2_with fail
  go_ret2
  exact ⟨b, by rw [HZ.out]; rfl, ⟨fun h => absurd HZ.out h, fun _ q hq => by have : n = q := by omega
                                                                             subst this; exact HB⟩, below_then (below_box hx2) hb3⟩

end Go.Proofs.Ytmjcjmljnliaoaa

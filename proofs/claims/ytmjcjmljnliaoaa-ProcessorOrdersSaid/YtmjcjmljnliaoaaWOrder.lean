/-
  The walk of ProcessorOrders.
-/
import Derived.Test.YtmjcjmljnliaoaaIterS
import Derived.Test.YtmjcjmljnliaoaaPerm
import Derived.Test.YtmjcjmljnliaoaaWSorts
import Derived.Test.YtmjcjmljnliaoaaEq
import Derived.Deep.RegionHeld3
set_option linter.unusedVariables false
set_option linter.unusedSimpArgs false
namespace Go.Proofs.Ytmjcjmljnliaoaa
open Go.RowKit

theorem commRes_no {S L : Int} {rs : List (List Rul)} {s a b : Nat} (hV : checkErr ⟨S, L, rs⟩ 12 = 0) (hs : (s : Int) < S) (ha : (a : Int) < L) (hb : (b : Int) < L) (hf : commB rs s a b = false) : commRes ⟨S, L, rs⟩ s a b = (false, 0) := by
  have h1 : belowB (s : Int) S = true := by simp [belowB]; omega
  have h2 : belowB (a : Int) L = true := by simp [belowB]; omega
  have h3 : belowB (b : Int) L = true := by simp [belowB]; omega
  simp [commRes, stateErr, hV, h1, h2, h3, hf]

theorem sortRes_right {S L s : Int} {rs : List (List Rul)} {l : List Int} (hV : checkErr ⟨S, L, rs⟩ 12 = 0) (hs : 0 ≤ s ∧ s < S) (hl : lettersErr L l = 0) (hlen : l.length ≤ 40) : sortRes (readSpec rs s l).2 = (isort (readSpec rs s l).2, 0) := by
  have h := readSpec_right (p := ⟨S, L, rs⟩) hV l s hs hl
  have h1 : sentErr 12 (readSpec rs s l).2 = 0 := by
    have : ∀ {m : List Out}, (∀ o ∈ m, (0 ≤ o.to ∧ o.to < 12) ∧ 0 ≤ o.letter ∧ o.letter < 8) → sentErr 12 m = 0 := by
      intro m
      induction m with
      | nil => intro _; rfl
      | cons x r ih =>
        intro hm
        have hx := hm x (by simp)
        have e1 : belowB x.to 12 = true := by simp [belowB]; omega
        have e2 : belowB x.letter 8 = true := by simp [belowB]; omega
        simp only [sentErr, e1, e2]
        exact ih fun o ho => hm o (by simp [ho])
    exact this h.2.2
  have h2 : (readSpec rs s l).2.length ≤ 16 * l.length := h.2.1
  simp only [sortRes, h1, if_true]
  rw [if_neg (by omega)]

theorem many_n {S L s : Int} {rs : List (List Rul)} {l : List Int} {n : Nat} {t : Int} {os : List Out} (oa : Option Addr) (c : Nat) (ob : Option Addr) (d : Nat) (w : World) (hs : SliceR (slcR ruleR 2) 1 All w oa rs) (hc : rs.length ≤ c) (hc2 : rs.length ≤ 9223372036854775807) (hw : SliceR intR 1 All w ob l) (hn : Hid (n = l.length)) (hd : n ≤ d) (hd2 : n ≤ 1000)
    (HR : Hid (manyRes ⟨S, L, rs⟩ s l = (t, os, 0))) :
    Calls Try.prog 48 #[.agg #[.int .i64 S, .int .i64 L, .slice oa rs.length c], .int .i64 s, .slice ob n d] w fun e w' =>
      ∃ oo co, e = .returned (.tuple #[.int .i64 t, .slice oo os.length co, .int .i64 0]) ∧ os.length ≤ co ∧ os.length ≤ 9223372036854775807 ∧ SliceR outR 2 All w' oo os ∧ Below w.heap.size w w' := by
  have h := hn.out
  subst h
  refine (many_any S L s rs oa c l ob d w hs hc hc2 hw hd (by omega)).mono ?_
  rintro e w' ⟨v, he, ho, hb⟩
  rw [HR.out] at he ho
  obtain ⟨oo, co, rfl, h1, h2⟩ := ho.slice outR_ok
  exact ⟨oo, co, he, h1, ho.bound, h2.all outR_ok (by omega), hb⟩

theorem psorted_n {l m : List Out} (oa : Option Addr) (c : Nat) (w : World) (hs : SliceR outR 2 All w oa l) (hc : l.length ≤ c) (hc2 : l.length ≤ 9223372036854775807) (HR : Hid (sortRes l = (m, 0))) :
    Calls Try.prog 33 #[.slice oa l.length c] w fun e w' =>
      ∃ oo co, e = .returned (.tuple #[.slice oo m.length co, .int .i64 0]) ∧ m.length ≤ co ∧ m.length ≤ 9223372036854775807 ∧ SliceR outR 2 All w' oo m ∧ Below w.heap.size w w' := by
  refine (psorted_any l oa c All w hs hc hc2).mono ?_
  rintro e w' ⟨v, he, ho, hb⟩
  rw [HR.out] at he ho
  obtain ⟨oo, co, rfl, h1, h2⟩ := ho.slice outR_ok
  exact ⟨oo, co, he, h1, ho.bound, h2.all outR_ok (by omega), hb⟩

set_option maxRecDepth 100000 in
set_option maxHeartbeats 4000000 in
theorem orders_walk (w : World) (S L : Int) (rs : List (List Rul)) (oa : Option Addr) (c : Nat) (_ : I64 S) (_ : I64 L) (hc : rs.length ≤ c) (hc2 : rs.length ≤ 9223372036854775807) (hs : SliceR (slcR ruleR 2) 1 All w oa rs)
    (s : Int) (_ : I64 s) (word : List Int) (ob : Option Addr) (d : Nat) (hd : word.length ≤ d) (hd2 : word.length ≤ 9223372036854775807) (hw : SliceR intR 1 All w ob word) :
    Calls Try.prog 14 #[.agg #[.int .i64 S, .int .i64 L, .slice oa rs.length c], .int .i64 s, .slice ob word.length d] w fun e w' => e = .returned (.bool true) ∧ Below w.heap.size w w' := by
  have HSR := hide sorted_any
  have HN : Hid (checkErr ⟨S, L, rs⟩ 12 = 0 → ∀ s a b : Int, 0 ≤ s ∧ s < S → 0 ≤ a ∧ a < L → 0 ≤ b ∧ b < L → (readSpec rs s [a, b]).2.length ≤ 1000000000000) := by
    intro h s a b hs ha hb
    exact two_reads (p := ⟨S, L, rs⟩) h hs (by simp [belowB]; omega) (by simp [belowB]; omega)
  go_enter Try.func14, Try.ntmps14
  go_wp2_with fail
  refine (right_any S L s rs oa c word ob d All All _ (hs.below rowR_ok (bnew (Below.refl _ _) _)) hc hc2 (hw.below intR_ok (bnew (Below.refl _ _) _)) hd hd2).mono ?_
  rintro e w2 ⟨b, rfl, hright, hb2⟩
  have HRT := hide hright
  clear hright
  have hx := hb2.mono (B' := w.heap.size + 1) (by simp)
  clear hb2
  have d0 := box_cell hx 0
  have d1 := box_cell hx 1
  have d2 := box_cell hx 2
  simp at d0 d1 d2
  cases b with
  | false =>
    go_wp2_with fail
    refine (awake_any _).mono ?_
    rintro e w3 ⟨rfl, hb3⟩
    go_wp2_with fail
    go_ret
    exact ⟨rfl, below_box (box_then hx (by simp) hb3)⟩
  | true =>
  have HP := hide (HRT.out rfl)
  clear HRT
  have hl40 : word.length ≤ 40 := HP.out.2.2.1
  have HV := hide HP.out.1
  obtain ⟨Lk, rfl⟩ := Int.eq_ofNat_of_zero_le (show 0 ≤ L by have := (check_zero HV.out).2.2.1; simp at this; omega)
  have hL8 : Lk ≤ 8 := by have := (check_zero HV.out).2.2.1; simp at this; omega
  go_wp2_with fail
  refine (abelian_any HSR S Lk rs oa c All _ (hs.below rowR_ok (below_box hx)) hc hc2 HN).mono ?_
  rintro e w3 ⟨v, he, ho, hb3⟩
  have hae : (abelRes ⟨S, Lk, rs⟩).2.2 = 0 := by simp [abelRes, HV.out]
  rw [hae] at he
  subst he
  clear hae
  have hx := box_then hx (by simp) hb3
  have d0 := box_cell hx 0
  have d1 := box_cell hx 1
  have d2 := box_cell hx 2
  simp at d0 d1 d2
  clear hb3
  cases hab : (abelRes ⟨S, Lk, rs⟩).1 with
  | false =>
    obtain ⟨ws, wa, wb, hwl, hws, hwa, hwb, hcf⟩ := abel_no HV.out hab
    rw [hwl] at ho
    obtain ⟨ov, cv, rfl, hcv, hsv⟩ := ho.slice intR_ok
    obtain ⟨x0, _, hx0, _, b0, o0, rfl, _, k0⟩ := hsv.int_at (i := 0) (by simp)
    obtain ⟨x1, _, hx1, _, b1, o1, he1, _, k1⟩ := hsv.int_at (i := 1) (by simp)
    obtain ⟨x2, _, hx2, _, b2, o2, he2, _, k2⟩ := hsv.int_at (i := 2) (by simp)
    injection he1 with he1
    injection he1 with e1 e2
    subst e1 e2
    injection he2 with he2
    injection he2 with e1 e2
    subst e1 e2
    simp at hx0 hx1 hx2
    subst hx0 hx1 hx2
    simp only [Nat.add_zero] at k0
    have HCR := hide (commRes_no HV.out hws hwa hwb hcf)
    have hS16 : S ≤ 16 := by have := (check_zero HV.out).2.1; simp at this; omega
    clear hwl hcf ho hsv hab
    go_wp2_with fail
    go_region_held3 (fun w' => (w'.cell? ⟨w.heap.size, 0, none⟩ = some (.int .i64 S) ∧ w'.cell? ⟨w.heap.size, 1, none⟩ = some (.int .i64 Lk) ∧ w'.cell? ⟨w.heap.size, 2, none⟩ = some (.slice oa rs.length c)) ∧ w'.cell? ⟨b0, o0, none⟩ = some (.int .i64 ws) ∧ w'.cell? ⟨b0, o0 + 1, none⟩ = some (.int .i64 wa) ∧ w'.cell? ⟨b0, o0 + 2, none⟩ = some (.int .i64 wb)) (first | exact ⟨⟨d0, d1, d2⟩, k0, k1, k2⟩)
      (first | (go_at_call 36; refine (pcommute_any S Lk ws wa wb rs oa c All _ (hs.below rowR_ok (below_box hx.drew)) hc hc2 (by unfold I64; omega) (by unfold I64; omega)).mono ?_; rintro e w4 ⟨he4, hb4⟩; rw [HCR.out] at he4; subst he4; have d0 := (hb4.cell (World.block_lt_of_cell? _ _ d0)).trans d0; have d1 := (hb4.cell (World.block_lt_of_cell? _ _ d1)).trans d1; have d2 := (hb4.cell (World.block_lt_of_cell? _ _ d2)).trans d2; have k0 := (hb4.cell (World.block_lt_of_cell? _ _ k0)).trans k0; have k1 := (hb4.cell (World.block_lt_of_cell? _ _ k1)).trans k1; have k2 := (hb4.cell (World.block_lt_of_cell? _ _ k2)).trans k2; have hx4 := box_then hx.drew (by simp) hb4))
    all_goals
      go_wp2_with fail
      refine (awake_any _).mono ?_
      rintro e w5 ⟨rfl, hb5⟩
      go_wp2_with fail
      go_ret
      exact ⟨rfl, below_then (below_box hx4) hb5⟩
  | true =>
  have HC := hide (abel_yes HV.out hab)
  clear hab ho
  have hlet : ∀ a ∈ word, 0 ≤ a ∧ a < Lk := letters_zero HP.out.2.2.2
  have HLE := hide hlet
  clear hlet
  go_wp2_with (at_make; refine wpList_make_row (f := Value.int .i64) _ rfl _ _ 22 rfl 3 0 8 Try.underlying22 intInfo rfl .i64 .i64 _ _ Lk rfl rfl rfl rfl (by omega) (by unfold maxLen; omega) (fun w4 hrow hb4 hg4 => ?_))
  have hx0 := box_then hx (by simp) hb4
  have hb40 : Below w3.heap.size w3 w4 := hb4
  have h3s := box_lt hx
  have hg0 : w3.heap.size < w4.heap.size := hrow.lt
  clear d0 d1 d2 hb4 hg4
  generalize hgg : w3.heap.size = g at hrow h3s hg0 ⊢
  have HGG := hide hgg
  clear hgg
  go_loopw [73] (fun iv wr => ∃ k : Nat, k ≤ word.length ∧ iv = .int .i64 k ∧ Row1 (Value.int .i64) wr g 3 (tally Lk (word.take k)) [] ∧ Below w3.heap.size w3 wr) (fun iv _ => word.length - (intOf iv).toNat)
  case atStart => exact ⟨0, by omega, rfl, by rw [List.take_zero, tally_nil]; exact hrow, hb40⟩
  case round =>
    obtain ⟨k, hk, rfl, hr, hb⟩ := hrel
    have hxk := box_then hx (by simp) hb
    by_cases hlt : k < word.length
    · obtain ⟨x, _, hxx, _, b, off, rfl, _, c0⟩ := (hw.below intR_ok (below_box hxk)).int_at hlt
      have hxl := HLE.out x (List.mem_of_getElem? hxx)
      obtain ⟨a, rfl⟩ := Int.eq_ofNat_of_zero_le hxl.1
      have haL : a < Lk := by omega
      have hcnt : (word.take k).count (a : Int) ≤ 40 := by have := List.count_le_length (a := (a : Int)) (l := word.take k); simp at this; omega
      have cg := hr.cell (tally_get (l := word.take k) haL)
      have fg := hr.free a
      have hp := hr.put (i := a) (by rw [tally_len]; exact haL) ((word.take k).count (a : Int) + 1)
      rw [← tally_snoc _ haL] at hp
      have htk : word.take (k + 1) = word.take k ++ [(a : Int)] := by rw [List.take_add_one, hxx]; rfl
      rw [← htk] at hp
      have HPUT := hide hp
      have hbg : Below w3.heap.size w3 (wr.setCell ⟨g, a, none⟩ (.int .i64 ((word.take k).count (a : Int) + 1))) := hb.setCell (by rw [HGG.out]; exact Nat.le_refl _) _
      generalize hcn : (word.take k).count (a : Int) = cn at cg HPUT hbg hcnt
      clear hxx hxl hp htk hr hcn
      go_wp2_with fail
      go_roundw
      case rel => exact ⟨k + 1, by omega, by go_num, HPUT.out, hbg⟩
      case measure => simp [intOf]; omega
    · have : k = word.length := by omega
      subst this
      rw [List.take_length] at hr
      have d0 := box_cell hxk 0
      have d1 := box_cell hxk 1
      have d2 := box_cell hxk 2
      simp at d0 d1 d2
      have hcs : SliceR intR 1 All wr (some ⟨g, 0, none⟩) (tally Lk word) := hr.ints (fun x hx => by
        simp only [tally, List.mem_map] at hx
        obtain ⟨q, _, rfl⟩ := hx
        have := List.count_le_length (a := (q : Int)) (l := word)
        unfold I64; omega) trivial
      have htl : Hid (Lk = (tally Lk word).length) := (tally_len Lk word).symm
      have HM := hide (many_perm HP.out HC.out word (List.Perm.refl _))
      rw [Int.toNat_natCast] at HM
      generalize hend : (readSpec rs s word).1 = fin at HM
      generalize hsent : isort (readSpec rs s word).2 = sent at HM
      have HEND := hide hend
      have HSENT := hide hsent
      clear hend hsent hr hx hx0 hb40 hrow
      go_wp2_with fail
      refine (many_n oa c _ Lk _ (hs.below rowR_ok (below_box hxk)) hc hc2 hcs htl (Nat.le_refl _) (by omega) HM).mono ?_
      rintro e w5 ⟨oS, cS, rfl, hcS, hlS, hslS, hb5⟩
      have hx5 := box_then hxk (by simp) hb5
      clear hcs hb5 hxk d0 d1 d2 hb
      go_wp2_with fail
      refine (values_any _ _ _ _).mono ?_
      rintro e w6 ⟨rfl, rfl⟩
      have hw5 := hw.below intR_ok (below_box hx5)
      have hx6 := box_new hx5 (by simp) (.cells #[.slice ob word.length d] 22)
      have hIB := (IntsBelow.of (c := d) hw5).below (bnew (Below.refl _ _) (.cells #[.slice ob word.length d] 22))
      have hsz5 := box_lt hx5
      have hword64 : ∀ x ∈ word, I64 x := fun x hx => by have := HLE.out x hx; unfold I64; omega
      have HW64 := hide hword64
      have HIB := hide hIB
      clear hIB hword64
      go_wp2_with fail
      refine (sortedV_any w5.heap.size (.slice ob word.length d) word HW64.out (by omega) _ (by simp) (by simp) (IntsBelow.mono HIB.out (by simp))).mono ?_
      rintro e w7 ⟨ou, cu, he, hcu, hsu, hb7⟩
      generalize hup : (word.mergeSort fun x y => decide (x ≤ y)) = up at hsu
      have hpl : up.length = word.length := by rw [← hup]; exact List.length_mergeSort _
      have hpp : up.Perm word := by rw [← hup]; exact List.mergeSort_perm _ _
      rw [← hpl] at he hcu
      subst he
      have HPP := hide hpp
      have hx7 := box_then hx6 (by simp) hb7
      have hslS7 := (hslS.below outR_ok (bnew (Below.refl _ _) _)).below outR_ok hb7
      have hup40 : up.length ≤ 40 := by omega
      have HUL := hide hpl
      clear hup hpp hb7 hpl hslS hw5 hx6 hx5
      go_wp2_with fail
      refine (cloneI_any up ou cu All _ hsu hcu (by omega)).mono ?_
      rintro e w8 ⟨vc, rfl, hoc, hb8⟩
      have hsz7 := hb8.size
      go_wp2_with fail
      refine (reverse_own hoc (by omega) hsz7).mono ?_
      rintro e w9 ⟨rfl, od, cd, ys, rfl, hcd, hyp, hsd, hb9⟩
      have hb79 := hb8.trans hb9
      have hx9 := box_then hx7 (by simp) hb79
      have hslS9 := hslS7.below outR_ok hb79
      have hsu9 := hsu.below intR_ok hb79
      have hw9 := hw.below intR_ok (below_box hx9)
      have HYP := hide (hyp.trans HPP.out)
      have hyl : ys.length ≤ 40 := by have := hyp.length_eq; omega
      clear hx7 hslS7 hsu hb8 hb9 hb79 hsz7 hyp hoc
      go_wp2_with fail
      obtain ⟨cells, hcells⟩ : ∃ cells : Array Value, cells = #[.slice ob word.length d, .slice ou up.length cu, .slice od ys.length cd] := ⟨_, rfl⟩
      have HL3 : Hid (∀ k, k < 3 → ∃ (lk : List Int) (ok : Option Addr) (ck : Nat), cells[k]? = some (.slice ok lk.length ck) ∧ lk.length ≤ ck ∧ lk.Perm word ∧ SliceR intR 1 All w9 ok lk) := by
        intro k hk
        rw [hcells]
        match k, hk with
        | 0, _ => exact ⟨word, ob, d, rfl, hd, List.Perm.refl _, hw9⟩
        | 1, _ => exact ⟨up, ou, cu, rfl, hcu, HPP.out, hsu9⟩
        | 2, _ => exact ⟨ys, od, cd, rfl, hcd, HYP.out, hsd⟩
      rw [← hcells]
      have HCE := hide hcells
      clear hcells hsu9 hsd hw9
      have hb10 := box_refl w9 (.cells cells 22)
      go_loopw [106] (fun iv wr => ∃ k : Nat, k ≤ 3 ∧ iv = .int .i64 k ∧ Below (w9.heap.size + 1) (w9.alloc (.cells cells 22)) wr) (fun iv _ => 3 - (intOf iv).toNat)
      case atStart => exact ⟨0, by omega, rfl, hb10⟩
      case round =>
        obtain ⟨k, hk, rfl, hbr⟩ := hrel
        have hx10 := box_then hx9 (by simp) (below_box hbr)
        by_cases hlt : k < 3
        · obtain ⟨lk, ok, ck, hck, hlck, hlp, hslk⟩ := HL3.out k hlt
          have ckc := box_cell hbr k
          rw [hck] at ckc
          have d0 := box_cell hx10 0
          have d1 := box_cell hx10 1
          have d2 := box_cell hx10 2
          simp at d0 d1 d2
          have hlen := hlp.length_eq
          have hlet2 : Hid (lettersErr Lk lk = 0) := letters_of fun a ha => HLE.out a (hlp.mem_iff.1 ha)
          have hq := read_perm HV.out HC.out hlp (fun a ha => HLE.out a (hlp.mem_iff.1 ha)) s HP.out.2.1
          have HRUN : Hid (runRes ⟨S, Lk, rs⟩ s lk = (fin, (readSpec rs s lk).2, 0)) := by
            show _ = _
            rw [runRes_right HV.out HP.out.2.1 hlet2.out (by omega), hq.1, HEND.out]
          have HSO : Hid (sortRes (readSpec rs s lk).2 = (sent, 0)) := by
            show _ = _
            rw [sortRes_right HV.out HP.out.2.1 hlet2.out (by omega), isort_perm_eq hq.2, HSENT.out]
          generalize (readSpec rs s lk).2 = out at HRUN HSO
          have hlk40 : lk.length ≤ 40 := by omega
          have HLP := hide hlp
          clear hck hlp hq hlen
          go_wp2_with fail
          refine (run_n oa c ok ck _ (hs.below rowR_ok (below_box hx10)) hc hc2 (hslk.below intR_ok (below_box hbr)) rfl hlck (by omega) HRUN).mono ?_
          rintro e w11 ⟨oo, co, rfl, hco, hlo, hslo, hb11⟩
          have hbr11 := box_then hbr (by simp) hb11
          have hs11 := (hslS9.below outR_ok (below_box hbr)).below outR_ok hb11
          go_wp2_with fail
          refine (psorted_n oo co _ hslo hco hlo HSO).mono ?_
          rintro e w12 ⟨oq, cq, rfl, hcq, hlq, hslq, hb12⟩
          have hbr12 := box_then hbr11 (by simp) hb12
          have hs12 := hs11.below outR_ok hb12
          clear d0 d1 d2 ckc
          go_wp2_with fail
          refine (equalOut_any sent sent oq oS cq cS All _ hslq hs12 hcq hlq).mono ?_
          rintro e w13 ⟨he13, hb13⟩
          obtain rfl := he13.trans (ret_bool (decide_eq_true rfl))
          go_wp2_with fail
          go_roundw
          case rel => exact ⟨k + 1, by omega, by go_num, box_then hbr12 (by simp) hb13⟩
          case measure => simp [intOf]; omega
        · go_wp2_with fail
          refine (awake_any _).mono ?_
          rintro e w13 ⟨rfl, hb13⟩
          go_wp2_with fail
          go_ret
          exact ⟨rfl, below_then (below_box hx10) hb13⟩

end Go.Proofs.Ytmjcjmljnliaoaa

/-
  The wire machine: the packets of a tick arrive.
  The wire machine in plain Lean: many ticks; when it is quiet; it does not become large soon.
  The wire machine: a tick.
  A slice of the call's own of which one element is open: a store into an element of a list of lists. No program is named here.
  The wire machine: processors with lists of their own.
  The wire machine: whether something goes on.
  The wire machine in plain Lean: what is seen of it; quiet and not.
  The wire machine: what is seen of it.
-/
import Derived.Test.YtnigfddanoaonaaWa2
import Derived.StillTailTactics
import Derived.BigQuiet
import Derived.Deep.RegionHeld3
import Derived.BigRegion

set_option linter.unusedVariables false
set_option linter.unusedSimpArgs false
set_option linter.unnecessarySimpa false
namespace Go.Proofs.Ytnigfddanoaonaa
open Go.RowKit

section
variable {B N : Nat} {L : WLay} {oP : Option Addr} {cP : Nat} {oF : Option Addr} {nF cF : Nat} {S : Wr} {W W' : World}
variable {m : Nat → Nat} {ns : Nat → Int} {X M K A T : Int} {pend : List (Pk × Nat)}

theorem filter_take {α : Type} {l : List α} {k : Nat} {x : α} (f : α → Bool) (hx : l[k]? = some x) : (l.take (k + 1)).filter f = (l.take k).filter f ++ (if f x then [x] else []) := by
  rw [List.take_add_one, hx, List.filter_append]
  cases h : f x <;> simp [h]
theorem take_foldl {α β : Type} {l : List α} {k : Nat} {x : α} (f : β → α → β) (b : β) (hx : l[k]? = some x) : (l.take (k + 1)).foldl f b = f ((l.take k).foldl f b) x := by
  rw [List.take_add_one, hx, List.foldl_append]
  rfl

theorem handleS_tk (fates : List Int) (p : Pk) (S : Wr) : (handleS N fates p S).tk = S.tk := by
  cases p with
  | lett l num kind => simp only [handleS]; split <;> rfl
  | ack l num => rfl

set_option maxRecDepth 100000 in
set_option maxHeartbeats 4000000 in
theorem arrive_any (h : Wires B N L oP cP oF nF cF S W) (hi : WInv N m ns X M K A T (S.fl.filter fun a => a.2 == S.tk) { S with fl := S.fl.filter fun a => !(a.2 == S.tk) }) (fates : List Int) (hnF : nF = fates.length) (hF : SliceR intR 1 (Lt B) W oF fates) (hB : B ≤ W.heap.size) (hN0 : 0 < N) (hN : N ≤ 1000) (hm : ∀ p, p < N → m p ≤ 1000000)
    (hM : M ≤ 1000000000000) (hT : T ≤ 1000000000) (hK : K ≤ 1000000000) (hA : A ≤ 1000000000000) (htk : S.tk ≤ 1000000000000) (hfl : S.fl.length ≤ 1000000000) (hfc : fates.length ≤ 9223372036854775807) :
    Calls Try.prog 45 #[.pointer (some ⟨L.p, 0, none⟩)] W fun e w' => e = .returned (.tuple #[]) ∧ ∃ L', Wires B N L' oP cP oF nF cF (arriveS N fates S) w' ∧ Went N L W L' w' := by
  obtain ⟨_, _, _, _, _, _, c6, c7, _, _⟩ := h.cells
  obtain ⟨ofl, cfl, hfv, hcl, hsl⟩ := h.fly.slice (arr_ok _)
  rw [hfv] at c6
  obtain ⟨F0, HSL⟩ : ∃ F0 : Foot, Hid (SliceR (arrR L.bl) 2 F0 W ofl S.fl) := ⟨_, hsl⟩
  have HFV := hide hfv
  have HH := hide h
  have HI := hide hi
  have HF := hide hF
  have HNF := hide hnF
  obtain ⟨fl, hfle⟩ : ∃ fl, fl = S.fl := ⟨_, rfl⟩
  obtain ⟨nfl, hnfl⟩ : ∃ n, n = S.fl.length := ⟨_, rfl⟩
  rw [← hnfl] at c6 hcl hfl
  have HNFL := hide hnfl
  clear hsl hfv h hi hF hnF hnfl hfle
  go_enter Try.func45, Try.ntmps45
  go_wp2_with fail
  go_loopw [2, 3, 13] (fun vn vl iv wr => ∃ (k : Nat) (un ul : Value), k ≤ nfl ∧ un = vn ∧ ul = vl ∧ iv = .int .i64 k ∧ Hid (OwnS (arrR L.bl) 2 W.heap.size 120 Non wr un ((S.fl.take k).filter fun a => a.2 == S.tk)) ∧ Hid (OwnS (arrR L.bl) 2 W.heap.size 120 Non wr ul ((S.fl.take k).filter fun a => !(a.2 == S.tk))) ∧ Hid (∀ g, un.ownBlock = some g → ul.ownBlock = some g → False) ∧ Hid (Below W.heap.size W wr)) (fun _ _ iv _ => nfl - (intOf iv).toNat)
  case atStart => exact ⟨0, _, _, by omega, rfl, rfl, rfl, by simp only [List.take_zero, List.filter_nil]; exact OwnS.nil _ _ _ _ _ _, by simp only [List.take_zero, List.filter_nil]; exact OwnS.nil _ _ _ _ _ _, fun g h1 _ => by simp [Value.ownBlock] at h1, Below.refl _ _⟩
  case round =>
    obtain ⟨k, vn, vl, hk, rfl, rfl, rfl, HN1, HL1, HD, HBL⟩ := hrel
    by_cases hlt : k < nfl
    · have hkl : k < S.fl.length := by have := HNFL.out; omega
      obtain ⟨⟨p, t⟩, hd, hx, b, off, cs, rfl, _, hcs, hcc⟩ := (HSL.out.below (arr_ok _) HBL.out).at hkl
      obtain ⟨tp, xp, hpv⟩ : ∃ (tp : TypeId) (xp : Value), Value.iface tp xp = pkV L.bl p := by cases p <;> exact ⟨_, _, rfl⟩
      have hcs2 : cs = [pkV L.bl p, .int .i64 (t : Nat)] := hcs
      rw [← hpv] at hcs2
      subst hcs2
      have a0 := hcc 0 _ rfl
      have a1 := hcc 1 _ rfl
      simp only [Nat.add_zero] at a0
      have HX := hide hx
      have HPV := hide hpv
      obtain ⟨W1, hW1⟩ : ∃ W1, wr.alloc (.cells #[.iface tp xp, .int .i64 (t : Nat)] 120) = W1 := ⟨_, rfl⟩
      have bx : Box W1 wr.heap.size [.iface tp xp, .int .i64 (t : Nat)] 120 := by rw [← hW1]; exact Box.new wr [.iface tp xp, .int .i64 (t : Nat)] 120
      have bb := bnew (Below.refl wr.heap.size wr) (.cells #[.iface tp xp, .int .i64 (t : Nat)] 120)
      rw [hW1] at bb
      have b7 := cell_next ((HH.out.below HBL.out).cells.2.2.2.2.2.2.2.1) (.cells #[.iface tp xp, .int .i64 (t : Nat)] 120)
      rw [hW1] at b7
      have k1 := bx.cell 1
      simp only [List.getElem?_cons_zero, List.getElem?_cons_succ] at k1
      have HBX := hide bx
      have HB1 := hide (HBL.out.trans (bb.mono HBL.out.size))
      have HN2 := hide (HN1.out.below (arr_ok _) bb)
      have HL2 := hide (HL1.out.below (arr_ok _) bb)
      clear hd hx hcs hcc hpv bx bb c6 c7
      by_cases hq : t = S.tk
      · have q1 : ((t : Nat) : Int) == ((S.tk : Nat) : Int) := by simp [hq]
        have q1' : (((t : Nat) : Int) == ((S.tk : Nat) : Int)) = true := q1
        have HQ := hide hq
        clear q1 hq
        go_wp2_with fail
        go_quiet (fail)
        obtain ⟨W2, hW2⟩ : ∃ W2, W1.drewN nq = W2 := ⟨_, rfl⟩
        have HBX2 : Hid (Box W2 wr.heap.size [.iface tp xp, .int .i64 (t : Nat)] 120) := by show Box _ _ _ _; rw [← hW2]; exact HBX.out
        have HB2 : Hid (Below W.heap.size W W2) := by show Below _ _ _; rw [← hW2]; exact below_drewN HB1.out nq
        have HN3 : Hid (OwnS (arrR L.bl) 2 W.heap.size 120 Non W2 vn ((S.fl.take k).filter fun a => a.2 == S.tk)) := by show OwnS _ _ _ _ _ _ _ _; rw [← hW2]; exact HN2.out.draws (arr_ok _) nq
        have HL3 : Hid (OwnS (arrR L.bl) 2 W.heap.size 120 Non W2 vl ((S.fl.take k).filter fun a => !(a.2 == S.tk))) := by show OwnS _ _ _ _ _ _ _ _; rw [← hW2]; exact HL2.out.draws (arr_ok _) nq
        have k0 := HBX2.out.cell 0
        have k2 := HBX2.out.cell 1
        simp only [List.getElem?_cons_zero, List.getElem?_cons_succ] at k0 k2
        have hfl2 : ((S.fl.take k).filter fun a => a.2 == S.tk).length ≤ 1000000000 := Nat.le_trans (List.length_filter_le _ _) (by rw [List.length_take]; omega)
        clear k1 b7
        go_wp2_with (at_builtin; refine wpList_append_at rfl (.tmp 24) (.tmp 26) 63 rfl W.heap.size 120 _ 2 24 Try.underlying63 arrInfo rfl (by decide) (arr_ok L.bl) Non vn ((S.fl.take k).filter fun a => a.2 == S.tk) rfl (HN3.out.new (arr_ok _) _) ⟨_, 0, none⟩ 1 [.iface tp xp, .int .i64 (t : Nat)] (p, t) rfl (World.news_of_block (heap_alloc_new _ _)) (by show _ = _; rw [HPV.out]) (fun _ h => h.elim) (by omega) (by unfold maxLen; omega) (by have := HB2.out.size; simp; omega) ?_; intro v' w1 ho hb hg hat)
        have HO : Hid (OwnS (arrR L.bl) 2 W.heap.size 120 Non w1 v' ((S.fl.take (k + 1)).filter fun a => a.2 == S.tk)) := by
          show OwnS _ _ _ _ _ _ _ _
          rw [filter_take _ HX.out]
          have hb2 : (t == S.tk) = true := by simp [HQ.out]
          simp only [hb2, if_true]
          exact ho
        have hne : ∀ g, vl.ownBlock = some g → w1.heap[g]? = W2.heap[g]? := fun g hgl => by
          have hlt2 := (HL3.out.block g hgl).2
          rw [hg.block g (by simp; omega) (fun e => HD.out g e.symm hgl)]
          exact Below.heap_alloc W2 _ g hlt2
        have HL4 : Hid (OwnS (arrR L.bl) 2 W.heap.size 120 Non w1 vl ((S.fl.take (k + 1)).filter fun a => !(a.2 == S.tk))) := by
          show OwnS _ _ _ _ _ _ _ _
          rw [filter_take _ HX.out]
          simp only [HQ.out, beq_self_eq_true, Bool.not_true, Bool.false_eq_true, if_false, List.append_nil]
          exact HL3.out.keep (arr_ok _) hne (fun _ hk _ => hk.elim)
        have HD2 : Hid (∀ g, v'.ownBlock = some g → vl.ownBlock = some g → False) := fun g h1 h2 => by
          rcases hat g h1 with h3 | h3
          · exact HD.out g h3 h2
          · have := (HL3.out.block g h2).2
            simp at h3
            omega
        have HB3 : Hid (Below W.heap.size W w1) := (HB2.out.alloc HB2.out.size _).trans hb
        clear ho hb hg hat hne
        go_wp2_with fail
        go_roundw
        case rel => exact ⟨k + 1, _, _, by omega, rfl, rfl, by go_num, HO, HL4, HD2, HB3⟩
        case measure => simp [intOf]; omega
      · have q1' : (((t : Nat) : Int) == ((S.tk : Nat) : Int)) = false := by simp; omega
        have hq2 : (t == S.tk) = false := by simpa using hq
        have HQ := hide hq2
        clear hq hq2
        go_wp2_with fail
        go_quiet (fail)
        obtain ⟨W2, hW2⟩ : ∃ W2, W1.drewN nq = W2 := ⟨_, rfl⟩
        have HBX2 : Hid (Box W2 wr.heap.size [.iface tp xp, .int .i64 (t : Nat)] 120) := by show Box _ _ _ _; rw [← hW2]; exact HBX.out
        have HB2 : Hid (Below W.heap.size W W2) := by show Below _ _ _; rw [← hW2]; exact below_drewN HB1.out nq
        have HN3 : Hid (OwnS (arrR L.bl) 2 W.heap.size 120 Non W2 vn ((S.fl.take k).filter fun a => a.2 == S.tk)) := by show OwnS _ _ _ _ _ _ _ _; rw [← hW2]; exact HN2.out.draws (arr_ok _) nq
        have HL3 : Hid (OwnS (arrR L.bl) 2 W.heap.size 120 Non W2 vl ((S.fl.take k).filter fun a => !(a.2 == S.tk))) := by show OwnS _ _ _ _ _ _ _ _; rw [← hW2]; exact HL2.out.draws (arr_ok _) nq
        have k0 := HBX2.out.cell 0
        have k2 := HBX2.out.cell 1
        simp only [List.getElem?_cons_zero, List.getElem?_cons_succ] at k0 k2
        have hfl2 : ((S.fl.take k).filter fun a => !(a.2 == S.tk)).length ≤ 1000000000 := Nat.le_trans (List.length_filter_le _ _) (by rw [List.length_take]; omega)
        clear k1 b7
        go_wp2_with (at_builtin; refine wpList_append_at rfl (.tmp 28) (.tmp 30) 63 rfl W.heap.size 120 _ 2 24 Try.underlying63 arrInfo rfl (by decide) (arr_ok L.bl) Non vl ((S.fl.take k).filter fun a => !(a.2 == S.tk)) rfl (HL3.out.new (arr_ok _) _) ⟨_, 0, none⟩ 1 [.iface tp xp, .int .i64 (t : Nat)] (p, t) rfl (World.news_of_block (heap_alloc_new _ _)) (by show _ = _; rw [HPV.out]) (fun _ h => h.elim) (by omega) (by unfold maxLen; omega) (by have := HB2.out.size; simp; omega) ?_; intro v' w1 ho hb hg hat)
        have HO : Hid (OwnS (arrR L.bl) 2 W.heap.size 120 Non w1 v' ((S.fl.take (k + 1)).filter fun a => !(a.2 == S.tk))) := by
          show OwnS _ _ _ _ _ _ _ _
          rw [filter_take _ HX.out]
          simp only [HQ.out, Bool.not_false, if_true]
          exact ho
        have hne : ∀ g, vn.ownBlock = some g → w1.heap[g]? = W2.heap[g]? := fun g hgl => by
          have hlt2 := (HN3.out.block g hgl).2
          rw [hg.block g (by simp; omega) (fun e => HD.out g hgl e.symm)]
          exact Below.heap_alloc W2 _ g hlt2
        have HL4 : Hid (OwnS (arrR L.bl) 2 W.heap.size 120 Non w1 vn ((S.fl.take (k + 1)).filter fun a => a.2 == S.tk)) := by
          show OwnS _ _ _ _ _ _ _ _
          rw [filter_take _ HX.out]
          simp only [HQ.out, Bool.false_eq_true, if_false, List.append_nil]
          exact HN3.out.keep (arr_ok _) hne (fun _ hk _ => hk.elim)
        have HD2 : Hid (∀ g, vn.ownBlock = some g → v'.ownBlock = some g → False) := fun g h1 h2 => by
          rcases hat g h2 with h3 | h3
          · exact HD.out g h1 h3
          · have := (HN3.out.block g h1).2
            simp at h3
            omega
        have HB3 : Hid (Below W.heap.size W w1) := (HB2.out.alloc HB2.out.size _).trans hb
        clear ho hb hg hat hne
        go_wp2_with fail
        go_roundw
        case rel => exact ⟨k + 1, _, _, by omega, rfl, rfl, by go_num, HL4, HO, HD2, HB3⟩
        case measure => simp [intOf]; omega
    · have htake : S.fl.take k = S.fl := List.take_of_length_le (by have := HNFL.out; omega)
      obtain ⟨now, hnow⟩ : ∃ now, now = S.fl.filter fun a => a.2 == S.tk := ⟨_, rfl⟩
      obtain ⟨S2, hS2⟩ : ∃ S2 : Wr, S2 = { S with fl := S.fl.filter fun a => !(a.2 == S.tk) } := ⟨_, rfl⟩
      have hown := HN1.out
      have hlow := HL1.out
      rw [htake] at hown hlow
      rw [← hnow] at hown
      obtain ⟨ol, cl2, hvl, _, _⟩ := hlow.slice (arr_ok _)
      obtain ⟨ll, hll⟩ : ∃ ll, ll = (S.fl.filter fun a => !(a.2 == S.tk)).length := ⟨_, rfl⟩
      rw [← hll] at hvl
      clear hll
      subst hvl
      have HI2 : Hid (WInv N m ns X M K A T now S2) := by show WInv _ _ _ _ _ _ _ _ _ _; rw [hnow, hS2]; exact HI.out
      have hWr := HH.out.below HBL.out
      have hf6 := hWr.main.free 6
      have d6 := hWr.cells.2.2.2.2.2.2.1
      rw [HFV.out] at d6
      have hWs := hWr.setFly (hlow.rebase hB)
      rw [← hS2] at hWs
      have hGs := Went.setFly (N := N) (L := L) HBL.out (fun g hg => (hlow.block g hg).1) (.slice ol ll cl2)
      have hpl : L.p < W.heap.size := HH.out.main.lt
      have hOs := hown.keep (arr_ok _) (w' := wr.setCell ⟨L.p, 6, none⟩ (.slice ol ll cl2)) (fun g hg => Below.heap_setCell wr ⟨L.p, 6, none⟩ (.slice ol ll cl2) g fun e => by have := (hown.block g hg).1; have e2 : g = L.p := e; omega) (fun _ hk _ => hk.elim)
      have hnm : ∀ g, vn.ownBlock = some g → ¬ Mine { L with fv := .slice ol ll cl2 } N g := fun g hg hm => by
        have h1 := (hown.block g hg).1
        rcases hm with e | e | e | e | e | e | e | e | e | e
        · have := HH.out.mine_lt (k := g) (.inl e); omega
        · have := HH.out.mine_lt (k := g) (.inr (.inl e)); omega
        · have := HH.out.mine_lt (k := g) (.inr (.inr (.inl e))); omega
        · have := HH.out.mine_lt (k := g) (.inr (.inr (.inr (.inl e)))); omega
        · have := HH.out.mine_lt (k := g) (.inr (.inr (.inr (.inr (.inl e))))); omega
        · have := HH.out.mine_lt (k := g) (.inr (.inr (.inr (.inr (.inr (.inl e)))))); omega
        · have := HH.out.mine_lt (k := g) (.inr (.inr (.inr (.inr (.inr (.inr (.inl e))))))); omega
        · have := HH.out.mine_lt (k := g) (.inr (.inr (.inr (.inr (.inr (.inr (.inr (.inl e)))))))); omega
        · have := HH.out.mine_lt (k := g) (.inr (.inr (.inr (.inr (.inr (.inr (.inr (.inr (.inl e))))))))); omega
        · exact HD.out g hg e
      have HNM := hide hnm
      obtain ⟨W2, hW2⟩ : ∃ W2, wr.setCell ⟨L.p, 6, none⟩ (.slice ol ll cl2) = W2 := ⟨_, rfl⟩
      rw [hW2] at hWs hGs hOs
      obtain ⟨on, cn, hvn, hcn, _⟩ := hOs.slice (arr_ok _)
      subst hvn
      have HWS := hide hWs
      have HGS := hide hGs
      have HOS := hide hOs
      have HNL : Hid (now.length ≤ 1000000000) := by
        show _ ≤ _
        rw [hnow]
        exact Nat.le_trans (List.length_filter_le _ _) (by have := HNFL.out; omega)
      have HR : Hid (arriveS N fates S = now.foldl (fun w a => handleS N fates a.1 w) S2) := by show _ = _; rw [hnow, hS2]; rfl
      have HTK : Hid (S2.tk = S.tk) := by show _ = _; rw [hS2]
      have HF2 : Hid (SliceR intR 1 (Lt B) W2 oF fates) := HF.out.keep intR_ok fun q hq hql => HGS.out.block q hql fun hm9 => by
        have h9 := HH.out.mine_ge hm9
        have : q < B := hq
        omega
      clear hown hlow hWr hWs hGs hOs hnm hnow hS2 htake HN1 HL1 HD HI c7
      obtain ⟨nn, hnn⟩ : ∃ nn, nn = now.length := ⟨_, rfl⟩
      have HNN := hide hnn
      have hnn9 : nn ≤ 1000000000 := by have := HNL.out; omega
      rw [← hnn] at HOS HNM hcn ⊢
      clear hnn
      go_wp2_with fail
      go_loopw [39] (fun iv wx => ∃ (i : Nat) (L3 : WLay) (S3 : Wr), i ≤ nn ∧ iv = .int .i64 i ∧ Hid (S3 = (now.take i).foldl (fun w a => handleS N fates a.1 w) S2) ∧ S3.tk = S2.tk ∧ Hid (Wires B N L3 oP cP oF nF cF S3 wx) ∧ Hid (Went N L W L3 wx) ∧ Hid (WInv N m ns X M K A T (now.drop i) S3) ∧ Hid (OwnS (arrR L.bl) 2 W.heap.size 120 Non wx (.slice on nn cn) now) ∧ Hid (∀ g, (Value.slice on nn cn).ownBlock = some g → ¬ Mine L3 N g)) (fun iv _ => nn - (intOf iv).toNat)
      case atStart => exact ⟨0, _, S2, by omega, rfl, rfl, rfl, HWS, HGS, HI2, HOS, HNM⟩
      case round =>
        obtain ⟨i, L3, S3, hi, rfl, HS3, htk3, HW3, HG3, HI3, HO3, HM3⟩ := hrel
        by_cases hlt2 : i < nn
        · have hil : i < now.length := by have := HNN.out; omega
          obtain ⟨oa, ca, e1, _, hs3⟩ := HO3.out.slice (arr_ok _)
          injection e1 with e1 e2 e3
          clear e2 e3
          subst e1
          obtain ⟨⟨p, t⟩, hd, hx, b, off, cs, rfl, _, hcs, hcc⟩ := hs3.at hil
          obtain ⟨tp, xp, hpv⟩ : ∃ (tp : TypeId) (xp : Value), Value.iface tp xp = pkV L.bl p := by cases p <;> exact ⟨_, _, rfl⟩
          have hcs2 : cs = [pkV L.bl p, .int .i64 (t : Nat)] := hcs
          rw [← hpv] at hcs2
          subst hcs2
          have a0 := hcc 0 _ rfl
          have a1 := hcc 1 _ rfl
          simp only [Nat.add_zero] at a0
          obtain ⟨W1, hW1⟩ : ∃ W1, wr.alloc (.cells #[.iface tp xp, .int .i64 (t : Nat)] 120) = W1 := ⟨_, rfl⟩
          have bx : Box W1 wr.heap.size [.iface tp xp, .int .i64 (t : Nat)] 120 := by rw [← hW1]; exact Box.new wr [.iface tp xp, .int .i64 (t : Nat)] 120
          have bb := bnew (Below.refl wr.heap.size wr) (.cells #[.iface tp xp, .int .i64 (t : Nat)] 120)
          rw [hW1] at bb
          have k0 := bx.cell 0
          simp only [List.getElem?_cons_zero, List.getElem?_cons_succ] at k0
          have HIp : Hid (WInv N m ns X M K A T ((p, t) :: now.drop (i + 1)) S3) := by show WInv _ _ _ _ _ _ _ _ _ _; rw [← hd]; exact HI3.out
          have HF3 : SliceR intR 1 (Lt B) W1 oF fates := (HF.out.keep intR_ok fun q hq hql => HG3.out.block q hql fun hm9 => by
            have h9 := HH.out.mine_ge hm9
            have : q < B := hq
            omega).below intR_ok bb
          have hB1 : B ≤ W1.heap.size := by have := HG3.out.size; have := bb.size; omega
          have HTK2 := HTK.out
          have hcall := handle_inv (HW3.out.below bb) HIp.out fates HNF.out HF3 hB1 hN0 hN hm hM hT hK hA (by omega) hfc
          rw [HG3.out.p, HG3.out.bl] at hcall
          simp only [← hpv] at hcall
          have HC := hide hcall
          have HBB := hide bb
          have HXX := hide hx
          clear hd hx hcs hcc hpv bx bb hcall HF3 hs3 HTK2
          go_wp2_with (go_at_call 62; refine HC.out.mono ?_; rintro e w4 ⟨rfl, L4, h4, g4⟩; have HW4 := hide h4; have HG4 := hide g4; clear h4 g4)
          have HGN : Hid (Went N L W L4 w4) := (HG3.out.trans (Went.of_below HBB.out)).trans HG4.out
          have HIN : Hid (WInv N m ns X M K A T (now.drop (i + 1)) (handleS N fates p S3)) := HIp.out.handle fates hN0
          have HON : Hid (OwnS (arrR L.bl) 2 W.heap.size 120 Non w4 (.slice (some ⟨b, off, none⟩) nn cn) now) := HO3.out.keep (arr_ok _) (fun g hg => by
            have hgl := (HO3.out.block g hg).2
            rw [HG4.out.block g (Nat.lt_of_lt_of_le hgl HBB.out.size) (HM3.out g hg)]
            exact HBB.out.block g hgl) (fun _ hk _ => hk.elim)
          have HMN : Hid (∀ g, (Value.slice (some ⟨b, off, none⟩) nn cn).ownBlock = some g → ¬ Mine L4 N g) := fun g hg hm4 =>
            HM3.out g hg (HG4.out.mine g (Nat.lt_of_lt_of_le (HO3.out.block g hg).2 HBB.out.size) hm4)
          go_roundw
          case rel => exact ⟨i + 1, L4, _, by omega, by go_num, by show _ = _; rw [take_foldl _ _ HXX.out, ← HS3.out], by rw [handleS_tk, htk3], HW4, HGN, HIN, HON, HMN⟩
          case measure => simp [intOf]; omega
        · have htk : now.take i = now := List.take_of_length_le (by have := HNN.out; omega)
          go_wp2_with fail
          go_end0
          refine ⟨rfl, L3, ?_, HG3.out⟩
          rw [HR.out, ← htk, ← HS3.out]
          exact HW3.out
end

end Go.Proofs.Ytnigfddanoaonaa

set_option linter.unusedVariables false
set_option linter.unusedSimpArgs false
set_option linter.unnecessarySimpa false
namespace Go.Proofs.Ytnigfddanoaonaa
open Go.RowKit

section
variable {N σ : Nat} {m : Nat → Nat} {ns : Nat → Int} {X M K A T : Int} {S : Wr}
variable {next : Nat → Int → Nat → Int} {sent : Nat → Int → Nat → List (Int × Int)}

theorem foldl_tk {α : Type} (f : Wr → α → Wr) (h : ∀ w a, (f w a).tk = w.tk) : ∀ (l : List α) (w : Wr), (l.foldl f w).tk = w.tk
  | [], _ => rfl
  | a :: r, w => by rw [List.foldl_cons, foldl_tk f h r, h]
theorem putS_tk (p : Nat) (x : Int × Int) (w : Wr) : (putS N p x w).tk = w.tk := by unfold putS; split <;> rfl
theorem readS_tk (p : Nat) (w : Wr) : (readS N next sent p w).tk = w.tk := by
  unfold readS
  split
  · rfl
  · rw [foldl_tk _ fun w a => putS_tk p a w]
theorem lineS_tk (fates : List Int) (j : Nat) (w : Wr) : (lineS fates j w).tk = w.tk := by
  unfold lineS
  split
  · rfl
  · split <;> rfl
theorem handle_tk (fates : List Int) (p : Pk) (w : Wr) : (handleS N fates p w).tk = w.tk := by
  cases p with
  | lett l num kind => simp only [handleS]; split <;> rfl
  | ack l num => rfl
theorem tickS_tk (fates : List Int) (w : Wr) : (tickS N next sent fates w).tk = w.tk + 1 := by
  unfold tickS
  rw [foldl_tk _ fun w j => lineS_tk fates j w, foldl_tk _ fun w p => readS_tk p w]
  unfold arriveS
  exact foldl_tk (fun w (a : Pk × Nat) => handleS N fates a.1 w) (fun w a => handle_tk fates a.1 w) _ _
theorem ticksS_tk (fates : List Int) (w : Wr) : ∀ i, (ticksS N next sent fates w i).tk = w.tk + i
  | 0 => rfl
  | i + 1 => by
    show (tickS N next sent fates (ticksS N next sent fates w i)).tk = _
    rw [tickS_tk, ticksS_tk fates w i]
    omega

theorem WInv.ticks (hn : NetOk N σ m ns next sent) (fates : List Int) (hN : 0 < N) (h : WInv N m ns X M K A T [] S) :
    ∀ i, M + (i * (N * σ + 2 * (N * N)) : Nat) ≤ X → WInv N m ns X (M + (i * (N * σ + 2 * (N * N)) : Nat)) (K + (i * (6 * (N * N)) : Nat)) (A + (i * (3 * (N * N)) : Nat)) (T + (i * (N * (σ + 1)) : Nat)) [] (ticksS N next sent fates S i)
  | 0, hX => by simpa [ticksS] using h
  | i + 1, hX => by
    have e1 : (i + 1) * (N * σ + 2 * (N * N)) = i * (N * σ + 2 * (N * N)) + (N * σ + 2 * (N * N)) := Nat.succ_mul _ _
    have e2 : (i + 1) * (6 * (N * N)) = i * (6 * (N * N)) + 6 * (N * N) := Nat.succ_mul _ _
    have e3 : (i + 1) * (3 * (N * N)) = i * (3 * (N * N)) + 3 * (N * N) := Nat.succ_mul _ _
    have e4 : (i + 1) * (N * (σ + 1)) = i * (N * (σ + 1)) + N * (σ + 1) := Nat.succ_mul _ _
    have h1 := WInv.ticks hn fates hN h i (by rw [e1] at hX; push_cast at hX ⊢; omega)
    have h2 := h1.tick hn fates hN (by rw [e1] at hX; push_cast at hX ⊢; omega)
    show WInv _ _ _ _ _ _ _ _ _ (tickS N next sent fates (ticksS N next sent fates S i))
    rw [e1, e2, e3, e4]
    refine h2.mono ?_ ?_ ?_ ?_ (Int.le_refl _) (by rw [e1] at hX; exact hX)
    · push_cast; omega
    · push_cast; omega
    · push_cast; omega
    · push_cast; omega
/-- It does not become large soon. -/
theorem WInv.never (hn : NetOk N σ m ns next sent) (fates : List Int) (hN : 0 < N) (h : WInv N m ns 1048576 M K A T [] S) {n : Nat} (hM : M + (n * (N * σ + 2 * (N * N)) : Nat) ≤ 1048576) {t : Nat} (ht : t ≤ n) : (ticksS N next sent fates S t).lg = false :=
  (WInv.ticks hn fates hN h t (by
    have := Nat.mul_le_mul_right (N * σ + 2 * (N * N)) ht
    omega)).lg (Int.le_refl _)
end

/-- What Run comes to when nothing becomes large: the tick behind which it is quiet, or none. -/
def quietAt (N : Nat) (next : Nat → Int → Nat → Int) (sent : Nat → Int → Nat → List (Int × Int)) (fates : List Int) (w : Wr) (limit : Nat) : Option Nat := (List.range (limit + 1)).find? fun t => !busyS (ticksS N next sent fates w t)

section
variable {N : Nat} {next : Nat → Int → Nat → Int} {sent : Nat → Int → Nat → List (Int × Int)} {fates : List Int} {w : Wr} {limit : Nat}
theorem find_range {f : Nat → Bool} : ∀ {n T : Nat}, T < n → f T = true → (∀ t, t < T → f t = false) → (List.range n).find? f = some T := by
  intro n T hT h1 h2
  rw [List.find?_range_eq_some]
  exact ⟨h1, by simpa using hT, fun j hj => by simp [h2 j hj]⟩
theorem quietAt_some {T : Nat} (hT : T ≤ limit) (h1 : busyS (ticksS N next sent fates w T) = false) (h2 : ∀ t, t < T → busyS (ticksS N next sent fates w t) = true) : quietAt N next sent fates w limit = some T :=
  find_range (by omega) (by simp [h1]) fun t ht => by simp [h2 t ht]
theorem quietAt_none (h2 : ∀ t, t ≤ limit → busyS (ticksS N next sent fates w t) = true) : quietAt N next sent fates w limit = none := by
  unfold quietAt
  rw [List.find?_eq_none]
  intro t ht
  have := h2 t (by have := List.mem_range.1 ht; omega)
  simp [this]
theorem quietAt_spec {T : Nat} (h : quietAt N next sent fates w limit = some T) : T ≤ limit ∧ busyS (ticksS N next sent fates w T) = false ∧ ∀ t, t < T → busyS (ticksS N next sent fates w t) = true := by
  unfold quietAt at h
  rw [List.find?_range_eq_some] at h
  obtain ⟨h1, h2, h3⟩ := h
  refine ⟨by simp at h2; omega, by simpa using h1, fun t ht => by simpa using h3 t ht⟩
end

end Go.Proofs.Ytnigfddanoaonaa

set_option linter.unusedVariables false
set_option linter.unusedSimpArgs false
set_option linter.unnecessarySimpa false
namespace Go.Proofs.Ytnigfddanoaonaa
open Go.RowKit

section
variable {B N : Nat} {L : WLay} {oP : Option Addr} {cP : Nat} {oF : Option Addr} {nF cF : Nat} {S : Wr} {W W' : World}
variable {X M K A T : Int}

theorem range_fold {β : Type} (f : β → Nat → β) (b : β) (i : Nat) : (List.range (i + 1)).foldl f b = f ((List.range i).foldl f b) i := by
  rw [List.range_succ, List.foldl_append]; rfl

set_option maxRecDepth 100000 in
set_option maxHeartbeats 4000000 in
theorem tick_any (h : Wires B N L oP cP oF nF cF S W) {x : Nwk} (hx : Right x) (hN : N = x.procs.length) (hi : WInv N (lettersP x.procs) (statesP x.procs) X M K A T [] S)
    (hP : SliceR prcR 3 (Lt B) W oP x.procs) (hB : B ≤ W.heap.size) (fates : List Int) (hnF : nF = fates.length) (hF : SliceR intR 1 (Lt B) W oF fates) (hfc : fates.length ≤ 9223372036854775807)
    (hX : M + (N * 16 : Nat) + (2 * (N * N) : Nat) ≤ X) (hXX : X ≤ 1000000000000) (hT : T + (N * 17 : Nat) ≤ 900000000) (hK : K + (6 * (N * N) : Nat) ≤ 1000000000) (hA : A + (3 * (N * N) : Nat) ≤ 1000000000000) (htk : S.tk + 1 ≤ 1000000000000) :
    Calls Try.prog 25 #[.pointer (some ⟨L.p, 0, none⟩)] W fun e w' => e = .returned (.tuple #[]) ∧ ∃ L', Wires B N L' oP cP oF nF cF (tickS N (nextP x.procs) (sentP x.procs) fates S) w' ∧ Went N L W L' w' := by
  have hn12 : N ≤ 12 := by have := hx.n.2; omega
  have hN0 : 0 < N := by have := hx.n.1; omega
  have hmx := hi.mx
  have hwg := hi.wgt
  have hwl := Wc_length ([] ++ S.fl)
  simp only [List.nil_append] at hwg hwl
  have hok : NetOk N 16 (lettersP x.procs) (statesP x.procs) (nextP x.procs) (sentP x.procs) := hN ▸ hx.ok
  obtain ⟨_, _, _, _, _, _, _, c7, _, _⟩ := h.cells
  have f7 := h.main.free 7
  have hW1 := h.setTick (S.tk + 1)
  have hG1 : Went N L W L (W.setCell ⟨L.p, 7, none⟩ (.int .i64 (S.tk + 1 : Nat))) := Went.put (.inl rfl)
  have ev : ((S.tk + 1 : Nat) : Int) = (S.tk : Int) + 1 := by push_cast; rfl
  rw [ev] at hW1 hG1
  obtain ⟨W1, e1⟩ : ∃ W1, W.setCell ⟨L.p, 7, none⟩ (.int .i64 ((S.tk : Int) + 1)) = W1 := ⟨_, rfl⟩
  rw [e1] at hW1 hG1
  have hF1 : SliceR intR 1 (Lt B) W1 oF fates := hF.keep intR_ok fun q hq hql => (h.went_below hG1 hB).block q hq
  have hB1 : B ≤ W1.heap.size := by have := hG1.size; omega
  have hcall := arrive_any hW1 (hi.begin_) fates hnF hF1 hB1 hN0 (by omega) (fun p hp => by have := (hx.letters p (by omega)).2; omega) (by omega) (by omega) (by omega) (by omega) (by show S.tk + 1 ≤ _; omega) (by show S.fl.length ≤ _; omega) hfc
  have HI2 := hide (hi.arrive fates hN0)
  have HC := hide hcall
  have HH := hide h
  have HX := hide hx
  have HP := hide hP
  have HN := hide hN
  have HF := hide hF
  have HNF := hide hnF
  have HOK := hide hok
  have HG1 := hide hG1
  clear hW1 hG1 hF1 hcall h hi hx hP hN hF hnF hok ev hwg hwl
  obtain ⟨S2, hS2⟩ : ∃ S2, S2 = arriveS N fates { S with tk := S.tk + 1 } := ⟨_, rfl⟩
  rw [← hS2] at HI2 HC
  have HT2 : Hid (S2.tk = S.tk + 1) := by
    show _ = _
    rw [hS2]
    unfold arriveS
    exact foldl_tk (fun w (a : Pk × Nat) => handleS N fates a.1 w) (fun w a => handle_tk fates a.1 w) _ _
  have HE : Hid (tickS N (nextP x.procs) (sentP x.procs) fates S = (List.range (N * N)).foldl (fun w j => lineS fates j w) ((List.range N).foldl (fun w p => readS N (nextP x.procs) (sentP x.procs) p w) S2)) := by
    show _ = _
    rw [hS2]
    rfl
  clear hS2
  go_enter Try.func25, Try.ntmps25
  go_wp2_with (go_at_call 45; refine HC.out.mono ?_; rintro e w2 ⟨rfl, L2, h2, g2⟩; have HW2 := hide h2; have HG2 := hide (HG1.out.trans g2); have c0 := h2.cells.1; rw [g2.p] at c0; clear h2 g2)
  go_loopw [20] (fun iv wr => ∃ (i : Nat) (L3 : WLay), i ≤ N ∧ iv = .int .i64 i ∧ Hid (Wires B N L3 oP cP oF nF cF ((List.range i).foldl (fun w p => readS N (nextP x.procs) (sentP x.procs) p w) S2) wr) ∧ Hid (Went N L W L3 wr)) (fun iv _ => N - (intOf iv).toNat)
  case atStart => exact ⟨0, L2, by omega, rfl, HW2, HG2⟩
  case round =>
    obtain ⟨i, L3, hi, rfl, HW3, HG3⟩ := hrel
    by_cases hlt : i < N
    · have e16 : i * 16 + 16 ≤ N * 16 := by omega
      have e17 : i * 17 + 17 ≤ N * 17 := by omega
      have HIi := hide (WInv.reads HOK.out HI2.out i (by omega) (by omega))
      have hP3 : SliceR prcR 3 (Lt B) wr oP x.procs := HP.out.keep prcR_ok fun q hq hql => (HH.out.went_below HG3.out hB).block q hq
      have hcall := wread_any HW3.out HX.out HN.out HIi.out hP3 (by have := HG3.out.size; omega) (p := i) hlt (by omega) hXX (by omega)
      rw [HG3.out.p] at hcall
      have HC3 := hide hcall
      clear hcall hP3
      go_wp2_with (go_at_call 46; refine HC3.out.mono ?_; rintro e w4 ⟨rfl, L4, h4, g4⟩; have HW4 := hide h4; have HG4 := hide (HG3.out.trans g4); clear h4 g4)
      go_roundw
      case rel => exact ⟨i + 1, L4, by omega, by go_num, by show Wires _ _ _ _ _ _ _ _ _ _; rw [range_fold]; exact HW4.out, HG4⟩
      case measure => simp [intOf]; omega
    · have hie : i = N := by omega
      subst hie
      obtain ⟨S3, hS3⟩ : ∃ S3, S3 = (List.range i).foldl (fun w p => readS i (nextP x.procs) (sentP x.procs) p w) S2 := ⟨_, rfl⟩
      have HI3 : Hid (WInv i (lettersP x.procs) (statesP x.procs) X (M + (i * 16 : Nat)) K A (T + (i * 17 : Nat)) [] S3) := by
        show WInv _ _ _ _ _ _ _ _ _ _
        rw [hS3]
        exact WInv.reads HOK.out HI2.out i (Nat.le_refl _) (by omega)
      have HT3 : Hid (S3.tk = S.tk + 1) := by
        show _ = _
        rw [hS3, foldl_tk _ fun w p => readS_tk p w]
        exact HT2.out
      rw [← hS3] at HW3 HE
      clear hS3
      obtain ⟨_, _, _, _, c4, _, _, _, _, _⟩ := HW3.out.cells
      rw [HG3.out.p] at c4
      unfold slV at c4
      obtain ⟨nn, hnn⟩ : ∃ nn, nn = i * i := ⟨_, rfl⟩
      have hnn2 : nn ≤ 144 := by rw [hnn]; exact Nat.le_trans (Nat.mul_le_mul hn12 hn12) (by omega)
      rw [← hnn] at c4 HE hK hA hX
      have HNN := hide hnn
      obtain ⟨gl, hgl⟩ : ∃ gl, gl = L3.gl := ⟨_, rfl⟩
      have HGL : Hid (L.gl = gl) := by show _ = _; rw [hgl, HG3.out.gl]
      rw [← hgl] at c4
      clear hnn hgl
      go_wp2_with fail
      go_loopw [32] (fun iv wr => ∃ (k : Nat) (L4 : WLay), k ≤ nn ∧ iv = .int .i64 k ∧ Hid (Wires B i L4 oP cP oF nF cF ((List.range k).foldl (fun w j => lineS fates j w) S3) wr) ∧ Hid (Went i L W L4 wr)) (fun iv _ => nn - (intOf iv).toNat)
      case atStart => exact ⟨0, L3, by omega, rfl, HW3, HG3⟩
      case round =>
        obtain ⟨j, L4, hj, rfl, HW4, HG4⟩ := hrel
        by_cases hlt2 : j < nn
        · have hj2 : j < i * i := by have := HNN.out; omega
          obtain ⟨S4, hS4⟩ : ∃ S4, S4 = (List.range j).foldl (fun w j => lineS fates j w) S3 := ⟨_, rfl⟩
          have HI4 : Hid (WInv i (lettersP x.procs) (statesP x.procs) X (M + (i * 16 : Nat) + (2 * j : Nat)) (K + (6 * j : Nat)) (A + (3 * j : Nat)) (T + (i * 17 : Nat)) [] S4) := by
            show WInv _ _ _ _ _ _ _ _ _ _
            rw [hS4]
            exact WInv.lines fates HI3.out j (by omega) (by omega)
          have HT4 : Hid (S4.tk = S.tk + 1) := by
            show _ = _
            rw [hS4, foldl_tk _ fun w p => lineS_tk fates p w]
            exact HT3.out
          have HR4 : Hid ((List.range (j + 1)).foldl (fun w j => lineS fates j w) S3 = lineS fates j S4) := by show _ = _; rw [range_fold, hS4]
          rw [← hS4] at HW4
          clear hS4
          obtain ⟨l, hl, hgl⟩ := HI4.out.line hj2
          obtain ⟨lb1, lb2, lb3, lb4⟩ := HI4.out.lb j l hl
          have t5 : l.tot = l.rm + l.q.length := rfl
          have lt := HW4.out.ltab.cell (i := j) (x := Value.pointer (some ⟨L4.bl j, 0, none⟩)) (by simp [hj2])
          simp only [id_eq] at lt
          rw [HG4.out.gl, HGL.out] at lt
          obtain ⟨_, _, _, _, _, _, _, d7, _, _⟩ := HW4.out.cells
          rw [HG4.out.p, HT4.out] at d7
          have hlin := HW4.out.lin j l hl
          obtain ⟨oq, cq, hfv, hqc, hqs⟩ := (HW4.out.lett j l hl).slice
          have p0 := hlin.cell 0
          have p1 := hlin.cell 1
          have p2 := hlin.cell 2
          simp only [lnC, List.getElem?_cons_zero, List.getElem?_cons_succ] at p0 p1 p2
          rw [hfv] at p0
          have HLS := hide hl
          have HLG := hide hgl
          have HQS := hide hqs
          have HFV := hide hfv
          rw [HT4.out] at lb3
          clear hl hgl hfv hqs hlin
          obtain ⟨ql, hql⟩ : ∃ ql, ql = l.q.length := ⟨_, rfl⟩
          obtain ⟨sn, hsn⟩ : ∃ sn, sn = l.sn := ⟨_, rfl⟩
          obtain ⟨rm, hrm⟩ : ∃ rm, rm = l.rm := ⟨_, rfl⟩
          obtain ⟨tk, htke⟩ : ∃ tk, tk = S.tk + 1 := ⟨_, rfl⟩
          rw [← hql] at p0 hqc t5
          rw [← hsn] at p2 lb3
          rw [← hrm] at p1 t5
          rw [← htke] at d7 lb3 HT4 htk
          have HQL := hide hql
          have HSN := hide hsn
          have HRM := hide hrm
          clear hql hsn hrm htke
          rcases hq : l.q with _ | ⟨a, r⟩
          · have HQ := hide hq
            rw [hq] at HQL
            have hq0 : ql = 0 := by simpa using HQL.out
            subst hq0
            clear hq
            have HLE : Hid (lineS fates j S4 = S4) := by
              show _ = _
              unfold lineS
              rw [HLG.out, HQ.out]
            clear HQL
            go_wp2_with fail
            go_quiet (fail)
            go_wp2_with fail
            go_roundw
            case rel => exact ⟨j + 1, L4, by omega, by go_num, by show Wires _ _ _ _ _ _ _ _ _ _; rw [HR4.out, HLE.out]; exact HW4.out.drewN nq, HG4.out.trans (Went.drew nq)⟩
            case measure => simp [intOf]; omega
          · have HQ := hide hq
            have hq1 : 0 < ql := by have := HQL.out; rw [hq] at this; simp at this; omega
            have g1 : decide ((0 : Int) < (ql : Int)) = true := by simp; omega
            clear hq
            by_cases h0 : sn = 0
            · have g2 : ((sn : Int) == 0) = true := by simp [h0]
              have h0' : sn = 0 ∨ sn + 4 ≤ tk := .inl h0
              clear h0
              have HLE : Hid (lineS fates j S4 = { sendS fates (.lett j (rm + 1) a) S4 with ls := S4.ls.set j { l with sn := tk } }) := by
                show _ = _
                unfold lineS
                rw [HLG.out, HQ.out]
                simp only
                rw [if_pos (by rw [← HSN.out, HT4.out]; exact h0'), ← HRM.out, HT4.out]
                rw [HQ.out]
              go_wp2_with fail
              go_quiet (fail)
              obtain ⟨W5, hW5⟩ : ∃ W5, wr.drewN nq = W5 := ⟨_, rfl⟩
              have HW5 : Hid (Wires B i L4 oP cP oF nF cF S4 W5) := by show Wires _ _ _ _ _ _ _ _ _ _; rw [← hW5]; exact HW4.out.drewN nq
              have HG5 : Hid (Went i L W L4 W5) := by show Went _ _ _ _ _; rw [← hW5]; exact HG4.out.trans (Went.drew nq)
              have hq5 : SliceR intR 1 (fun k => B ≤ k) W5 oq l.q := by rw [← hW5]; exact HQS.out.keep intR_ok (fun _ _ _ => rfl)
              have hlin5 := HW5.out.lin j l HLS.out
              have p0 := hlin5.cell 0
              have p1 := hlin5.cell 1
              simp only [lnC, List.getElem?_cons_zero, List.getElem?_cons_succ] at p0 p1
              rw [HFV.out] at p0
              rw [← HQL.out] at p0
              rw [← HRM.out] at p1
              obtain ⟨a', hd5, hx5, ia5, b5, off5, rfl, _, a5⟩ := hq5.int_at (i := 0) (by rw [HQ.out]; simp)
              rw [HQ.out] at hx5
              simp only [List.getElem?_cons_zero] at hx5
              injection hx5 with hx5
              subst hx5
              simp only [Nat.add_zero] at a5
              have hF5 : SliceR intR 1 (Lt B) W5 oF fates := HF.out.keep intR_ok fun q hq hql => (HH.out.went_below HG5.out hB).block q hq
              have hwg := HI4.out.wgt
              have hsb := HI4.out.seb
              have hwl := Wc_length ([] ++ S4.fl)
              have hlc := Lc_nonneg ([] ++ S4.fl)
              simp only [List.nil_append] at hwg hwl hsb hlc
              have hcall := send_any (HW5.out.drewN 1) fates HNF.out (hF5.below intR_ok (below_drewN (Below.refl _ _) 1)) (show B ≤ W5.heap.size from by have := HG5.out.size; omega) (.lett j (rm + 1) a) (by omega) (by rw [HT4.out]; omega) (by omega) hfc
              have hpk : pkV L4.bl (.lett j (rm + 1) a) = .iface 100 (.agg #[.pointer (some ⟨L4.bl j, 0, none⟩), .int .i64 ((rm : Int) + 1), .int .i64 a]) := by unfold pkV; push_cast; rfl
              rw [HG5.out.p, hpk] at hcall
              have HC5 := hide hcall
              have w1 : IntKind.i64.wrap ((rm : Int) + 1) = (rm : Int) + 1 := by unfold IntKind.wrap; simp [IntKind.signed, IntKind.bits]; omega
              clear hpk hd5 hq5 hF5 hwg hsb hwl hlc hcall hlin5 p2 lt d7
              rw [hW5]
              clear hW5
              go_wp2_with fail
              go_still_tail 17, (by kernel_rfl)
              change wpList _ _ _ _ _ (W5.drewN 1)
              go_wp2_with (go_at_call 47; refine HC5.out.mono ?_; rintro e w6 ⟨rfl, L6, h6, g6⟩; have m7 := h6.cells.2.2.2.2.2.2.2.1; have n2 := (h6.lin j l HLS.out).cell 2; have nf := (h6.lin j l HLS.out).free 2; rw [g6.p, HG5.out.p, show (sendS fates (.lett j (rm + 1) a) S4).tk = tk from HT4.out] at m7; rw [g6.bl] at n2 nf; simp only [lnC, List.getElem?_cons_zero, List.getElem?_cons_succ] at n2; rw [← HSN.out] at n2; have HW6 := hide h6; have HG6 := hide ((HG5.out.trans (Went.drew 1)).trans g6); have HBL6 := hide g6.bl; clear h6 g6)
              have hset := HW6.out.setLine (j := j) (l := l) (l' := { l with sn := tk }) HLS.out rfl 2 (.int .i64 (tk : Nat)) rfl
              have hgs := HG6.out.trans (Went.put (L := L6) (W := w6) (b := L6.bl j) (i := 2) (v := .int .i64 (tk : Nat)) (.inr (.inr (.inr (.inr (.inr (.inr (.inr (.inl ⟨j, hj2, rfl⟩)))))))))
              rw [HBL6.out] at hset hgs
              have HW7 := hide hset
              have HG7 := hide hgs
              clear hset hgs
              go_wp2_with fail
              go_roundw
              case rel => exact ⟨j + 1, L6, by omega, by go_num, by show Wires _ _ _ _ _ _ _ _ _ _; rw [HR4.out, HLE.out]; exact HW7.out, HG7⟩
              case measure => simp [intOf]; omega
            · have g2 : ((sn : Int) == 0) = false := by simp; omega
              have g3 : IntKind.i64.wrap ((tk : Int) - (sn : Int)) = (tk : Int) - (sn : Int) := by unfold IntKind.wrap; simp [IntKind.signed, IntKind.bits]; omega
              by_cases h4 : sn + 4 ≤ tk
              · have g4 : decide ((4 : Int) ≤ (tk : Int) - (sn : Int)) = true := by simp; omega
                have h0' : sn = 0 ∨ sn + 4 ≤ tk := .inr h4
                clear h0 h4
                have HLE : Hid (lineS fates j S4 = { sendS fates (.lett j (rm + 1) a) S4 with ls := S4.ls.set j { l with sn := tk } }) := by
                  show _ = _
                  unfold lineS
                  rw [HLG.out, HQ.out]
                  simp only
                  rw [if_pos (by rw [← HSN.out, HT4.out]; exact h0'), ← HRM.out, HT4.out]
                  rw [HQ.out]
                go_wp2_with fail
                go_quiet (fail)
                obtain ⟨W5, hW5⟩ : ∃ W5, wr.drewN nq = W5 := ⟨_, rfl⟩
                have HW5 : Hid (Wires B i L4 oP cP oF nF cF S4 W5) := by show Wires _ _ _ _ _ _ _ _ _ _; rw [← hW5]; exact HW4.out.drewN nq
                have HG5 : Hid (Went i L W L4 W5) := by show Went _ _ _ _ _; rw [← hW5]; exact HG4.out.trans (Went.drew nq)
                have hq5 : SliceR intR 1 (fun k => B ≤ k) W5 oq l.q := by rw [← hW5]; exact HQS.out.keep intR_ok (fun _ _ _ => rfl)
                have hlin5 := HW5.out.lin j l HLS.out
                have p0 := hlin5.cell 0
                have p1 := hlin5.cell 1
                simp only [lnC, List.getElem?_cons_zero, List.getElem?_cons_succ] at p0 p1
                rw [HFV.out] at p0
                rw [← HQL.out] at p0
                rw [← HRM.out] at p1
                obtain ⟨a', hd5, hx5, ia5, b5, off5, rfl, _, a5⟩ := hq5.int_at (i := 0) (by rw [HQ.out]; simp)
                rw [HQ.out] at hx5
                simp only [List.getElem?_cons_zero] at hx5
                injection hx5 with hx5
                subst hx5
                simp only [Nat.add_zero] at a5
                have hF5 : SliceR intR 1 (Lt B) W5 oF fates := HF.out.keep intR_ok fun q hq hql => (HH.out.went_below HG5.out hB).block q hq
                have hwg := HI4.out.wgt
                have hsb := HI4.out.seb
                have hwl := Wc_length ([] ++ S4.fl)
                have hlc := Lc_nonneg ([] ++ S4.fl)
                simp only [List.nil_append] at hwg hwl hsb hlc
                have hcall := send_any (HW5.out.drewN 1) fates HNF.out (hF5.below intR_ok (below_drewN (Below.refl _ _) 1)) (show B ≤ W5.heap.size from by have := HG5.out.size; omega) (.lett j (rm + 1) a) (by omega) (by rw [HT4.out]; omega) (by omega) hfc
                have hpk : pkV L4.bl (.lett j (rm + 1) a) = .iface 100 (.agg #[.pointer (some ⟨L4.bl j, 0, none⟩), .int .i64 ((rm : Int) + 1), .int .i64 a]) := by unfold pkV; push_cast; rfl
                rw [HG5.out.p, hpk] at hcall
                have HC5 := hide hcall
                have w1 : IntKind.i64.wrap ((rm : Int) + 1) = (rm : Int) + 1 := by unfold IntKind.wrap; simp [IntKind.signed, IntKind.bits]; omega
                clear hpk hd5 hq5 hF5 hwg hsb hwl hlc hcall hlin5 p2 lt d7
                rw [hW5]
                clear hW5
                go_wp2_with fail
                go_still_tail 17, (by kernel_rfl)
                change wpList _ _ _ _ _ (W5.drewN 1)
                go_wp2_with (go_at_call 47; refine HC5.out.mono ?_; rintro e w6 ⟨rfl, L6, h6, g6⟩; have m7 := h6.cells.2.2.2.2.2.2.2.1; have n2 := (h6.lin j l HLS.out).cell 2; have nf := (h6.lin j l HLS.out).free 2; rw [g6.p, HG5.out.p, show (sendS fates (.lett j (rm + 1) a) S4).tk = tk from HT4.out] at m7; rw [g6.bl] at n2 nf; simp only [lnC, List.getElem?_cons_zero, List.getElem?_cons_succ] at n2; rw [← HSN.out] at n2; have HW6 := hide h6; have HG6 := hide ((HG5.out.trans (Went.drew 1)).trans g6); have HBL6 := hide g6.bl; clear h6 g6)
                have hset := HW6.out.setLine (j := j) (l := l) (l' := { l with sn := tk }) HLS.out rfl 2 (.int .i64 (tk : Nat)) rfl
                have hgs := HG6.out.trans (Went.put (L := L6) (W := w6) (b := L6.bl j) (i := 2) (v := .int .i64 (tk : Nat)) (.inr (.inr (.inr (.inr (.inr (.inr (.inr (.inl ⟨j, hj2, rfl⟩)))))))))
                rw [HBL6.out] at hset hgs
                have HW7 := hide hset
                have HG7 := hide hgs
                clear hset hgs
                go_wp2_with fail
                go_roundw
                case rel => exact ⟨j + 1, L6, by omega, by go_num, by show Wires _ _ _ _ _ _ _ _ _ _; rw [HR4.out, HLE.out]; exact HW7.out, HG7⟩
                case measure => simp [intOf]; omega
              · have g4 : decide ((4 : Int) ≤ (tk : Int) - (sn : Int)) = false := by simp; omega
                have h0' : ¬ (sn = 0 ∨ sn + 4 ≤ tk) := by omega
                clear h0 h4
                have HLE : Hid (lineS fates j S4 = S4) := by
                  show _ = _
                  unfold lineS
                  rw [HLG.out, HQ.out]
                  simp only
                  rw [if_neg (by rw [← HSN.out, HT4.out]; exact h0')]
                go_wp2_with fail
                go_quiet (fail)
                go_wp2_with fail
                go_roundw
                case rel => exact ⟨j + 1, L4, by omega, by go_num, by show Wires _ _ _ _ _ _ _ _ _ _; rw [HR4.out, HLE.out]; exact HW4.out.drewN nq, HG4.out.trans (Went.drew nq)⟩
                case measure => simp [intOf]; omega
        · have hje : j = nn := by omega
          subst hje
          go_wp2_with fail
          go_end0
          refine ⟨rfl, L4, ?_, HG4.out⟩
          rw [HE.out]
          exact HW4.out
end

end Go.Proofs.Ytnigfddanoaonaa

set_option linter.unusedVariables false
set_option linter.unusedSimpArgs false
set_option linter.unnecessarySimpa false
namespace Go.Proofs.Ytnigfddanoaonaa
open Go.RowKit

theorem chunk_take {sz i n : Nat} {l : List Value} (hi : i < n) : chunk sz i (l.take (n * sz)) = chunk sz i l := by
  have hle : i * sz + sz ≤ n * sz := by
    have := Nat.mul_le_mul_right sz (Nat.succ_le_of_lt hi)
    rw [Nat.succ_mul] at this
    exact this
  unfold chunk
  rw [List.drop_take, List.take_take, Nat.min_eq_left (by omega)]
theorem chunk_cell {sz i j : Nat} {l : List Value} (hj : j < sz) : (chunk sz i l)[j]? = l[i * sz + j]? := by
  unfold chunk
  rw [List.getElem?_take, if_pos hj, List.getElem?_drop]
theorem chunk_set_same {sz i j : Nat} {l : List Value} {u : Value} (hj : j < sz) : chunk sz i (l.set (i * sz + j) u) = (chunk sz i l).set j u := by
  unfold chunk
  rw [List.drop_set, if_neg (by omega), show i * sz + j - i * sz = j from by omega, List.take_set]
theorem chunk_set_other {sz i j k : Nat} {l : List Value} {u : Value} (hj : j < sz) (hk : k ≠ i) : chunk sz k (l.set (i * sz + j) u) = chunk sz k l := by
  unfold chunk
  apply List.ext_getElem?
  intro n
  rw [List.getElem?_take, List.getElem?_take]
  split
  · rename_i hn
    rw [List.getElem?_drop, List.getElem?_drop, List.getElem?_set]
    rw [if_neg]
    intro e
    rcases Nat.lt_or_ge k i with h | h
    · have := Nat.mul_le_mul_right sz (Nat.succ_le_of_lt h)
      rw [Nat.succ_mul] at this
      omega
    · have h2 : i + 1 ≤ k := by omega
      have := Nat.mul_le_mul_right sz h2
      rw [Nat.succ_mul] at this
      omega
  · rfl

/-- The slice v at block g holds xs, but for element i, of which the cells hc are known. -/
def RowH {α : Type} (R : Rep α) (sz base : Nat) (e : TypeId) (F : Foot) (w : World) (v : Value) (g : Nat) (xs : List α) (i : Nat) (hc : List Value) : Prop :=
  ∃ cap cur, v = .slice (some ⟨g, 0, none⟩) xs.length cap ∧ base ≤ g ∧ w.heap[g]? = some (.cells cur e (0, 0)) ∧ xs.length ≤ cap ∧ cap ≤ maxLen ∧ cur.size = cap * sz ∧
    (∀ u ∈ cur.toList.take (xs.length * sz), u.oneCell' = true) ∧ i < xs.length ∧ hc = chunk sz i cur.toList ∧ ∀ k x, k ≠ i → xs[k]? = some x → R F w (chunk sz k cur.toList) x
section
variable {α : Type} {R : Rep α} {sz base : Nat} {e : TypeId} {F F' : Foot} {w w' : World} {v : Value} {xs : List α} {g i : Nat} {hc : List Value}

theorem OwnS.open_ (h : OwnS R sz base e F w v xs) {i : Nat} {x : α} (hx : xs[i]? = some x) : ∃ g hc, RowH R sz base e F w v g xs i hc ∧ R F w hc x := by
  obtain ⟨cells, ho, h1, hcs⟩ := h
  have hi := (List.getElem?_eq_some_iff.1 hx).1
  rcases ho.2 with ⟨_, hn⟩ | ⟨g, cap, cur, rfl, hg, hh, hle, hm, hsz, ht⟩
  · omega
  · refine ⟨g, chunk sz i cur.toList, ⟨cap, cur, rfl, hg, hh, hle, hm, hsz, by rw [ht]; exact h1, hi, rfl, fun k y hk hy => ?_⟩, ?_⟩
    · have hkl := (List.getElem?_eq_some_iff.1 hy).1
      rw [← chunk_take hkl, ht]
      exact hcs k y hy
    · rw [← chunk_take hi, ht]
      exact hcs i x hx
theorem RowH.form (h : RowH R sz base e F w v g xs i hc) : ∃ cap, v = .slice (some ⟨g, 0, none⟩) xs.length cap ∧ base ≤ g ∧ g < w.heap.size ∧ i < xs.length := by
  obtain ⟨cap, cur, rfl, hg, hh, _, _, _, _, hi, _⟩ := h
  exact ⟨cap, rfl, hg, (Array.getElem?_eq_some_iff.1 hh).1, hi⟩
theorem RowH.free (h : RowH R sz base e F w v g xs i hc) (k : Nat) : w.frozen? ⟨g, k, none⟩ = false := by
  obtain ⟨cap, cur, _, _, hh, _⟩ := h
  exact frozen_of_row w g k _ _ hh
theorem RowH.cell (h : RowH R sz base e F w v g xs i hc) {j : Nat} (hj : j < sz) : w.cell? ⟨g, i * sz + j, none⟩ = hc[j]? := by
  obtain ⟨cap, cur, _, _, hh, _, _, _, _, hi, rfl, _⟩ := h
  rw [chunk_cell hj, cell_of_row w g _ cur e (0, 0) hh]
  simp
theorem RowH.keep (ok : RepOk R sz) (h : RowH R sz base e F w v g xs i hc) (hb : w'.heap[g]? = w.heap[g]?) (hs : SameOn F w w') : RowH R sz base e F w' v g xs i hc := by
  obtain ⟨cap, cur, h1, h2, hh, h3, h4, h5, h6, hi, h7, h8⟩ := h
  exact ⟨cap, cur, h1, h2, by rw [hb]; exact hh, h3, h4, h5, h6, hi, h7, fun k x hk hx => ok.keep (h8 k x hk hx) hs⟩
theorem RowH.wide (ok : RepOk R sz) (h : RowH R sz base e F w v g xs i hc) (hs : ∀ k, F k → k < w.heap.size → F' k) : RowH R sz base e F' w v g xs i hc := by
  obtain ⟨cap, cur, h1, h2, hh, h3, h4, h5, h6, hi, h7, h8⟩ := h
  exact ⟨cap, cur, h1, h2, hh, h3, h4, h5, h6, hi, h7, fun k x hk hx => ok.wide (h8 k x hk hx) hs⟩
theorem RowH.put (ok : RepOk R sz) (h : RowH R sz base e F w v g xs i hc) (hF : ¬ F g) {j : Nat} (hj : j < sz) {u : Value} (hu : u.oneCell' = true) : RowH R sz base e F (w.setCell ⟨g, i * sz + j, none⟩ u) v g xs i (hc.set j u) := by
  obtain ⟨cap, cur, h1, h2, hh, h3, h4, h5, h6, hi, h7, h8⟩ := h
  have hle : i * sz + sz ≤ xs.length * sz := by
    have := Nat.mul_le_mul_right sz (Nat.succ_le_of_lt hi)
    rw [Nat.succ_mul] at this
    exact this
  have hle2 := Nat.mul_le_mul_right sz h3
  have hheap := heap_set1 w g (i * sz + j) cur.toList e u (by simpa using hh)
  refine ⟨cap, (cur.toList.set (i * sz + j) u).toArray, h1, h2, hheap, h3, h4, by simp [h5], ?_, hi, ?_, ?_⟩
  · intro x hx
    simp only [List.take_set] at hx
    rcases List.mem_or_eq_of_mem_set hx with hx | rfl
    · exact h6 x hx
    · exact hu
  · rw [h7]
    exact (chunk_set_same hj).symm
  · intro k x hk hx
    have := h8 k x hk hx
    simp only
    rw [chunk_set_other hj hk]
    exact ok.keep this fun m hm hml => Below.heap_setCell w ⟨g, i * sz + j, none⟩ u m fun e => hF (by rw [show g = m from e.symm]; exact hm)
theorem RowH.fill (h : RowH R sz base e F w v g xs i hc) {x : α} (hx : xs[i]? = some x) (hR : R F w hc x) : OwnS R sz base e F w v xs := by
  obtain ⟨cap, cur, h1, h2, hh, h3, h4, h5, h6, hi, h7, h8⟩ := h
  have hle2 := Nat.mul_le_mul_right sz h3
  refine ⟨cur.toList.take (xs.length * sz), ⟨by rw [List.length_take, show cur.toList.length = cap * sz from by rw [Array.length_toList]; exact h5]; omega, .inr ⟨g, cap, cur, h1, h2, hh, h3, h4, h5, rfl⟩⟩, h6, fun k y hy => ?_⟩
  have hk := (List.getElem?_eq_some_iff.1 hy).1
  rw [chunk_take hk]
  by_cases e : k = i
  · subst e
    rw [hx] at hy
    injection hy with hy
    rw [← hy, ← h7]
    exact hR
  · exact h8 k y e hy
theorem OwnS.wide (ok : RepOk R sz) (h : OwnS R sz base e F w v xs) (hs : ∀ k, F k → k < w.heap.size → F' k) : OwnS R sz base e F' w v xs := by
  obtain ⟨cells, ho, h1, hcs⟩ := h
  exact ⟨cells, ho, h1, fun i x hx => ok.wide (hcs i x hx) hs⟩
end

end Go.Proofs.Ytnigfddanoaonaa

set_option linter.unusedVariables false
set_option linter.unusedSimpArgs false
set_option linter.unnecessarySimpa false
namespace Go.Proofs.Ytnigfddanoaonaa
open Go.RowKit

/-- The block of a slice that starts at its block's first cell. -/
theorem OwnS.hole {α : Type} {R : Rep α} {sz base : Nat} {e : TypeId} {F : Foot} {w : World} {o : Option Addr} {n c : Nat} {xs : List α} (h : OwnS R sz base e F w (.slice o n c) xs) {i : Nat} {x : α} (hx : xs[i]? = some x) :
    ∃ g hc, o = some ⟨g, 0, none⟩ ∧ base ≤ g ∧ g < w.heap.size ∧ RowH R sz base e F w (.slice o n c) g xs i hc ∧ R F w hc x := by
  obtain ⟨g, hc, h1, h2⟩ := h.open_ hx
  obtain ⟨cap, e1, h3, h4, _⟩ := h1.form
  injection e1 with e1 _ _
  exact ⟨g, hc, e1, h3, h4, h1, h2⟩
theorem copy_small {p : Prc} {N : Int} (h : checkErr p N = 0) : p.rules.length ≤ 16 ∧ ∀ row ∈ p.rules, row.length ≤ 8 ∧ ∀ r ∈ row, r.sent.length ≤ 16 := by
  have hz := check_zero h
  refine ⟨by omega, fun row hr => ?_⟩
  obtain ⟨i, hi, rfl⟩ := List.mem_iff_getElem.1 hr
  have h1 := valid_row h (List.getElem?_eq_getElem hi)
  refine ⟨by omega, fun r hr => ?_⟩
  obtain ⟨j, hj, rfl⟩ := List.mem_iff_getElem.1 hr
  exact (valid_rule h (List.getElem?_eq_getElem hi) (List.getElem?_eq_getElem hj)).2.1

set_option maxRecDepth 100000 in
set_option maxHeartbeats 4000000 in
theorem copied_any (procs : List Prc) (oa : Option Addr) (c : Nat) (F : Foot) (w : World) (hs : SliceR prcR 3 F w oa procs) (hc : procs.length ≤ c) (hn : procs.length ≤ 12) {N : Int} (hv : ∀ (i : Nat) (p : Prc), procs[i]? = some p → checkErr p N = 0) :
    Calls Try.prog 48 #[.slice oa procs.length c] w fun e w' => ∃ oa' c', e = .returned (.slice oa' procs.length c') ∧ procs.length ≤ c' ∧ SliceR prcR 3 (fun k => F k ∨ w.heap.size ≤ k) w' oa' procs ∧ Below w.heap.size w w' := by
  have HC0 := hide (cloneP_any procs oa c F w hs hc (by omega))
  have HV := hide hv
  obtain ⟨n, hne⟩ : ∃ n, n = procs.length := ⟨_, rfl⟩
  have HN := hide hne
  rw [← hne] at HC0 hn hc ⊢
  clear hs hv hne
  go_enter Try.func48, Try.ntmps48
  go_wp2_with (go_at_call 66; refine HC0.out.mono ?_; rintro e w1 ⟨v3, rfl, h3, hb3⟩; obtain ⟨o3, c3, hv3, hc3, _⟩ := h3.slice prcR_ok; rw [← HN.out] at hv3 hc3; subst hv3; have HO3 := hide (h3.wide (F' := fun k => (F k ∨ w.heap.size ≤ k) ∧ some k ≠ (Value.slice o3 n c3).ownBlock) prcR_ok fun k hk hkl => ⟨.inl hk.1, fun he => by have := (h3.block k he.symm).1; have := hk.2; omega⟩); have HB3 := hide hb3; clear h3 hb3)
  go_loopw [15] (fun iv wr => ∃ (i : Nat), i ≤ n ∧ iv = .int .i64 i ∧ Hid (OwnS prcR 3 w.heap.size 53 (fun k => (F k ∨ w.heap.size ≤ k) ∧ some k ≠ (Value.slice o3 n c3).ownBlock) wr (.slice o3 n c3) procs) ∧ Hid (Below w.heap.size w wr)) (fun iv _ => n - (intOf iv).toNat)
  case atStart => exact ⟨0, by omega, rfl, HO3, HB3⟩
  case round =>
    obtain ⟨i, hi, rfl, HO, HB⟩ := hrel
    by_cases hlt : i < n
    · have hip : i < procs.length := by have := HN.out; omega
      have hpr := List.getElem?_eq_getElem hip
      obtain ⟨⟨S, Le, rs⟩, hpe⟩ : ∃ p, p = procs[i] := ⟨_, rfl⟩
      rw [← hpe] at hpr
      clear hpe
      obtain ⟨g, hcs, rfl, hg1, hg2, hrow, ⟨oR, cR, rfl, iS, iL, hcr, _, hsr⟩⟩ := HO.out.hole hpr
      have c0 := hrow.cell (j := 0) (by omega)
      have c1 := hrow.cell (j := 1) (by omega)
      have c2 := hrow.cell (j := 2) (by omega)
      simp only [List.getElem?_cons_zero, List.getElem?_cons_succ, Nat.add_zero] at c0 c1 c2
      obtain ⟨hsm1, hsm2⟩ := copy_small (HV.out i _ hpr)
      simp only at hcr hsr hsm1 hsm2 iS iL c0 c1 c2
      obtain ⟨W1, e1⟩ : ∃ W1, wr.alloc (.cells #[.int .i64 S, .int .i64 Le, .slice oR rs.length cR] 53) = W1 := ⟨_, rfl⟩
      have bx1 : Box W1 wr.heap.size [.int .i64 S, .int .i64 Le, .slice oR rs.length cR] 53 := by rw [← e1]; exact Box.new wr [.int .i64 S, .int .i64 Le, .slice oR rs.length cR] 53
      have bb1 := bnew (Below.refl wr.heap.size wr) (.cells #[.int .i64 S, .int .i64 Le, .slice oR rs.length cR] 53)
      rw [e1] at bb1
      have x2 := bx1.cell 2
      simp only [List.getElem?_cons_zero, List.getElem?_cons_succ] at x2
      have hs1 := bb1.size
      have HC1 := hide (cloneT_any rs oR cR _ W1 (hsr.below rowR_ok bb1) hcr (by omega))
      have HPR := hide hpr
      have HBB1 := hide bb1
      have HSM := hide hsm2
      have HRW := hide hrow
      obtain ⟨rn, hrn⟩ : ∃ rn, rn = rs.length := ⟨_, rfl⟩
      have HRN := hide hrn
      rw [← hrn] at HC1 x2 c2 e1 hsm1
      clear hrow hsr hpr hsm2 hcr bb1 hrn
      go_wp2_with (go_at_call 67; refine HC1.out.mono ?_; rintro e w2 ⟨v6, rfl, h6, hb6⟩; obtain ⟨o6, c6, hv6, hc6, _⟩ := h6.slice rowR_ok; rw [← HRN.out] at hv6 hc6; subst hv6; have HO6 := hide (h6.wide (F' := fun k => ((F k ∨ w.heap.size ≤ k) ∧ k ≠ g) ∧ some k ≠ (Value.slice o6 rn c6).ownBlock) rowR_ok fun k hk hkl => ⟨⟨hk.1.1, fun e => hk.1.2 (by rw [e]; rfl)⟩, fun he => by have := (h6.block k he.symm).1; have := hk.2; omega⟩); have HB6 := hide hb6; clear h6 hb6)
      go_loopw [25] (fun iv wx => ∃ (s : Nat), s ≤ rn ∧ iv = .int .i64 s ∧ Hid (OwnS (slcR ruleR 2) 1 W1.heap.size 79 (fun k => ((F k ∨ w.heap.size ≤ k) ∧ k ≠ g) ∧ some k ≠ (Value.slice o6 rn c6).ownBlock) wx (.slice o6 rn c6) rs) ∧ Hid (Below W1.heap.size W1 wx)) (fun iv _ => rn - (intOf iv).toNat)
      case atStart => exact ⟨0, by omega, rfl, HO6, HB6⟩
      case round =>
        obtain ⟨s, hs, rfl, HO6, HB6⟩ := hrel
        by_cases hls : s < rn
        · have hsp : s < rs.length := by have := HRN.out; omega
          have hr := List.getElem?_eq_getElem hsp
          obtain ⟨row, hre⟩ : ∃ r, r = rs[s] := ⟨_, rfl⟩
          rw [← hre] at hr
          clear hre
          obtain ⟨g6, hcs6, rfl, hg61, hg62, hrow6, ⟨oW, cW, rfl, hcw, _, hsw⟩⟩ := HO6.out.hole hr
          obtain ⟨hm1, hm2⟩ := HSM.out row (List.mem_of_getElem? hr)
          have y0 := hrow6.cell (j := 0) (by omega)
          simp only [List.getElem?_cons_zero, List.getElem?_cons_succ, Nat.add_zero, Nat.mul_one] at y0
          obtain ⟨Hs, hHs⟩ : ∃ Hs, Hs = wr.heap.size := ⟨_, rfl⟩
          have hrow7 : RowH (slcR ruleR 2) 1 W1.heap.size 79 (fun k => (((F k ∨ w.heap.size ≤ k) ∧ k ≠ g) ∧ k ≠ g6) ∧ k < Hs) wr (.slice (some ⟨g6, 0, none⟩) rn c6) g6 rs s [.slice oW row.length cW] := hrow6.wide rowR_ok fun k hk hkl => ⟨⟨hk.1, fun e => hk.2 (by rw [e]; rfl)⟩, by omega⟩
          have hsw7 : SliceR ruleR 2 (fun k => (((F k ∨ w.heap.size ≤ k) ∧ k ≠ g) ∧ k ≠ g6) ∧ k < Hs) wr oW row := hsw.wide ruleR_ok (by decide) fun k hk hkl => ⟨⟨hk.1, fun e => hk.2 (by rw [e]; rfl)⟩, by omega⟩
          have HC2 := hide (cloneR_any row oW cW _ wr hsw7 hcw (by omega))
          have HR := hide hr
          have HR7 := hide hrow7
          have HS7 := hide hsw7
          have HM := hide hm2
          have HHS := hide hHs
          obtain ⟨ln, hln⟩ : ∃ ln, ln = row.length := ⟨_, rfl⟩
          have HLN := hide hln
          rw [← hln] at HC2 y0 hm1 HR7
          clear hr hrow6 hrow7 hsw hsw7 hm2 hHs hln hcw
          go_wp2_with (go_at_call 68; refine HC2.out.mono ?_; rintro e w3 ⟨v33, rfl, h33, hb33⟩; obtain ⟨o33, c33, hv33, hc33, _⟩ := h33.slice ruleR_ok; rw [← HLN.out] at hv33 hc33; subst hv33; have hr3 := HR7.out.keep rowR_ok (hb33.block g6 hg62) (SameOn.of_below hb33); have y3 := hr3.cell (j := 0) (by omega); have f3 := hr3.free (s * 1 + 0); simp only [List.getElem?_cons_zero, Nat.add_zero, Nat.mul_one] at y3 f3; have HR8 := hide hr3; have HO33 := hide (h33.wide (F' := fun k => (((F k ∨ w.heap.size ≤ k) ∧ k ≠ g) ∧ k ≠ g6) ∧ some k ≠ (Value.slice o33 ln c33).ownBlock) ruleR_ok fun k hk hkl => ⟨hk.1.1, fun he => by have := (h33.block k he.symm).1; have := hk.2; omega⟩); have HB33 := hide hb33; clear h33 hb33 hr3)
          have hput := HR8.out.put rowR_ok (fun h => h.1.2 rfl) (j := 0) (by omega) (u := .slice o33 ln c33) rfl
          simp only [List.set_cons_zero, Nat.add_zero, Nat.mul_one] at hput
          obtain ⟨W4, e4⟩ : ∃ W4, w3.setCell ⟨g6, s, none⟩ (.slice o33 ln c33) = W4 := ⟨_, rfl⟩
          have hb4 : ∀ k, k ≠ g6 → W4.heap[k]? = w3.heap[k]? := fun k hk => by rw [← e4]; exact Below.heap_setCell _ _ _ k hk
          have hs4 : W4.heap.size = w3.heap.size := by rw [← e4]; show (w3.heap.modify _ _).size = _; rw [Array.size_modify]
          have hB4 : Below W1.heap.size W1 W4 := by
            rw [← e4]
            exact (HB6.out.trans (HB33.out.mono HB6.out.size)).setCell hg61 _
          rw [e4] at hput
          have hz3 := HB33.out.size
          have hz0 := HHS.out
          have HR9 := hide hput
          have HO34 : Hid (OwnS ruleR 2 Hs 78 (fun k => (((F k ∨ w.heap.size ≤ k) ∧ k ≠ g) ∧ k ≠ g6) ∧ some k ≠ (Value.slice o33 ln c33).ownBlock) W4 (.slice o33 ln c33) row) := by
            have h := HO33.out
            rw [← HHS.out] at h
            exact h.keep ruleR_ok (fun k hk => hb4 k fun e => by have := (h.block k hk).1; omega) (fun k hk _ => hb4 k hk.1.2)
          have HS8 : Hid (SliceR ruleR 2 (fun k => (((F k ∨ w.heap.size ≤ k) ∧ k ≠ g) ∧ k ≠ g6) ∧ k < Hs) W4 oW row) := (HS7.out.below ruleR_ok HB33.out).keep ruleR_ok (fun k hk _ => hb4 k hk.1.2)
          have HB9 := hide hB4
          have HZ : Hid (Hs ≤ W4.heap.size) := by show _ ≤ _; omega
          have hg6s : g6 < Hs := by omega
          have hgs : g < Hs := by have := HBB1.out.size; have := HB6.out.size; omega
          have hws : w.heap.size ≤ Hs := by omega
          clear hput hb4 hs4 hB4 hz3 hz0 HR8 HO33 HS7 HB33 y0
          rw [e4]
          go_loopw [37] (fun iv wy => ∃ (a : Nat), a ≤ ln ∧ iv = .int .i64 a ∧ Hid (RowH (slcR ruleR 2) 1 W1.heap.size 79 (fun k => (((F k ∨ w.heap.size ≤ k) ∧ k ≠ g) ∧ k ≠ g6) ∧ k < Hs) wy (.slice (some ⟨g6, 0, none⟩) rn c6) g6 rs s [.slice o33 ln c33]) ∧ Hid (OwnS ruleR 2 Hs 78 (fun k => (((F k ∨ w.heap.size ≤ k) ∧ k ≠ g) ∧ k ≠ g6) ∧ some k ≠ (Value.slice o33 ln c33).ownBlock) wy (.slice o33 ln c33) row) ∧ Hid (SliceR ruleR 2 (fun k => (((F k ∨ w.heap.size ≤ k) ∧ k ≠ g) ∧ k ≠ g6) ∧ k < Hs) wy oW row) ∧ Hid (Below W1.heap.size W1 wy) ∧ Hid (Hs ≤ wy.heap.size)) (fun iv _ => ln - (intOf iv).toNat)
          case atStart => exact ⟨0, by omega, rfl, HR9, HO34, HS8, HB9, HZ⟩
          case round =>
            obtain ⟨a, ha, rfl, HRa, HOa, HSa, HBa, HZa⟩ := hrel
            by_cases hla : a < ln
            · have hap : a < row.length := by have := HLN.out; omega
              obtain ⟨nx, st, _, hru, _, b3, off3, oS, cS, hoW, _, d0, d1, hcs, hcs2, hss⟩ := HSa.out.rule_at hap
              have hm3 := HM.out _ (List.mem_of_getElem? hru)
              simp only at hm3
              obtain ⟨g33, hc33, rfl, hg331, hg332, hrow33, ⟨oQ, cQ, rfl, iN, hcq, _, hsq⟩⟩ := HOa.out.hole hru
              simp only at hrow33 iN hcq hsq
              obtain ⟨W5, e5⟩ : ∃ W5, wr.alloc (.cells #[.int .i64 nx, .slice oS st.length cS] 78) = W5 := ⟨_, rfl⟩
              have bx5 : Box W5 wr.heap.size [.int .i64 nx, .slice oS st.length cS] 78 := by rw [← e5]; exact Box.new wr [.int .i64 nx, .slice oS st.length cS] 78
              have bb5 := bnew (Below.refl wr.heap.size wr) (.cells #[.int .i64 nx, .slice oS st.length cS] 78)
              rw [e5] at bb5
              have x1 := bx5.cell 1
              have y6 := (HRa.out.keep rowR_ok (bb5.block g6 (by have := HZa.out; omega)) (SameOn.of_below bb5)).cell (j := 0) (by omega)
              simp only [List.getElem?_cons_zero, List.getElem?_cons_succ, Nat.add_zero, Nat.mul_one] at x1 y6
              have HCO := hide (cloneO_any st oS cS _ W5.drew ((hss.below outR_ok bb5).keep outR_ok (fun _ _ _ => rfl)) hcs (by omega))
              have HRU := hide hru
              have HR33 := hide hrow33
              have HBX5 := hide bx5
              have HBB5 := hide bb5
              obtain ⟨sn, hsn⟩ : ∃ sn, sn = st.length := ⟨_, rfl⟩
              have HSN := hide hsn
              rw [← hsn] at HCO x1 d1 e5 HBX5
              subst hoW
              clear hru hrow33 hss hsn hcs hcs2 bx5 bb5 hsq hcq
              have hne6 : (⟨g6, s, none⟩ : Addr) ≠ ⟨g33, a * 2 + 1, none⟩ := fun e => by injection e with e _ _; omega
              have hne5 : (⟨wr.heap.size, 1, none⟩ : Addr) ≠ ⟨g33, a * 2 + 1, none⟩ := fun e => by injection e with e _ _; omega
              go_wp2_with fail
              go_region_held3 (fun w' => w'.cell? ⟨g6, s, none⟩ = some (.slice (some ⟨g33, 0, none⟩) ln c33) ∧ w'.cell? ⟨wr.heap.size, 1, none⟩ = some (.slice oS sn cS)) (first | exact ⟨y6, x1⟩ | exact ⟨y7, x7⟩ | exact ⟨(World.cell?_setCell_other _ _ _ _ (Ne.symm hne6)).trans y7, (World.cell?_setCell_other _ _ _ _ (Ne.symm hne5)).trans x7⟩) (first
                | (go_at_call 57; refine HCO.out.mono ?_; rintro e w6 ⟨v49, rfl, h49, hb49⟩; obtain ⟨o49, c49, hv49, hc49, hs49⟩ := h49.slice outR_ok; rw [← HSN.out] at hv49 hc49; subst hv49; have hb6 : Below wr.heap.size wr w6 := HBB5.out.trans ((((Below.refl _ _).drew).trans hb49).mono HBB5.out.size); have y7 := (HRa.out.keep rowR_ok (hb6.block g6 (by have := HZa.out; omega)) (SameOn.of_below hb6)).cell (j := 0) (by omega); have x7 := (HBX5.out.draw.below hb49).cell 1; have hr33 := HR33.out.keep ruleR_ok (hb6.block g33 hg332) (SameOn.of_below hb6); have zz := hr33.cell (j := 1) (by omega); have zf := hr33.free (a * 2 + 1); simp only [List.getElem?_cons_zero, List.getElem?_cons_succ, Nat.add_zero, Nat.mul_one] at y7 x7 zz; have HR34 := hide hr33; have HS49 := hide hs49; have HB6w := hide hb6; clear h49 hb49 hs49 hb6 hr33))
              all_goals
                have hput := HR34.out.put ruleR_ok (fun h => h.2 rfl) (j := 1) (by omega) (u := .slice o49 sn c49) rfl
                simp only [List.set_cons_succ, List.set_cons_zero] at hput
                obtain ⟨W7, e7⟩ : ∃ W7, w6.setCell ⟨g33, a * 2 + 1, none⟩ (.slice o49 sn c49) = W7 := ⟨_, rfl⟩
                have hb7 : ∀ k, k ≠ g33 → W7.heap[k]? = w6.heap[k]? := fun k hk => by rw [← e7]; exact Below.heap_setCell _ _ _ k hk
                have hs7 : W7.heap.size = w6.heap.size := by rw [← e7]; show (w6.heap.modify _ _).size = _; rw [Array.size_modify]
                rw [e7] at hput
                have z1 := HB6w.out.size
                have z2 := HBB5.out.size
                have z3 := HZa.out
                have hs50 : SliceR outR 2 (fun k => (((F k ∨ w.heap.size ≤ k) ∧ k ≠ g) ∧ k ≠ g6) ∧ some k ≠ (Value.slice (some ⟨g33, 0, none⟩) ln c33).ownBlock) W7 o49 st := by
                  refine (HS49.out.wide outR_ok (by decide) (F' := fun k => (((F k ∨ w.heap.size ≤ k) ∧ k ≠ g) ∧ k ≠ g6) ∧ some k ≠ (Value.slice (some ⟨g33, 0, none⟩) ln c33).ownBlock) fun k hk _ => ?_).keep outR_ok fun k hk _ => hb7 k fun e => hk.2 (by rw [e]; rfl)
                  have hz5 : W5.drew.heap.size = W5.heap.size := rfl
                  refine ⟨⟨?_, ?_⟩, fun he => ?_⟩
                  · rcases hk with hk | hk
                    · exact hk.1.1.1
                    · exact ⟨.inr (by omega), by omega⟩
                  · rcases hk with hk | hk
                    · exact hk.1.1.2
                    · omega
                  · have he2 : k = g33 := by simp [Value.ownBlock] at he; exact he
                    rcases hk with hk | hk
                    · have := hk.1.2; omega
                    · omega
                have hm3' : st.length ≤ 16 := hm3
                have hfill := hput.fill HRU.out ⟨o49, c49, by simp [HSN.out], iN, by simp only; have := HSN.out; omega, by simp only; omega, hs50⟩
                have HO8 := hide hfill
                have HR8 : Hid (RowH (slcR ruleR 2) 1 W1.heap.size 79 (fun k => (((F k ∨ w.heap.size ≤ k) ∧ k ≠ g) ∧ k ≠ g6) ∧ k < Hs) W7 (.slice (some ⟨g6, 0, none⟩) rn c6) g6 rs s [.slice (some ⟨g33, 0, none⟩) ln c33]) := HRa.out.keep rowR_ok ((hb7 g6 (by omega)).trans (HB6w.out.block g6 (by omega))) (fun k hk hkl => (hb7 k (by have := hk.2; omega)).trans (HB6w.out.block k hkl))
                have HS9 : Hid (SliceR ruleR 2 (fun k => (((F k ∨ w.heap.size ≤ k) ∧ k ≠ g) ∧ k ≠ g6) ∧ k < Hs) W7 (some ⟨b3, off3, none⟩) row) := HSa.out.keep ruleR_ok (fun k hk hkl => (hb7 k (by have := hk.2; omega)).trans (HB6w.out.block k hkl))
                have HB8 : Hid (Below W1.heap.size W1 W7) := by
                  show Below _ _ _
                  rw [← e7]
                  exact (HBa.out.trans (HB6w.out.mono (by have := HB6.out.size; omega))).setCell (by have := HB6.out.size; have := HHS.out; show W1.heap.size ≤ g33; omega) _
                have HZ8 : Hid (Hs ≤ W7.heap.size) := by show _ ≤ _; omega
                clear hfill hs50 hput hb7 hs7 y7 x7 zz zf HR34 HS49 z1 z2 z3 hm3 hm3'
                rw [e7]
                go_wp2_with fail
                go_roundw
                case rel => exact ⟨a + 1, by omega, by go_num, HR8, HO8, HS9, HB8, HZ8⟩
                case measure => simp [intOf]; omega
            · have hfin : OwnS (slcR ruleR 2) 1 W1.heap.size 79 (fun k => ((F k ∨ w.heap.size ≤ k) ∧ k ≠ g) ∧ some k ≠ (Value.slice (some ⟨g6, 0, none⟩) rn c6).ownBlock) wr (.slice (some ⟨g6, 0, none⟩) rn c6) rs := by
                obtain ⟨oa3, ca3, e3, hcc3, hsl3⟩ := HOa.out.slice ruleR_ok
                injection e3 with q1 q2 q3
                have hown6 : ∀ k, some k = (Value.slice (some ⟨g6, 0, none⟩) rn c6).ownBlock → k = g6 := fun k he => by simp [Value.ownBlock] at he; exact he
                have hw := HRa.out.wide rowR_ok (F' := fun k => ((F k ∨ w.heap.size ≤ k) ∧ k ≠ g) ∧ some k ≠ (Value.slice (some ⟨g6, 0, none⟩) rn c6).ownBlock) (fun k hk _ => ⟨hk.1.1, fun e => hk.1.2 (hown6 k e)⟩)
                refine hw.fill HR.out ⟨o33, c33, by rw [HLN.out], by have := HLN.out; omega, by have := HLN.out; omega, ?_⟩
                rw [q1]
                refine hsl3.wide ruleR_ok (by decide) fun k hk _ => ?_
                rcases hk with hk | hk
                · exact ⟨hk.1.1, fun e => hk.1.2 (hown6 k e)⟩
                · exact ⟨⟨.inr (by omega), by omega⟩, fun e => by have := hown6 k e; omega⟩
              have HFI := hide hfin
              clear hfin
              go_wp2_with fail
              go_roundw
              case rel => exact ⟨s + 1, by omega, by go_num, HFI, HBa⟩
              case measure => simp [intOf]; omega
        · obtain ⟨oa6, ca6, e6', hcc6, hsl6⟩ := HO6.out.slice rowR_ok
          injection e6' with q1 q2 q3
          have hsp : rs.length = rn := HRN.out.symm
          have hBx : Below wr.heap.size wr wr := Below.refl _ _
          have hrx : RowH prcR 3 w.heap.size 53 (fun k => (F k ∨ w.heap.size ≤ k) ∧ some k ≠ (Value.slice (some ⟨g, 0, none⟩) n c3).ownBlock) wr (.slice (some ⟨g, 0, none⟩) n c3) g procs i [.int .i64 S, .int .i64 Le, .slice oR rn cR] := by
            rw [HRN.out]
            exact HRW.out.keep prcR_ok ((HB6.out.block g (by have := HBB1.out.size; omega)).trans (HBB1.out.block g hg2)) (fun k hk hkl => (HB6.out.block k (by have := HBB1.out.size; omega)).trans (HBB1.out.block k hkl))
          have old := hrx.cell (j := 2) (by omega)
          have hf := hrx.free (i * 3 + 2)
          simp only [List.getElem?_cons_zero, List.getElem?_cons_succ] at old
          have hput := hrx.put prcR_ok (fun h => h.2 rfl) (j := 2) (by omega) (u := .slice o6 rn c6) rfl
          have hsl7 : SliceR (slcR ruleR 2) 1 (fun k => (F k ∨ w.heap.size ≤ k) ∧ some k ≠ (Value.slice (some ⟨g, 0, none⟩) n c3).ownBlock) (wr.setCell ⟨g, i * 3 + 2, none⟩ (.slice o6 rn c6)) o6 rs := by
            rw [q1]
            refine (hsl6.wide rowR_ok (by decide) (F' := fun k => (F k ∨ w.heap.size ≤ k) ∧ some k ≠ (Value.slice (some ⟨g, 0, none⟩) n c3).ownBlock) fun k hk _ => ?_).keep rowR_ok fun k hk _ => Below.heap_setCell _ _ _ k fun e => hk.2 (by rw [e]; rfl)
            have hz1 := HBB1.out.size
            have hkg : some k = (Value.slice (some ⟨g, 0, none⟩) n c3).ownBlock → k = g := fun he => by
              simp [Value.ownBlock] at he
              exact he
            rcases hk with hk | hk
            · exact ⟨hk.1.1, fun he => hk.1.2 (hkg he)⟩
            · exact ⟨.inr (by omega), fun he => by have := hkg he; omega⟩
          have hfill := hput.fill HPR.out ⟨o6, c6, by simp [HRN.out], iS, iL, by simp only; omega, by simp only; omega, hsl7⟩
          have hBB : Below w.heap.size w (wr.setCell ⟨g, i * 3 + 2, none⟩ (.slice o6 rn c6)) := by
            have h1 := HB.out.trans ((HBB1.out.mono HB.out.size).trans (HB6.out.mono (by have := HB.out.size; have := HBB1.out.size; omega)))
            exact h1.setCell hg1 _
          have HFI := hide hfill
          have HBB := hide hBB
          clear hfill hBB hput hsl6 hsl7 hrx q1 q2 q3
          go_wp2_with fail
          go_roundw
          case rel => exact ⟨i + 1, by omega, by go_num, HFI, HBB⟩
          case measure => simp [intOf]; omega
    · obtain ⟨oa', c', e', hcc, hsl⟩ := HO.out.slice prcR_ok
      have hsl2 := hsl.wide prcR_ok (by decide) (F' := fun k => F k ∨ w.heap.size ≤ k) (fun k hk _ => by rcases hk with hk | hk; exact hk.1; exact .inr hk)
      injection e' with e1 e2 e3
      go_wp2_with fail
      go_ret
      exact ⟨o3, c3, rfl, by rw [e3]; have := HN.out; omega, by rw [e1]; exact hsl2, HB.out⟩

end Go.Proofs.Ytnigfddanoaonaa

set_option linter.unusedVariables false
set_option linter.unusedSimpArgs false
set_option linter.unnecessarySimpa false
namespace Go.Proofs.Ytnigfddanoaonaa
open Go.RowKit

/-- A table of ints: where its rows lie. -/
def RowsAt (w : World) (oa : Option Addr) (l : List (List Int)) : Prop := ∀ (i : Nat) (row : List Int), l[i]? = some row → ∃ b off oa' c, oa = some ⟨b, off, none⟩ ∧ w.cell? ⟨b, off + i, none⟩ = some (.slice oa' row.length c) ∧ row.length ≤ 9223372036854775807 ∧ SliceR intR 1 All w oa' row
theorem SliceR.rowsAt {F : Foot} {w : World} {oa : Option Addr} {l : List (List Int)} (h : SliceR (slcR intR 1) 1 F w oa l) : RowsAt w oa l := fun i row hi => by
  obtain ⟨l', h1, h2, b, off, oa', c, h3, h4, h5, h6, h7, h8⟩ := h.slc_at (List.getElem?_eq_some_iff.1 hi).1
  rw [h2] at hi
  injection hi with hi
  subst hi
  exact ⟨b, off, oa', c, h3, h5, h7, h8.wide intR_ok (by decide) (fun _ _ _ => trivial)⟩
theorem RowsAt.at {w : World} {oa : Option Addr} {l : List (List Int)} (h : RowsAt w oa l) {k : Nat} (hk : k < l.length) : ∃ row b off oa' c, l[k]? = some row ∧ oa = some ⟨b, off, none⟩ ∧ w.cell? ⟨b, off + k, none⟩ = some (.slice oa' row.length c) ∧ row.length ≤ 9223372036854775807 ∧ SliceR intR 1 All w oa' row := by
  obtain ⟨b, off, oa', c, h1, h2, h3, h4⟩ := h k _ (List.getElem?_eq_getElem hk)
  exact ⟨_, b, off, oa', c, List.getElem?_eq_getElem hk, h1, h2, h3, h4⟩

def nzRow (row : List Int) : Bool := row.any fun x => x != 0
theorem fnRow (row : List Int) (oa : Option Addr) (c : Nat) (F : Foot) (w : World) (hs : SliceR intR 1 F w oa row) (hc2 : row.length ≤ 9223372036854775807) :
    Calls Try.prog 50 #[.slice oa row.length c] w fun e w' => e = .returned (.bool (nzRow row)) ∧ w = w' := by
  have HS := hide hs
  clear hs
  go_enter Try.func50, Try.ntmps50
  go_wp2_with (go_at_call 51; refine (hasNz row oa c F _ HS.out hc2).mono ?_; rintro e w2 ⟨rfl, rfl⟩)
  go_ret
  exact ⟨rfl, rfl⟩
theorem idxRow (l : List (List Int)) (oa : Option Addr) (c : Nat) (w : World) (hs : RowsAt w oa l) (hc2 : l.length ≤ 9223372036854775807) :
    Calls Try.prog 69 #[.slice oa l.length c, .func (.func 50) #[] #[]] w fun e w' => e = .returned (.int .i64 (idxI (l.findIdx? nzRow))) ∧ w = w' := by
  go_enter Try.func69, Try.ntmps69
  go_wp2_with fail
  go_loop [8] (fun i => ∃ k : Nat, k ≤ l.length ∧ i = .int .i64 k ∧ Hid (∀ m x, m < k → l[m]? = some x → nzRow x = false)) (fun i => l.length - (intOf i).toNat)
  case atStart => exact ⟨0, by omega, rfl, fun m x hm _ => absurd hm (Nat.not_lt_zero m)⟩
  case round =>
    obtain ⟨k, hk, rfl, HE⟩ := hrel
    by_cases hlt : k < l.length
    · obtain ⟨row, b, off, oa', c', hxx, rfl, c0, hrl, hrs⟩ := hs.at hlt
      have HX := hide hxx
      have HC := hide (fnRow row oa' c' All w hrs hrl)
      clear hs hxx hrs hrl
      obtain ⟨q, hq⟩ : ∃ q : Bool, q = nzRow row := ⟨_, rfl⟩
      have HQ := hide hq
      rw [← hq] at HC
      cases q
      · clear hq
        go_wp2_with (go_at_call 50; refine HC.out.mono ?_; rintro e w' ⟨rfl, rfl⟩)
        go_round
        case rel => exact ⟨k + 1, by omega, by go_num, idx_more HE.out HX.out HQ.out.symm⟩
        case measure => simp [intOf]; omega
      · clear hq
        go_wp2_with (go_at_call 50; refine HC.out.mono ?_; rintro e w' ⟨rfl, rfl⟩)
        go_ret
        exact ⟨by rw [findIdx_at HE.out HX.out HQ.out.symm]; rfl, rfl⟩
    · go_wp2_with fail
      go_ret
      exact ⟨by rw [findIdx_no HE.out (by omega)]; rfl, rfl⟩
theorem hasRow (l : List (List Int)) (oa : Option Addr) (c : Nat) (w : World) (hs : RowsAt w oa l) (hc2 : l.length ≤ 9223372036854775807) :
    Calls Try.prog 49 #[.slice oa l.length c, .func (.func 50) #[] #[]] w fun e w' => e = .returned (.bool (l.any nzRow)) ∧ w = w' := by
  have ha := @idx_any (List Int) nzRow l
  obtain ⟨r, hr⟩ : ∃ r, r = idxI (l.findIdx? nzRow) := ⟨_, rfl⟩
  have HI := idxRow l oa c w hs hc2
  rw [← hr] at ha HI
  clear hr
  go_enter Try.func49, Try.ntmps49
  go_wp2_with fail
  refine HI.mono ?_
  rintro e w' ⟨rfl, rfl⟩
  go_wp2_with fail
  go_ret
  exact ⟨ret_bool (by rw [← ha]), rfl⟩
theorem waiting_any (l : List (List Int)) (oa : Option Addr) (c : Nat) (w : World) (hs : RowsAt w oa l) (hc2 : l.length ≤ 9223372036854775807) :
    Calls Try.prog 27 #[.slice oa l.length c] w fun e w' => e = .returned (.bool (l.any nzRow)) ∧ w = w' := by
  have HC := hide (hasRow l oa c w hs hc2)
  clear hs
  go_enter Try.func27, Try.ntmps27
  go_wp2_with (go_at_call 49; refine HC.out.mono ?_; rintro e w' ⟨rfl, rfl⟩)
  go_ret
  exact ⟨rfl, rfl⟩

section
variable {B N : Nat} {L : WLay} {oP : Option Addr} {cP : Nat} {oF : Option Addr} {nF cF : Nat} {S : Wr} {W W' : World}
def nzLn (l : Ln) : Bool := !l.q.isEmpty
theorem fnLine (h : Wires B N L oP cP oF nF cF S W) {j : Nat} {l : Ln} (hl : S.ls[j]? = some l) :
    Calls Try.prog 44 #[.pointer (some ⟨L.bl j, 0, none⟩)] W fun e w' => e = .returned (.bool (nzLn l)) ∧ W = w' := by
  have p0 := (h.lin j l hl).cell 0
  obtain ⟨oq, cq, hfv, _, _⟩ := (h.lett j l hl).slice
  simp only [lnC, List.getElem?_cons_zero, List.getElem?_cons_succ] at p0
  rw [hfv] at p0
  clear hfv h hl
  unfold nzLn
  cases hq : l.q with
  | nil =>
    rw [hq] at p0
    simp only [List.length_nil] at p0
    clear hq
    go_enter Try.func44, Try.ntmps44
    go_wp2_with fail
    go_ret
    exact ⟨rfl, rfl⟩
  | cons a r =>
    rw [hq] at p0
    obtain ⟨n, hn⟩ : ∃ n, n = (a :: r).length := ⟨_, rfl⟩
    have hn0 : (0 : Int) < n := by rw [hn]; simp
    rw [← hn] at p0
    clear hq hn
    go_enter Try.func44, Try.ntmps44
    go_wp2_with fail
    go_ret
    exact ⟨ret_bool (by simp; omega), rfl⟩
theorem idxLine (h : Wires B N L oP cP oF nF cF S W) (hc2 : N * N ≤ 9223372036854775807) :
    Calls Try.prog 61 #[slV L.gl (N * N) L.cl, .func (.func 44) #[] #[]] W fun e w' => e = .returned (.int .i64 (idxI (S.ls.findIdx? nzLn))) ∧ W = w' := by
  unfold slV
  obtain ⟨n, hn⟩ : ∃ n, n = N * N := ⟨_, rfl⟩
  have HLT : Hid (∀ j, j < n → W.cell? ⟨L.gl, j, none⟩ = some (.pointer (some ⟨L.bl j, 0, none⟩))) := fun j hj => by
    have lt := h.ltab.cell (i := j) (x := Value.pointer (some ⟨L.bl j, 0, none⟩)) (by rw [hn] at hj; simp [hj])
    simpa only [id_eq] using lt
  have HNL : Hid (S.ls.length = n) := by show _ = _; rw [h.nls, hn]
  have HH := hide h
  rw [← hn] at hc2 ⊢
  clear h hn
  go_enter Try.func61, Try.ntmps61
  go_wp2_with fail
  go_loop [8] (fun i => ∃ k : Nat, k ≤ n ∧ i = .int .i64 k ∧ Hid (∀ m x, m < k → S.ls[m]? = some x → nzLn x = false)) (fun i => n - (intOf i).toNat)
  case atStart => exact ⟨0, by omega, rfl, fun m x hm _ => absurd hm (Nat.not_lt_zero m)⟩
  case round =>
    obtain ⟨k, hk, rfl, HE⟩ := hrel
    by_cases hlt : k < n
    · have c0 := HLT.out k hlt
      have hxx := List.getElem?_eq_getElem (show k < S.ls.length by rw [HNL.out]; exact hlt)
      obtain ⟨l, hle⟩ : ∃ l, l = S.ls[k]'(by rw [HNL.out]; exact hlt) := ⟨_, rfl⟩
      rw [← hle] at hxx
      clear hle
      have HX := hide hxx
      have HC := hide (fnLine HH.out hxx)
      clear hxx
      obtain ⟨q, hq⟩ : ∃ q : Bool, q = nzLn l := ⟨_, rfl⟩
      have HQ := hide hq
      rw [← hq] at HC
      cases q
      · clear hq
        go_wp2_with (go_at_call 44; refine HC.out.mono ?_; rintro e w' ⟨rfl, rfl⟩)
        go_round
        case rel => exact ⟨k + 1, by omega, by go_num, idx_more HE.out HX.out HQ.out.symm⟩
        case measure => simp [intOf]; omega
      · clear hq
        go_wp2_with (go_at_call 44; refine HC.out.mono ?_; rintro e w' ⟨rfl, rfl⟩)
        go_ret
        exact ⟨by rw [findIdx_at HE.out HX.out HQ.out.symm]; rfl, rfl⟩
    · have hlen : S.ls.length ≤ k := by have := HNL.out; omega
      go_wp2_with fail
      go_ret
      exact ⟨by rw [findIdx_no HE.out hlen]; rfl, rfl⟩
theorem hasLine (h : Wires B N L oP cP oF nF cF S W) (hc2 : N * N ≤ 9223372036854775807) :
    Calls Try.prog 43 #[slV L.gl (N * N) L.cl, .func (.func 44) #[] #[]] W fun e w' => e = .returned (.bool (S.ls.any nzLn)) ∧ W = w' := by
  have ha := @idx_any Ln nzLn S.ls
  obtain ⟨r, hr⟩ : ∃ r, r = idxI (S.ls.findIdx? nzLn) := ⟨_, rfl⟩
  have HI := idxLine h hc2
  rw [← hr] at ha HI
  clear hr h
  unfold slV at HI ⊢
  go_enter Try.func43, Try.ntmps43
  go_wp2_with fail
  refine HI.mono ?_
  rintro e w' ⟨rfl, rfl⟩
  go_wp2_with fail
  go_ret
  exact ⟨ret_bool (by rw [← ha]), rfl⟩

theorem Wires.rowsW (h : Wires B N L oP cP oF nF cF S W) (hb : ∀ (p : Nat) (row : List Int), S.wt[p]? = some row → row.length ≤ 9223372036854775807 ∧ ∀ y ∈ row, I64 y) : RowsAt W (some ⟨L.gw, 0, none⟩) S.wt := fun i row hi => by
  have hiN : i < N := by have := (List.getElem?_eq_some_iff.1 hi).1; have := h.nwt; omega
  have t0 := h.wtab.cell (i := i) (x := slV (L.bw i) row.length (L.kw i)) (by simp [hiN, hi])
  simp only [id_eq] at t0
  unfold slV at t0
  obtain ⟨h1, h2⟩ := hb i row hi
  exact ⟨L.gw, 0, some ⟨L.bw i, 0, none⟩, L.kw i, rfl, by simpa using t0, h1, (h.wrow i row hi).ints h2 trivial⟩
set_option maxHeartbeats 2000000 in
theorem busy_any (h : Wires B N L oP cP oF nF cF S W) (hN : N ≤ 12) (hb : ∀ (p : Nat) (row : List Int), S.wt[p]? = some row → row.length ≤ 9223372036854775807 ∧ ∀ y ∈ row, I64 y) :
    Calls Try.prog 24 #[.pointer (some ⟨L.p, 0, none⟩)] W fun e w' => e = .returned (.bool (busyS S)) ∧ W = w' := by
  have hNN : N * N ≤ 144 := Nat.le_trans (Nat.mul_le_mul hN hN) (by omega)
  obtain ⟨_, _, c2, _, c4, _, c6, _, _, _⟩ := h.cells
  obtain ⟨ofl, cfl, hfv, _, _⟩ := h.fly.slice (arr_ok _)
  rw [hfv] at c6
  have HL := hide (hasLine h (by omega))
  have hwl : S.wt.length = N := h.nwt
  have HW := hide (waiting_any S.wt (some ⟨L.gw, 0, none⟩) L.cw W (h.rowsW hb) (by omega))
  have HE : Hid (busyS S = ((!S.fl.isEmpty) || S.ls.any nzLn || S.wt.any nzRow)) := rfl
  rw [hwl] at HW
  unfold slV at c2 c4 HL
  obtain ⟨nn, hnn⟩ : ∃ nn, nn = N * N := ⟨_, rfl⟩
  rw [← hnn] at c4 HL
  clear hfv h hb hwl hnn hNN
  obtain ⟨nf, hnf⟩ : ∃ nf, nf = S.fl.length := ⟨_, rfl⟩
  rw [← hnf] at c6
  obtain ⟨b1, hb1⟩ : ∃ b, b = S.ls.any nzLn := ⟨_, rfl⟩
  obtain ⟨b2, hb2⟩ : ∃ b, b = S.wt.any nzRow := ⟨_, rfl⟩
  rw [← hb1] at HL HE
  rw [← hb2] at HW HE
  clear hb1 hb2
  cases hf : S.fl with
  | cons a r =>
    have h0 : (0 : Int) < nf := by rw [hnf, hf]; simp
    have HR : Hid (busyS S = true) := by show _ = _; rw [HE.out, hf]; rfl
    clear hf hnf
    go_enter Try.func24, Try.ntmps24
    go_wp2_with fail
    go_ret
    exact ⟨ret_bool (by rw [HR.out]), rfl⟩
  | nil =>
    have h0 : nf = 0 := by rw [hnf, hf]; rfl
    have HR : Hid (busyS S = (b1 || b2)) := by show _ = _; rw [HE.out, hf]; rfl
    subst h0
    clear hf hnf
    cases b1
    · go_enter Try.func24, Try.ntmps24
      go_wp2_with (first
        | (go_at_call 43; refine HL.out.mono ?_; rintro e w' ⟨rfl, rfl⟩)
        | (go_at_call 27; refine HW.out.mono ?_; rintro e w' ⟨rfl, rfl⟩))
      go_ret
      exact ⟨ret_bool (by rw [HR.out]; rfl), rfl⟩
    · go_enter Try.func24, Try.ntmps24
      go_wp2_with (first
        | (go_at_call 43; refine HL.out.mono ?_; rintro e w' ⟨rfl, rfl⟩)
        | (go_at_call 27; refine HW.out.mono ?_; rintro e w' ⟨rfl, rfl⟩))
      go_ret
      exact ⟨ret_bool (by rw [HR.out]; rfl), rfl⟩
end

end Go.Proofs.Ytnigfddanoaonaa

set_option linter.unusedVariables false
set_option linter.unusedSimpArgs false
set_option linter.unnecessarySimpa false
namespace Go.Proofs.Ytnigfddanoaonaa
open Go.RowKit

structure Snp where
  net : Nwk
  counts : List (List Int)
  ticks : Int
  sent : Int
  flying : Int
  queued : Int
def queuedS : List Ln → Nat
  | [] => 0
  | l :: r => l.q.length + queuedS r
def seenS (procs : List Prc) (S : Wr) : Snp := ⟨⟨procs, S.st, S.wt⟩, S.ct, (S.tk : Nat), (S.se : Nat), (S.fl.length : Nat), (queuedS S.ls : Nat)⟩
def waitingS (l : List (List Int)) : Bool := l.any fun row => row.any fun n => n != 0
def quietS (s : Snp) : Bool := (!waitingS s.net.waiting) && (s.flying == 0) && (s.queued == 0)

theorem queuedS_zero : ∀ l : List Ln, (((queuedS l : Nat) : Int) == 0) = !(l.any fun l => !l.q.isEmpty)
  | [] => rfl
  | x :: r => by
    have ih := queuedS_zero r
    rw [List.any_cons, Bool.not_or, ← ih]
    show (((x.q.length + queuedS r : Nat) : Int) == 0) = _
    cases hx : x.q with
    | nil => simp
    | cons a t =>
      simp
      omega
theorem quietS_seen (procs : List Prc) (S : Wr) : quietS (seenS procs S) = !busyS S := by
  unfold quietS seenS busyS
  simp only
  rw [queuedS_zero]
  have h1 : (((S.fl.length : Nat) : Int) == 0) = S.fl.isEmpty := by
    cases S.fl with
    | nil => rfl
    | cons a t => simp; omega
  rw [h1]
  show (!waitingS S.wt && S.fl.isEmpty && !(S.ls.any fun l => !l.q.isEmpty)) = !(!S.fl.isEmpty || S.ls.any (fun l => !l.q.isEmpty) || waitingS S.wt)
  cases waitingS S.wt <;> cases S.fl.isEmpty <;> cases (S.ls.any fun l => !l.q.isEmpty) <;> rfl

end Go.Proofs.Ytnigfddanoaonaa

set_option linter.unusedVariables false
set_option linter.unusedSimpArgs false
set_option linter.unnecessarySimpa false
namespace Go.Proofs.Ytnigfddanoaonaa
open Go.RowKit

section
variable {B N : Nat} {L : WLay} {oP : Option Addr} {cP : Nat} {oF : Option Addr} {nF cF : Nat} {S : Wr} {W W' : World}

theorem queued_take {l : List Ln} {k : Nat} {x : Ln} (hx : l[k]? = some x) : queuedS (l.take (k + 1)) = queuedS (l.take k) + x.q.length := by
  induction l generalizing k with
  | nil => simp at hx
  | cons a r ih =>
    cases k with
    | zero =>
      simp at hx
      subst hx
      simp [queuedS]
    | succ k =>
      have := ih (k := k) (by simpa using hx)
      simp only [List.take_succ_cons, queuedS, this]
      omega

set_option maxRecDepth 100000 in
set_option maxHeartbeats 4000000 in
theorem seen_any (h : Wires B N L oP cP oF nF cF S W) {x : Nwk} (hx : Right x) (hN : N = x.procs.length) {G : Foot} (hP : SliceR prcR 3 G W oP x.procs) (hG : ∀ k, G k → k < B) (hcP : N ≤ cP)
    (hq : queuedS S.ls ≤ 1000000000000) (hB : B ≤ W.heap.size) :
    Calls Try.prog 26 #[.pointer (some ⟨L.p, 0, none⟩)] W fun e w' => ∃ oQ cQ, e = .returned (.agg #[.slice oQ N cQ, slV L.gs N L.cs, slV L.gw N L.cw, slV L.gc N L.cc, .int .i64 S.tk, .int .i64 S.se, .int .i64 S.fl.length, .int .i64 (queuedS S.ls)]) ∧ N ≤ cQ ∧ SliceR prcR 3 (fun k => G k ∨ W.heap.size ≤ k) w' oQ x.procs ∧ Below W.heap.size W w' := by
  obtain ⟨c0, c1, c2, c3, c4, c5, c6, c7, c8, c9⟩ := h.cells
  obtain ⟨ofl, cfl, hfv, _, _⟩ := h.fly.slice (arr_ok _)
  rw [hfv] at c6
  unfold slV at c1 c2 c3 c4 ⊢
  obtain ⟨nfl, hnfl⟩ : ∃ n, n = S.fl.length := ⟨_, rfl⟩
  rw [← hnfl] at c6 ⊢
  have HH := hide h
  have HX := hide hx
  have HP := hide hP
  have HN := hide hN
  obtain ⟨nn, hnn⟩ : ∃ nn, nn = N * N := ⟨_, rfl⟩
  have HNN := hide hnn
  have hnn2 : nn ≤ 144 := by
    have h12 : N ≤ 12 := by have := hx.n.2; omega
    rw [hnn]; exact Nat.le_trans (Nat.mul_le_mul h12 h12) (by omega)
  rw [← hnn] at c4
  obtain ⟨W1, e1⟩ : ∃ W1, W.alloc (.cells #[.slice none 0 0, .slice none 0 0, .slice none 0 0, .slice none 0 0, .int .i64 0, .int .i64 0, .int .i64 0, .int .i64 0] 33) = W1 := ⟨_, rfl⟩
  have bx1 : Box W1 W.heap.size [.slice none 0 0, .slice none 0 0, .slice none 0 0, .slice none 0 0, .int .i64 0, .int .i64 0, .int .i64 0, .int .i64 0] 33 := by rw [← e1]; exact Box.new W [.slice none 0 0, .slice none 0 0, .slice none 0 0, .slice none 0 0, .int .i64 0, .int .i64 0, .int .i64 0, .int .i64 0] 33
  have bb1 := bnew (Below.refl W.heap.size W) (.cells #[.slice none 0 0, .slice none 0 0, .slice none 0 0, .slice none 0 0, .int .i64 0, .int .i64 0, .int .i64 0, .int .i64 0] 33)
  rw [e1] at bb1
  have d0 := (bb1.cell (World.block_lt_of_cell? _ _ c0)).trans c0
  have d1 := (bb1.cell (World.block_lt_of_cell? _ _ c1)).trans c1
  have d2 := (bb1.cell (World.block_lt_of_cell? _ _ c2)).trans c2
  have d3 := (bb1.cell (World.block_lt_of_cell? _ _ c3)).trans c3
  have d4 := (bb1.cell (World.block_lt_of_cell? _ _ c4)).trans c4
  have d6 := (bb1.cell (World.block_lt_of_cell? _ _ c6)).trans c6
  have d7 := (bb1.cell (World.block_lt_of_cell? _ _ c7)).trans c7
  have d8 := (bb1.cell (World.block_lt_of_cell? _ _ c8)).trans c8
  have l0 := World.block_lt_of_cell? _ _ d0
  simp only at l0
  have HBX1 := hide bx1
  have HBB1 := hide bb1
  clear bx1 bb1 c0 c1 c2 c3 c4 c5 c6 c7 c8 c9
  clear h hx hP hN hfv hnfl hnn
  go_enter Try.func26, Try.ntmps26
  go_wp2_with fail
  go_region
  obtain ⟨W2, e2⟩ : ∃ W2, (W1.alloc (.cells #[.slice oP N cP, .slice (some ⟨L.gs, 0, none⟩) N L.cs, .slice (some ⟨L.gw, 0, none⟩) N L.cw, .slice (some ⟨L.gc, 0, none⟩) N L.cc, .int .i64 (S.tk : Nat), .int .i64 (S.se : Nat), .int .i64 (nfl : Nat), .int .i64 0] 33)).drew = W2 := ⟨_, rfl⟩
  have bx2 : Box W2 W1.heap.size [.slice oP N cP, .slice (some ⟨L.gs, 0, none⟩) N L.cs, .slice (some ⟨L.gw, 0, none⟩) N L.cw, .slice (some ⟨L.gc, 0, none⟩) N L.cc, .int .i64 (S.tk : Nat), .int .i64 (S.se : Nat), .int .i64 (nfl : Nat), .int .i64 0] 33 := by rw [← e2]; exact (Box.new W1 [.slice oP N cP, .slice (some ⟨L.gs, 0, none⟩) N L.cs, .slice (some ⟨L.gw, 0, none⟩) N L.cw, .slice (some ⟨L.gc, 0, none⟩) N L.cc, .int .i64 (S.tk : Nat), .int .i64 (S.se : Nat), .int .i64 (nfl : Nat), .int .i64 0] 33).draw
  have bb2 : Below W1.heap.size W1 W2 := by rw [← e2]; exact (bnew (Below.refl _ _) _).drew
  have d4 := (bb2.cell (World.block_lt_of_cell? _ _ d4)).trans d4
  have HBB2 := hide bb2
  have HBX2 := hide bx2
  have hs1 := HBB1.out.size
  rw [e2]
  clear bx2 bb2 d0 d1 d2 d3 d6 d7 d8
  go_wp2_with fail
  go_loopw [33] (fun iv wr => ∃ k : Nat, k ≤ nn ∧ iv = .int .i64 k ∧ Hid (Box wr W1.heap.size [.slice oP N cP, .slice (some ⟨L.gs, 0, none⟩) N L.cs, .slice (some ⟨L.gw, 0, none⟩) N L.cw, .slice (some ⟨L.gc, 0, none⟩) N L.cc, .int .i64 (S.tk : Nat), .int .i64 (S.se : Nat), .int .i64 (nfl : Nat), .int .i64 (queuedS (S.ls.take k) : Nat)] 33) ∧ Hid (Below W1.heap.size W1 wr)) (fun iv _ => nn - (intOf iv).toNat)
  case atStart => exact ⟨0, by omega, rfl, HBX2, HBB2⟩
  case round =>
    obtain ⟨k, hk, rfl, HBX, HBB⟩ := hrel
    have HHr := hide ((HH.out.below HBB1.out).below HBB.out)
    by_cases hlt : k < nn
    · have hkN : k < N * N := by have := HNN.out; omega
      have hkl : k < S.ls.length := by rw [HH.out.nls]; exact hkN
      have hl := List.getElem?_eq_getElem hkl
      obtain ⟨l, hle⟩ : ∃ l, l = S.ls[k] := ⟨_, rfl⟩
      rw [← hle] at hl
      clear hle
      have lt := HHr.out.ltab.cell (i := k) (x := Value.pointer (some ⟨L.bl k, 0, none⟩)) (by simp [hkN])
      have p0 := (HHr.out.lin k l hl).cell 0
      obtain ⟨oq, cq, hfv, _, _⟩ := (HHr.out.lett k l hl).slice
      have x7 := HBX.out.cell 7
      have xf := HBX.out.free 7
      simp only [id_eq, lnC, List.getElem?_cons_zero, List.getElem?_cons_succ] at lt p0 x7
      rw [hfv] at p0
      have hqt := queued_take hl
      obtain ⟨ql, hql⟩ : ∃ ql, ql = l.q.length := ⟨_, rfl⟩
      obtain ⟨q0, hq0⟩ : ∃ q0, q0 = queuedS (S.ls.take k) := ⟨_, rfl⟩
      have hqm : q0 + ql ≤ 1000000000000 := by
        have hgen : ∀ (l : List Ln) (j : Nat), queuedS (l.take j) ≤ queuedS l := by
          intro l
          induction l with
          | nil => intro j; simp [queuedS]
          | cons a r ih =>
            intro j
            cases j with
            | zero => simp [queuedS]
            | succ j => simp only [List.take_succ_cons, queuedS]; have := ih j; omega
        have := hgen S.ls (k + 1)
        omega
      rw [← hql] at p0 hqt
      rw [← hq0] at x7 hqt
      have hwr : IntKind.i64.wrap ((q0 : Int) + (ql : Int)) = (q0 : Int) + (ql : Int) := by unfold IntKind.wrap; simp [IntKind.signed, IntKind.bits]; omega
      have HQT := hide hqt
      clear hl hfv hql hqt hq0
      go_wp2_with fail
      go_region
      all_goals
        have hput : Box (wr.setCell ⟨W1.heap.size, 7, none⟩ (.int .i64 ((q0 : Int) + (ql : Int)))).drew W1.heap.size [.slice oP N cP, .slice (some ⟨L.gs, 0, none⟩) N L.cs, .slice (some ⟨L.gw, 0, none⟩) N L.cw, .slice (some ⟨L.gc, 0, none⟩) N L.cc, .int .i64 (S.tk : Nat), .int .i64 (S.se : Nat), .int .i64 (nfl : Nat), .int .i64 (queuedS (S.ls.take (k + 1)) : Nat)] 33 := by
          rw [HQT.out]
          exact (HBX.out.put 7 (.int .i64 ((q0 : Int) + (ql : Int)))).draw
        have hbel : Below W1.heap.size W1 (wr.setCell ⟨W1.heap.size, 7, none⟩ (.int .i64 ((q0 : Int) + (ql : Int)))).drew := (HBB.out.setCell (Nat.le_refl _) _).drew
        have HPU := hide hput
        have HBE := hide hbel
        clear hput hbel
        go_wp2_with fail
        go_roundw
        case rel => exact ⟨k + 1, by omega, by go_num, HPU, HBE⟩
        case measure => simp [intOf]; omega
    · have hfull : S.ls.take k = S.ls := List.take_of_length_le (by rw [HH.out.nls]; have := HNN.out; omega)
      rw [hfull] at HBX
      obtain ⟨c0, _⟩ := HHr.out.cells
      have hP3 : SliceR prcR 3 G wr oP x.procs := HP.out.keep prcR_ok fun q hq hql => (HBB.out.block q (by have := hG q hq; omega)).trans (HBB1.out.block q hql)
      have HC := hide (copied_any x.procs oP cP _ wr hP3 (by rw [← HN.out]; exact hcP) HX.out.n.2 HX.out.proc)
      rw [← HN.out] at HC
      obtain ⟨qs, hqs⟩ : ∃ qs, qs = queuedS S.ls := ⟨_, rfl⟩
      have HQS := hide hqs
      rw [← hqs] at HBX
      clear hfull hP3 hqs d4
      go_wp2_with (go_at_call 48; refine HC.out.mono ?_; rintro e w3 ⟨oQ, cQ, rfl, hcQ, hsQ, hb3⟩; have hbx3 := HBX.out.below hb3; have x0 := hbx3.cell 0; have xf := hbx3.free 0; simp only [List.getElem?_cons_zero] at x0; have hput := hbx3.put 0 (.slice oQ N cQ); have hbel : Below W1.heap.size W1 (w3.setCell ⟨W1.heap.size, 0, none⟩ (.slice oQ N cQ)) := (HBB.out.trans (hb3.mono HBB.out.size)).setCell (Nat.le_refl _) _; have HSQ : Hid (SliceR prcR 3 (fun k => G k ∨ wr.heap.size ≤ k) w3 oQ x.procs) := hsQ; obtain ⟨W4, e4⟩ : ∃ W4, w3.setCell ⟨W1.heap.size, 0, none⟩ (.slice oQ N cQ) = W4 := ⟨_, rfl⟩; rw [e4] at hput hbel; have y0 := hput.cell 0; have y1 := hput.cell 1; have y2 := hput.cell 2; have y3 := hput.cell 3; have y4 := hput.cell 4; have y5 := hput.cell 5; have y6 := hput.cell 6; have y7 := hput.cell 7; simp only [List.set_cons_zero, List.getElem?_cons_zero, List.getElem?_cons_succ] at y0 y1 y2 y3 y4 y5 y6 y7; have hres := HBX1.out.below hbel; have r0 := hres.cell 0; have r1 := hres.cell 1; have r2 := hres.cell 2; have r3 := hres.cell 3; have r4 := hres.cell 4; have r5 := hres.cell 5; have r6 := hres.cell 6; have r7 := hres.cell 7; have rf := hres.free; simp only [List.getElem?_cons_zero, List.getElem?_cons_succ] at r0 r1 r2 r3 r4 r5 r6 r7; have HRS := hide hres; have HPU := hide hput; have HBE := hide hbel; clear hres hput hbel hb3 hsQ hbx3)
      have hfin := (((((((HRS.out.put 0 (.slice oQ N cQ)).put 1 (.slice (some ⟨L.gs, 0, none⟩) N L.cs)).put 2 (.slice (some ⟨L.gw, 0, none⟩) N L.cw)).put 3 (.slice (some ⟨L.gc, 0, none⟩) N L.cc)).put 4 (.int .i64 (S.tk : Nat))).put 5 (.int .i64 (S.se : Nat))).put 6 (.int .i64 (nfl : Nat))).put 7 (.int .i64 (qs : Nat))
      simp only [List.set_cons_zero, List.set_cons_succ] at hfin
      obtain ⟨W5, e5⟩ : ∃ W5, (((((((W4.setCell ⟨W.heap.size, 0, none⟩ (.slice oQ N cQ)).setCell ⟨W.heap.size, 1, none⟩ (.slice (some ⟨L.gs, 0, none⟩) N L.cs)).setCell ⟨W.heap.size, 2, none⟩ (.slice (some ⟨L.gw, 0, none⟩) N L.cw)).setCell ⟨W.heap.size, 3, none⟩ (.slice (some ⟨L.gc, 0, none⟩) N L.cc)).setCell ⟨W.heap.size, 4, none⟩ (.int .i64 (S.tk : Nat))).setCell ⟨W.heap.size, 5, none⟩ (.int .i64 (S.se : Nat))).setCell ⟨W.heap.size, 6, none⟩ (.int .i64 (nfl : Nat))).setCell ⟨W.heap.size, 7, none⟩ (.int .i64 (qs : Nat)) = W5 := ⟨_, rfl⟩
      have hk5 : ∀ k, k ≠ W.heap.size → W5.heap[k]? = W4.heap[k]? := fun k hk => by
        rw [← e5]
        rw [Below.heap_setCell _ _ _ k hk, Below.heap_setCell _ _ _ k hk, Below.heap_setCell _ _ _ k hk, Below.heap_setCell _ _ _ k hk, Below.heap_setCell _ _ _ k hk, Below.heap_setCell _ _ _ k hk, Below.heap_setCell _ _ _ k hk, Below.heap_setCell _ _ _ k hk]
      have hB5 : Below W.heap.size W W5 := by
        rw [← e5]
        exact ((((((((HBB1.out.trans (HBE.out.mono hs1)).setCell (Nat.le_refl _) _).setCell (Nat.le_refl _) _).setCell (Nat.le_refl _) _).setCell (Nat.le_refl _) _).setCell (Nat.le_refl _) _).setCell (Nat.le_refl _) _).setCell (Nat.le_refl _) _).setCell (Nat.le_refl _) _
      rw [e5] at hfin
      have hsz1 := HBB.out.size
      have hlt1 : W.heap.size < W1.heap.size := HBX1.out.lt
      have hlt2 : W1.heap.size < wr.heap.size := HBX.out.lt
      have hsQ5 : SliceR prcR 3 (fun k => G k ∨ W.heap.size ≤ k) W5 oQ x.procs := (HSQ.out.keep prcR_ok (w' := W5) fun k hk _ => by
        have hne1 : k ≠ W.heap.size := by
          rcases hk with hk | hk
          · have := hG k hk; omega
          · omega
        have hne2 : k ≠ W1.heap.size := by
          rcases hk with hk | hk
          · have := hG k hk; omega
          · omega
        rw [hk5 k hne1, ← e4, Below.heap_setCell _ _ _ k hne2]).wide prcR_ok (by decide) (fun k hk _ => hk.imp id fun h => by omega)
      rw [e5]
      refine bodyPost_ret (results_cell_row rfl _ _ W.heap.size 33 _ (0, 0) _ rfl hfin Try.underlying33 rfl (by kernel_rfl)) rfl ?_
      exact ⟨oQ, cQ, by rw [HQS.out], hcQ, hsQ5, hB5⟩
end

end Go.Proofs.Ytnigfddanoaonaa

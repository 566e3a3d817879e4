/-
  Solve of the dollar game returns what the reference returns, which tries all scripts, for all graphs, divisors and limits.
  DollarSolves: the walk.
  ref08.FewRanks and ref43.Small.
  The reference's Solve.
  The reference's search for a winning script, and its Solve.
  The reference's Wins: borrowing, one vertex in debt after the other.
  Borrowing decides who wins, in plain Lean: the greedy game, and the reference's Wins.
  Solve against the reference's search, in plain Lean.
  The reference's Wins and Verify.
  The dollar game: Verify.
  The dollar game's reference: totals, debts paid, the first debtor.
  ref18.Moved.
-/
import Derived.Test.YtpgopmmobbemcaaGreatDs5
import Derived.Test.YtpgopmmobbemcaaGreatRows

set_option linter.unusedVariables false
set_option linter.unusedSimpArgs false
set_option linter.unnecessarySimpa false
namespace Go.Proofs.YtpgopmmobbemcaaGreat
open Go.RowKit

theorem i64_sam2 {n : Int} (h : -9223372036854775808 ≤ n ∧ n ≤ 9223372036854775807) : IntKind.i64.wrap n = n := by
  simp only [IntKind.wrap, IntKind.signed, IntKind.bits]
  simp
  omega
/-- What reaches v from the first u vertices. -/
def mvU (es : List Edg) (s : List Int) (v : Nat) : Nat → Int
  | 0 => 0
  | u + 1 => mvU es s v u + if v = u then 0 else betw es v u * (s.getD u 0 - s.getD v 0)
theorem mvU_bound {es : List Edg} {s : List Int} (hm : ∀ x ∈ es, 0 ≤ x.m ∧ x.m ≤ 50) (hs : ∀ u : Nat, -1048576 ≤ s.getD u 0 ∧ s.getD u 0 ≤ 1048576) (v : Nat) : ∀ u : Nat, -(104857600 * (u : Int)) ≤ mvU es s v u ∧ mvU es s v u ≤ 104857600 * (u : Int)
  | 0 => by simp [mvU]
  | u + 1 => by
    have ih := mvU_bound hm hs v u
    have h1 := hs u
    have h2 := hs v
    have h3 := flow_bound (m := betw es v u) (betw_range hm v u) (by have := hs u; omega : -2097152 ≤ s.getD u 0 ∧ s.getD u 0 ≤ 2097152) (by have := hs v; omega : -2097152 ≤ s.getD v 0 ∧ s.getD v 0 ≤ 2097152)
    unfold mvU
    split
    · push_cast; omega
    · have h4 : -104857600 ≤ betw es v u * (s.getD u 0 - s.getD v 0) ∧ betw es v u * (s.getD u 0 - s.getD v 0) ≤ 104857600 := by
        have hb := betw_range hm (v : Int) (u : Int)
        constructor
        · have := Int.mul_le_mul_of_nonneg_left (show -2097152 ≤ s.getD u 0 - s.getD v 0 by omega) hb.1
          have h5 : betw es v u * (-2097152) ≥ 50 * (-2097152) := by omega
          omega
        · have := Int.mul_le_mul_of_nonneg_left (show s.getD u 0 - s.getD v 0 ≤ 2097152 by omega) hb.1
          have h5 : betw es v u * 2097152 ≤ 50 * 2097152 := by omega
          omega
      push_cast
      omega
/-- The divisor under way: row v, up to u. -/
def mvP (es : List Edg) (s : List Int) (D : Nat → Int) (N v u : Nat) : Nat → Int := fun i => if i < v then D i + mvU es s i N else if i = v then D i + mvU es s i u else D i
theorem mvP_next (es : List Edg) (s : List Int) (D : Nat → Int) (N v : Nat) : ∀ i, mvP es s D N v N i = mvP es s D N (v + 1) 0 i := fun i => by
  unfold mvP
  by_cases h1 : i < v
  · rw [if_pos h1, if_pos (by omega)]
  · rw [if_neg h1]
    by_cases h2 : i = v
    · rw [if_pos h2, if_pos (by omega)]
    · rw [if_neg h2, if_neg (by omega)]
      by_cases h3 : i = v + 1
      · rw [if_pos h3]; simp [mvU]
      · rw [if_neg h3]
theorem mvP_same {es : List Edg} {s : List Int} {D : Nat → Int} {N v u : Nat} (h : v = u) : mvP es s D N v (u + 1) = mvP es s D N v u := by
  funext i
  unfold mvP
  by_cases h1 : i < v
  · rw [if_pos h1, if_pos h1]
  · rw [if_neg h1, if_neg h1]
    by_cases h2 : i = v
    · rw [if_pos h2, if_pos h2]
      show D i + (mvU es s i u + if i = u then 0 else _) = D i + mvU es s i u
      rw [if_pos (by omega)]
      omega
    · rw [if_neg h2, if_neg h2]
theorem mvP_set {es : List Edg} {s : List Int} {D : Nat → Int} {N v u : Nat} (h : v ≠ u) : mvP es s D N v (u + 1) = updF (mvP es s D N v u) v (mvP es s D N v u v + betw es v u * (s.getD u 0 - s.getD v 0)) := by
  funext i
  unfold updF
  by_cases e : i = v
  · subst e
    rw [if_pos rfl]
    unfold mvP
    rw [if_neg (by omega), if_pos rfl, if_neg (by omega), if_pos rfl]
    show D i + (mvU es s i u + _) = _
    rw [if_neg h]
    omega
  · rw [if_neg e]
    unfold mvP
    by_cases h1 : i < v
    · rw [if_pos h1, if_pos h1]
    · rw [if_neg h1, if_neg h1, if_neg e, if_neg e]
set_option maxRecDepth 100000 in
set_option maxHeartbeats 8000000 in
theorem rmoved_any {N : Nat} {es : List Edg} (hok : EOk N es) (h12 : 1 ≤ N ∧ N ≤ 12) (oe : Option Addr) (c : Nat) (F : Foot) (w : World) (hs : SliceR edgR 3 F w oe es) (hc : es.length ≤ c) (d : List Int) (od : Option Addr) (cd : Nat) (G : Foot) (hd : SliceR intR 1 G w od d) (hdc : N ≤ cd) (hdN : d.length = N)
    (s : List Int) (os : Option Addr) (cs : Nat) (S : Foot) (hS : SliceR intR 1 S w os s) (hsN : s.length = N) (hsc : N ≤ cs) (hsb : Hid (∀ y ∈ s, -1048576 ≤ y ∧ y ≤ 1048576)) (hdb : Hid (∀ y ∈ d, -1048576 ≤ y ∧ y ≤ 1048576)) :
    Calls Tryz.prog 76 #[.agg #[.int .i64 N, .slice oe es.length c], .slice od N cd, .slice os N cs] w fun e w' =>
      ∃ g cap rest, e = .returned (.slice (some ⟨g, 0, none⟩) N cap) ∧ N ≤ cap ∧ Row1 (Value.int .i64) w' g 3 (lst N fun i => d.getD i 0 + mvU es s i N) rest ∧ Below w.heap.size w w' := by
  obtain ⟨_, _, _, _, bd, ofd, hod, _, _⟩ := hd.int_at (i := 0) (by omega)
  subst hod
  obtain ⟨D, hD⟩ : ∃ D : Nat → Int, D = fun i => d.getD i 0 := ⟨_, rfl⟩
  have HDE : Hid (D = fun i => d.getD i 0) := hD
  have HDL : Hid (d = lst N (mvP es s D N 0 0)) := by
    show _ = _
    apply List.ext_getElem?
    intro i
    by_cases hi : i < N
    · rw [lst_get _ hi, List.getElem?_eq_getElem (by omega)]
      unfold mvP
      have e : D i = d[i]'(by omega) := by rw [hD]; show d.getD i 0 = _; rw [List.getD_eq_getElem?_getD, List.getElem?_eq_getElem (by omega)]; rfl
      by_cases h0 : i = 0
      · rw [if_neg (by omega), if_pos h0, e]; simp [mvU]
      · rw [if_neg (by omega), if_neg h0, e]
    · rw [List.getElem?_eq_none (by omega), List.getElem?_eq_none (by rw [lst_len]; omega)]
  have hm : ∀ x ∈ es, 0 ≤ x.m ∧ x.m ≤ 50 := fun x hx => by have := (hok.at_ x hx).2; omega
  have hsg : ∀ u : Nat, -1048576 ≤ s.getD u 0 ∧ s.getD u 0 ≤ 1048576 := fun u => by
    rw [List.getD_eq_getElem?_getD]
    cases h : s[u]? with
    | none => simp
    | some x => have := hsb.out x (List.mem_of_getElem? h); simpa using this
  have hdg : ∀ u : Nat, -1048576 ≤ D u ∧ D u ≤ 1048576 := fun u => by
    rw [hD]
    show -1048576 ≤ d.getD u 0 ∧ d.getD u 0 ≤ 1048576
    rw [List.getD_eq_getElem?_getD]
    cases h : d[u]? with
    | none => simp
    | some x => have := hdb.out x (List.mem_of_getElem? h); simpa using this
  have hes := hok.len
  have HMG := hide hm
  have HSG := hide hsg
  have HPB : Hid (∀ v u i : Nat, u ≤ N → -2000000000 ≤ mvP es s D N v u i ∧ mvP es s D N v u i ≤ 2000000000) := fun v u i hu => by
    have h1 := mvU_bound hm hsg i N
    have h2 := mvU_bound hm hsg i u
    have h3 := hdg i
    unfold mvP
    split
    · omega
    · split <;> omega
  obtain ⟨W1, e1⟩ : ∃ W1, w.alloc (.cells #[.int .i64 N, .slice oe es.length c] 24) = W1 := ⟨_, rfl⟩
  have bx1 : Box W1 w.heap.size [.int .i64 N, .slice oe es.length c] 24 := by rw [← e1]; exact Box.new w [.int .i64 N, .slice oe es.length c] 24
  have bb1 := bnew (Below.refl w.heap.size w) (.cells #[.int .i64 N, .slice oe es.length c] 24)
  rw [e1] at bb1
  have HX := hide bx1
  have HB1 := hide bb1
  have hwl := bx1.lt
  have HS1 := hide (hs.below edgR_ok bb1)
  have HSS1 := hide (hS.below intR_ok bb1)
  have HD1 := hide (hd.below intR_ok bb1)
  have HSN := hide hsN
  have HDN := hide hdN
  clear hs hS hd bx1 bb1 hm hsg hdg hok hD hsN hdN
  have HOM : Hid (OwnS intR 1 W1.heap.size 3 Non (W1.alloc (.cells #[] 3)) (.slice (some ⟨W1.heap.size, 0, none⟩) 0 0) []) := OwnS.made _ _ _ _ _
  go_enter Tryz.func76, Tryz.ntmps76
  go_wp2_with (at_builtin; refine wpList_append_rep rfl (.tmp 10) (.tmp 11) 28 rfl W1.heap.size 3 _ 1 8 Tryz.underlying28 iInfo rfl (by decide) intR_ok Non G (.slice (some ⟨W1.heap.size, 0, none⟩) 0 0) [] (by simp [Act.eval, Act.put]) HOM.out (some ⟨bd, ofd, none⟩) cd d (by rw [HDN.out]; simp [Act.eval, Act.put]) (HD1.out.below intR_ok (bnew (Below.refl _ _) _)) (fun _ _ h => h) (fun _ h => h.elim) (by rw [HDN.out]; simp; omega) (by rw [HDN.out]; simp; omega) (by simp) ?_; intro v' w2 ho hb2 hg2; have HO2 := hide ho; have HB2 := hide hb2; clear ho hb2 hg2)
  obtain ⟨gd, cap, rest, hv', hgd, hcap0, _, hrow, _⟩ := HO2.out.row (xs := [] ++ d) (by intro e; have h9 := HDN.out; simp at e; rw [e] at h9; simp at h9; omega)
  rw [List.nil_append] at hrow hv' hcap0
  have HR2 : Hid (Row1 (Value.int .i64) w2 gd 3 (lst N (mvP es s D N 0 0)) rest) := by rw [← HDL.out]; exact hrow
  have HBW : Hid (Below W1.heap.size W1 w2) := (bnew (Below.refl _ _) _).trans HB2.out
  have hcap : N ≤ cap := by rw [HDN.out] at hcap0; omega
  rw [HDN.out] at hv'
  subst hv'
  clear hrow hcap0 e1 HO2
  go_wp2_with fail
  go_loopg [8] N (fun gm iv wx => ∃ v : Nat, v ≤ N ∧ gm = N - v ∧ iv = .int .i64 v ∧ Hid (Row1 (Value.int .i64) wx gd 3 (lst N (mvP es s D N v 0)) rest) ∧ Hid (Below W1.heap.size W1 wx))
  case atStart => exact ⟨0, by omega, by omega, rfl, HR2, HBW⟩
  case round =>
    obtain ⟨v, hv, hgm, rfl, HR, HB⟩ := hrel
    have HGM := hide hgm
    have bx := HX.out.below HB.out
    have y0 := bx.cell 0
    simp only [List.getElem?_cons_zero] at y0
    clear hgm bx
    by_cases hlt : v < N
    · go_wp2_with fail
      clear y0
      go_loopg [9] N (fun gm iv wx => ∃ u : Nat, u ≤ N ∧ gm = N - u ∧ iv = .int .i64 u ∧ Hid (Row1 (Value.int .i64) wx gd 3 (lst N (mvP es s D N v u)) rest) ∧ Hid (Below W1.heap.size W1 wx))
      case atStart => exact ⟨0, by omega, by omega, rfl, HR, HB⟩
      case round =>
        clear HR HB
        obtain ⟨u, hu, hgm, rfl, HR, HB⟩ := hrel
        have HGM2 := hide hgm
        have bx := HX.out.below HB.out
        have y0 := bx.cell 0
        have y1 := bx.cell 1
        simp only [List.getElem?_cons_zero, List.getElem?_cons_succ] at y0 y1
        clear hgm bx
        by_cases hlu : u < N
        · by_cases hvu : v = u
          · have HL2 : Hid (Row1 (Value.int .i64) wr gd 3 (lst N (mvP es s D N v (u + 1))) rest) := by show Row1 _ _ _ _ _ _; rw [mvP_same hvu]; exact HR.out
            have hq : ((v : Int) != (u : Int)) = false := by simp [hvu]
            clear hvu
            go_wp2_with fail
            go_roundg (N - (u + 1))
            case rel => exact ⟨u + 1, by omega, rfl, by go_num, HL2, HB⟩
            case measure => rw [HGM2.out]; omega
          · have hq : ((v : Int) != (u : Int)) = true := by simp; omega
            obtain ⟨z, hz⟩ : ∃ z, z = mvP es s D N v u v := ⟨_, rfl⟩
            have hzb := HPB.out v u v hu
            rw [← hz] at hzb
            have cz : wr.cell? ⟨gd, v, none⟩ = some (.int .i64 z) := by rw [hz]; exact HR.out.cell (lst_get _ hlt)
            have HFZ : Hid (∀ W, Below wr.heap.size wr W → W.frozen? ⟨gd, v, none⟩ = false) := fun W hW => (HR.out.below hW).free v
            have fz := HFZ.out wr (Below.refl _ _)
            obtain ⟨sw, _, hsw, _, b1, o1, hos1, _, cw⟩ := (HSS1.out.below intR_ok HB.out).int_at (i := u) (by rw [HSN.out]; exact hlu)
            subst hos1
            obtain ⟨sv, _, hsv, _, b2, o2, hos2, _, cv⟩ := (HSS1.out.below intR_ok HB.out).int_at (i := v) (by rw [HSN.out]; exact hlt)
            injection hos2 with hos2
            injection hos2 with e1 e2
            subst e1 e2
            have hswb := hsb.out sw (List.mem_of_getElem? hsw)
            have hsvb := hsb.out sv (List.mem_of_getElem? hsv)
            have hcw := World.block_lt_of_cell? _ _ cw
            have HBT := hide (fun (W : World) (hW : Below wr.heap.size wr W) => betw_any (N : Int) es oe c F W ((HS1.out.below edgR_ok HB.out).below edgR_ok hW) hc (by omega) (v : Int) (u : Int))
            have hbr := betw_range HMG.out (v : Int) (u : Int)
            obtain ⟨x, hx⟩ : ∃ x, x = betw es (v : Int) (u : Int) := ⟨_, rfl⟩
            rw [← hx] at HBT hbr
            obtain ⟨pr, hpr⟩ : ∃ pr, pr = x * (sw - sv) := ⟨_, rfl⟩
            have hprb : -209715200 ≤ pr ∧ pr ≤ 209715200 := by
              rw [hpr]
              constructor
              · have h5 := Int.mul_le_mul_of_nonneg_left (show -4194304 ≤ sw - sv by omega) hbr.1
                have h6 : x * (-4194304) ≥ 50 * (-4194304) := by omega
                omega
              · have h5 := Int.mul_le_mul_of_nonneg_left (show sw - sv ≤ 4194304 by omega) hbr.1
                have h6 : x * 4194304 ≤ 50 * 4194304 := by omega
                omega
            have HRT : Hid (∀ W, Below wr.heap.size wr W → Row1 (Value.int .i64) (W.setCell ⟨gd, v, none⟩ (.int .i64 (z + pr))) gd 3 (lst N (mvP es s D N v (u + 1))) rest) := fun W hW => by
              have h5 := (HR.out.below hW).put (i := v) (by rw [lst_len]; exact hlt) (z + pr)
              rw [lst_set] at h5
              rw [mvP_set hvu, ← hz, List.getD_eq_getElem?_getD, hsw, List.getD_eq_getElem?_getD, hsv, Option.getD_some, Option.getD_some, ← hx, ← hpr]
              exact h5
            have HPR := hide hpr
            have hw1 : IntKind.i64.wrap (sw - sv) = sw - sv := i64_sam2 (by omega)
            have hw2 : IntKind.i64.wrap (x * (sw - sv)) = pr := by rw [← hpr]; exact i64_sam2 (by omega)
            have hw3 : IntKind.i64.wrap (z + pr) = z + pr := i64_sam2 (by omega)
            have HBZ := hide (Below.refl wr.heap.size wr)
            have hne1 : w.heap.size ≠ gd := by omega
            have HNE2 : Hid (b1 ≠ gd → True) := fun _ => trivial
            have hv0 : (0 : Int) ≤ v := by omega
            have hv1 : (v : Int) < N := by omega
            have hu0 : (0 : Int) ≤ u := by omega
            have hu1 : (u : Int) < N := by omega
            clear hvu hx hz hsw hsv
            go_wp2_with fail
            refine wp_region_tail (l := [?q1a0, ?q1a1, ?q1a2, ?q1a3, ?q1a4, ?q1a5, ?q1a6, ?q1a7, ?q1a8, ?q1a9, ?q1a10, ?q1a11, ?q1a12, ?q1a13, ?q1a14, ?q1a15, ?q1a16, ?q1a17, ?q1a18, ?q1a19]) (last := ?q1al) (S := fun w' => w'.cell? ⟨w.heap.size, 0, none⟩ = some (.int .i64 N) ∧ w'.cell? ⟨w.heap.size, 1, none⟩ = some (.slice oe es.length c) ∧ w'.cell? ⟨gd, v, none⟩ = some (.int .i64 z) ∧ w'.cell? ⟨b1, o1 + u, none⟩ = some (.int .i64 sw) ∧ w'.cell? ⟨b1, o1 + v, none⟩ = some (.int .i64 sv)) (by kernel_rfl) (by kernel_rfl) ⟨y0, y1, cz, cw, cv⟩ (fun hHeld => ?_)
            refine wpAnyH_take (i := 0) (oi := ?q1oi0) (v := ?q1v0) ?q1hi0 (by kernel_rfl) (by kernel_rfl) (by kernel_rfl) ?q1hq0 ?q1hy0 (by assumption) ?q1rest0
            case q1hi0 => simp only [List.getElem?_toArray, List.getElem?_cons_zero, List.getElem?_cons_succ]; rfl
            case q1hq0 => exact fun _ _ _ h => h
            case q1hy0 => refine Or.inl ⟨by rfl, ?_⟩; intro w hSw; (try dsimp only at hSw); go_simp; (try with_reducible rfl)
            try simp only [Act.put, List.setIfInBounds_toArray, List.set_cons_zero, List.set_cons_succ]
            refine wpAnyH_take (i := 1) (oi := ?q1oi1) (v := ?q1v1) ?q1hi1 (by kernel_rfl) (by kernel_rfl) (by kernel_rfl) ?q1hq1 ?q1hy1 (by assumption) ?q1rest1
            case q1hi1 => simp only [List.getElem?_toArray, List.getElem?_cons_zero, List.getElem?_cons_succ]; rfl
            case q1hq1 => exact fun _ _ _ h => h
            case q1hy1 => refine Or.inl ⟨by rfl, ?_⟩; intro w hSw; (try dsimp only at hSw); go_simp; (try with_reducible rfl)
            try simp only [Act.put, List.setIfInBounds_toArray, List.set_cons_zero, List.set_cons_succ]
            refine wpAnyH_take (i := 2) (oi := ?q1oi2) (v := ?q1v2) ?q1hi2 (by kernel_rfl) (by kernel_rfl) (by kernel_rfl) ?q1hq2 ?q1hy2 (by assumption) ?q1rest2
            case q1hi2 => simp only [List.getElem?_toArray, List.getElem?_cons_zero, List.getElem?_cons_succ]; rfl
            case q1hq2 => exact fun _ _ _ h => h
            case q1hy2 => refine Or.inl ⟨by rfl, ?_⟩; intro w hSw; (try dsimp only at hSw); go_simp; (try with_reducible rfl)
            try simp only [Act.put, List.setIfInBounds_toArray, List.set_cons_zero, List.set_cons_succ]
            refine wpAnyH_take (i := 3) (oi := ?q1oi3) (v := ?q1v3) ?q1hi3 (by kernel_rfl) (by kernel_rfl) (by kernel_rfl) ?q1hq3 ?q1hy3 (by assumption) ?q1rest3
            case q1hi3 => simp only [List.getElem?_toArray, List.getElem?_cons_zero, List.getElem?_cons_succ]; rfl
            case q1hq3 => exact fun _ _ _ h => h
            case q1hy3 => refine Or.inl ⟨by rfl, ?_⟩; intro w hSw; (try dsimp only at hSw); go_simp; (try with_reducible rfl)
            try simp only [Act.put, List.setIfInBounds_toArray, List.set_cons_zero, List.set_cons_succ]
            refine wpAnyH_take (i := 4) (oi := ?q1oi4) (v := ?q1v4) ?q1hi4 (by kernel_rfl) (by kernel_rfl) (by kernel_rfl) ?q1hq4 ?q1hy4 (by assumption) ?q1rest4
            case q1hi4 => simp only [List.getElem?_toArray, List.getElem?_cons_zero, List.getElem?_cons_succ]; rfl
            case q1hq4 => exact fun _ _ _ h => h
            case q1hy4 => refine Or.inl ⟨by rfl, ?_⟩; intro w hSw; (try dsimp only at hSw); go_simp; (try with_reducible rfl)
            try simp only [Act.put, List.setIfInBounds_toArray, List.set_cons_zero, List.set_cons_succ]
            refine wpAnyH_take (i := 5) (oi := ?q1oi5) (v := ?q1v5) ?q1hi5 (by kernel_rfl) (by kernel_rfl) (by kernel_rfl) ?q1hq5 ?q1hy5 (by assumption) ?q1rest5
            case q1hi5 => simp only [List.getElem?_toArray, List.getElem?_cons_zero, List.getElem?_cons_succ]; rfl
            case q1hq5 => exact fun _ _ _ h => h
            case q1hy5 => refine Or.inl ⟨by rfl, ?_⟩; intro w hSw; (try dsimp only at hSw); go_simp; (try with_reducible rfl)
            try simp only [Act.put, List.setIfInBounds_toArray, List.set_cons_zero, List.set_cons_succ]
            refine wpAnyH_take (i := 6) (oi := ?q1oi6) (v := ?q1v6) ?q1hi6 (by kernel_rfl) (by kernel_rfl) (by kernel_rfl) ?q1hq6 ?q1hy6 (by assumption) ?q1rest6
            case q1hi6 => simp only [List.getElem?_toArray, List.getElem?_cons_zero, List.getElem?_cons_succ]; rfl
            case q1hq6 => exact fun _ _ _ h => h
            case q1hy6 => refine Or.inl ⟨by rfl, ?_⟩; intro w hSw; (try dsimp only at hSw); go_simp; (try with_reducible rfl)
            try simp only [Act.put, List.setIfInBounds_toArray, List.set_cons_zero, List.set_cons_succ]
            refine wpAnyH_take (i := 8) (oi := ?q1oi8) (v := ?q1v8) ?q1hi8 (by kernel_rfl) (by kernel_rfl) (by kernel_rfl) ?q1hq8 ?q1hy8 (by assumption) ?q1rest8
            case q1hi8 => simp only [List.getElem?_toArray, List.getElem?_cons_zero, List.getElem?_cons_succ]; rfl
            case q1hq8 => exact fun _ _ _ h => h
            case q1hy8 => refine Or.inl ⟨by rfl, ?_⟩; intro w hSw; (try dsimp only at hSw); go_simp; (try with_reducible rfl)
            try simp only [Act.put, List.setIfInBounds_toArray, List.set_cons_zero, List.set_cons_succ]
            refine wpAnyH_take (i := 9) (oi := ?q1oi9) (v := ?q1v9) ?q1hi9 (by kernel_rfl) (by kernel_rfl) (by kernel_rfl) ?q1hq9 ?q1hy9 (by assumption) ?q1rest9
            case q1hi9 => simp only [List.getElem?_toArray, List.getElem?_cons_zero, List.getElem?_cons_succ]; rfl
            case q1hq9 => exact fun _ _ _ h => h
            case q1hy9 => refine Or.inl ⟨by rfl, ?_⟩; intro w hSw; (try dsimp only at hSw); go_simp; (try with_reducible rfl)
            try simp only [Act.put, List.setIfInBounds_toArray, List.set_cons_zero, List.set_cons_succ]
            refine wpAnyH_take (i := 10) (oi := ?q1oi10) (v := ?q1v10) ?q1hi10 (by kernel_rfl) (by kernel_rfl) (by kernel_rfl) ?q1hq10 ?q1hy10 (by assumption) ?q1rest10
            case q1hi10 => simp only [List.getElem?_toArray, List.getElem?_cons_zero, List.getElem?_cons_succ]; rfl
            case q1hq10 => exact fun _ _ _ h => h
            case q1hy10 => refine Or.inl ⟨by rfl, ?_⟩; intro w hSw; (try dsimp only at hSw); go_simp; (try with_reducible rfl)
            try simp only [Act.put, List.setIfInBounds_toArray, List.set_cons_zero, List.set_cons_succ]
            refine wpAnyH_take (i := 11) (oi := ?q1oi11) (v := ?q1v11) ?q1hi11 (by kernel_rfl) (by kernel_rfl) (by kernel_rfl) ?q1hq11 ?q1hy11 (by assumption) ?q1rest11
            case q1hi11 => simp only [List.getElem?_toArray, List.getElem?_cons_zero, List.getElem?_cons_succ]; rfl
            case q1hq11 => exact fun _ _ _ h => h
            case q1hy11 => refine Or.inl ⟨by rfl, ?_⟩; intro w hSw; (try dsimp only at hSw); go_simp; (try with_reducible rfl)
            try simp only [Act.put, List.setIfInBounds_toArray, List.set_cons_zero, List.set_cons_succ]
            refine wpAnyH_take (i := 12) (oi := ?q1oi12) (v := ?q1v12) ?q1hi12 (by kernel_rfl) (by kernel_rfl) (by kernel_rfl) ?q1hq12 ?q1hy12 (by assumption) ?q1rest12
            case q1hi12 => simp only [List.getElem?_toArray, List.getElem?_cons_zero, List.getElem?_cons_succ]; rfl
            case q1hq12 => exact fun _ _ _ h => h
            case q1hy12 => refine Or.inl ⟨by rfl, ?_⟩; intro w hSw; (try dsimp only at hSw); go_simp; (try with_reducible rfl)
            try simp only [Act.put, List.setIfInBounds_toArray, List.set_cons_zero, List.set_cons_succ]
            refine wpAnyH_take (i := 13) (oi := ?q1oi13) (v := ?q1v13) ?q1hi13 (by kernel_rfl) (by kernel_rfl) (by kernel_rfl) ?q1hq13 ?q1hy13 (by assumption) ?q1rest13
            case q1hi13 => simp only [List.getElem?_toArray, List.getElem?_cons_zero, List.getElem?_cons_succ]; rfl
            case q1hq13 => exact fun _ _ _ h => h
            case q1hy13 => refine Or.inl ⟨by rfl, ?_⟩; intro w hSw; (try dsimp only at hSw); go_simp; (try with_reducible rfl)
            try simp only [Act.put, List.setIfInBounds_toArray, List.set_cons_zero, List.set_cons_succ]
            refine wpAnyH_take (i := 14) (oi := ?q1oi14) (v := ?q1v14) ?q1hi14 (by kernel_rfl) (by kernel_rfl) (by kernel_rfl) ?q1hq14 ?q1hy14 (by assumption) ?q1rest14
            case q1hi14 => simp only [List.getElem?_toArray, List.getElem?_cons_zero, List.getElem?_cons_succ]; rfl
            case q1hq14 => exact fun _ _ _ h => h
            case q1hy14 => refine Or.inl ⟨by rfl, ?_⟩; intro w hSw; (try dsimp only at hSw); go_simp; (try with_reducible rfl)
            try simp only [Act.put, List.setIfInBounds_toArray, List.set_cons_zero, List.set_cons_succ]
            refine wpAnyH_take (i := 15) (oi := ?q1oi15) (v := ?q1v15) ?q1hi15 (by kernel_rfl) (by kernel_rfl) (by kernel_rfl) ?q1hq15 ?q1hy15 (by assumption) ?q1rest15
            case q1hi15 => simp only [List.getElem?_toArray, List.getElem?_cons_zero, List.getElem?_cons_succ]; rfl
            case q1hq15 => exact fun _ _ _ h => h
            case q1hy15 => refine Or.inl ⟨by rfl, ?_⟩; intro w hSw; (try dsimp only at hSw); go_simp; (try with_reducible rfl)
            try simp only [Act.put, List.setIfInBounds_toArray, List.set_cons_zero, List.set_cons_succ]
            refine wpAnyH_take (i := 16) (oi := ?q1oi16) (v := ?q1v16) ?q1hi16 (by kernel_rfl) (by kernel_rfl) (by kernel_rfl) ?q1hq16 ?q1hy16 (by assumption) ?q1rest16
            case q1hi16 => simp only [List.getElem?_toArray, List.getElem?_cons_zero, List.getElem?_cons_succ]; rfl
            case q1hq16 => exact fun _ _ _ h => h
            case q1hy16 => refine Or.inl ⟨by rfl, ?_⟩; intro w hSw; (try dsimp only at hSw); go_simp; (try with_reducible rfl)
            try simp only [Act.put, List.setIfInBounds_toArray, List.set_cons_zero, List.set_cons_succ]
            refine wpAnyH_ready (rs := [7]) (by kernel_rfl) (by simp) ?_
            refine AllReadyH.cons (o := ?q1oi7) ?q1hi7 ?q1rest7 AllReadyH.nil
            case q1hi7 => simp only [List.getElem?_toArray, List.getElem?_cons_zero, List.getElem?_cons_succ]; rfl
            intro K hK
            go_simp
            go_at_call 100; refine (HBT.out _ (by first | with_reducible exact HBZ.out | with_reducible exact HBZ.out.drew)).mono ?_
            rintro e w5 ⟨rfl, h5⟩
            have y0 := (h5.cell (World.block_lt_of_cell? _ _ y0)).trans y0
            have y1 := (h5.cell (World.block_lt_of_cell? _ _ y1)).trans y1
            have cw := (h5.cell (World.block_lt_of_cell? _ _ cw)).trans cw
            have cv := (h5.cell (World.block_lt_of_cell? _ _ cv)).trans cv
            have cz := (h5.cell (World.block_lt_of_cell? _ _ cz)).trans cz
            have HBZ := hide (show Below wr.heap.size wr w5 from below_then (by first | with_reducible exact HBZ.out | with_reducible exact HBZ.out.drew) h5)
            have fz := HFZ.out _ HBZ.out
            clear h5
            try dsimp only
            refine hK.out _ _ ⟨y0, y1, cz, cw, cv⟩ (fun hHeld => ?_)
            clear hK K
            try simp only [Act.put, List.setIfInBounds_toArray, List.set_cons_zero, List.set_cons_succ]
            refine wpAnyH_take (i := 17) (oi := ?q1oi17) (v := ?q1v17) ?q1hi17 (by kernel_rfl) (by kernel_rfl) (by kernel_rfl) ?q1hq17 ?q1hy17 (by assumption) ?q1rest17
            case q1hi17 => simp only [List.getElem?_toArray, List.getElem?_cons_zero, List.getElem?_cons_succ]; rfl
            case q1hq17 => exact fun _ _ _ h => h
            case q1hy17 => refine Or.inl ⟨by rfl, ?_⟩; intro w hSw; (try dsimp only at hSw); go_simp; (try with_reducible rfl)
            try simp only [Act.put, List.setIfInBounds_toArray, List.set_cons_zero, List.set_cons_succ]
            refine wpAnyH_take (i := 18) (oi := ?q1oi18) (v := ?q1v18) ?q1hi18 (by kernel_rfl) (by kernel_rfl) (by kernel_rfl) ?q1hq18 ?q1hy18 (by assumption) ?q1rest18
            case q1hi18 => simp only [List.getElem?_toArray, List.getElem?_cons_zero, List.getElem?_cons_succ]; rfl
            case q1hq18 => exact fun _ _ _ h => h
            case q1hy18 => refine Or.inl ⟨by rfl, ?_⟩; intro w hSw; (try dsimp only at hSw); go_simp; (try with_reducible rfl)
            try simp only [Act.put, List.setIfInBounds_toArray, List.set_cons_zero, List.set_cons_succ]
            refine wpAnyH_take (i := 19) (oi := ?q1oi19) (v := ?q1v19) ?q1hi19 (by kernel_rfl) (by kernel_rfl) (by kernel_rfl) ?q1hq19 ?q1hy19 (by assumption) ?q1rest19
            case q1hi19 => simp only [List.getElem?_toArray, List.getElem?_cons_zero, List.getElem?_cons_succ]; rfl
            case q1hq19 => exact fun _ _ _ h => h
            case q1hy19 => refine Or.inl ⟨by rfl, ?_⟩; intro w hSw; (try dsimp only at hSw); go_simp; (try with_reducible rfl)
            try simp only [Act.put, List.setIfInBounds_toArray, List.set_cons_zero, List.set_cons_succ]
            refine wpAnyH_done (by kernel_rfl) ?_ _
            dsimp only [TailQ, List.append, List.cons_append, List.nil_append]
            all_goals
              have hrt := hide (HRT.out _ HBZ.out)
              rw [HPR.out] at hrt
              have HBB : Hid (Below W1.heap.size W1 (w5.setCell ⟨gd, v, none⟩ (.int .i64 (z + x * (sw - sv))))) := (below_then HB.out HBZ.out).setCell hgd _
              go_wp2_with fail
              go_roundg (N - (u + 1))
              case rel => exact ⟨u + 1, by omega, rfl, by go_num, hrt, HBB⟩
              case measure => rw [HGM2.out]; omega
        · have hue : u = N := by omega
          have HL2 : Hid (Row1 (Value.int .i64) wr gd 3 (lst N (mvP es s D N (v + 1) 0)) rest) := by
            have h5 := HR.out
            rw [hue, lst_congr (fun i _ => mvP_next es s D N v i)] at h5
            exact h5
          clear hue
          go_wp2_with fail
          go_roundg (N - (v + 1))
          case rel => exact ⟨v + 1, by omega, rfl, by go_num, HL2, HB⟩
          case measure => rw [HGM.out]; omega
    · have hve : v = N := by omega
      have HF : Hid (Row1 (Value.int .i64) wr gd 3 (lst N fun i => d.getD i 0 + mvU es s i N) rest) := by
        have h5 := HR.out
        rw [hve, lst_congr (g := fun i => d.getD i 0 + mvU es s i N) (fun i hi => by unfold mvP; rw [if_pos hi, HDE.out])] at h5
        exact h5
      clear hve
      go_wp2_with fail
      go_ret
      exact ⟨gd, cap, rest, rfl, hcap, HF.out, HB1.out.trans (HB.out.mono (by omega))⟩
end Go.Proofs.YtpgopmmobbemcaaGreat

set_option linter.unusedVariables false
set_option linter.unusedSimpArgs false
namespace Go.Proofs.YtpgopmmobbemcaaGreat
open Go.RowKit

def paidL (d : List Int) : Bool := d.all fun k => decide (0 ≤ k)
theorem paid_any (d : List Int) (od : Option Addr) (cd : Nat) (F : Foot) (w : World) (hd : SliceR intR 1 F w od d) (hc : d.length ≤ cd) (hc2 : d.length ≤ 9223372036854775807) :
    Calls Tryz.prog 101 #[.slice od d.length cd] w fun e w' => e = .returned (.bool (paidL d)) ∧ w = w' := by
  go_enter Tryz.func101, Tryz.ntmps101
  go_wp2_with fail
  go_loopw [3] (fun iv wr => ∃ k : Nat, k ≤ d.length ∧ iv = .int .i64 k ∧ Hid (paidL d = paidL (d.drop k)) ∧ wr = w) (fun iv _ => d.length - (intOf iv).toNat)
  case atStart => exact ⟨0, by omega, rfl, rfl, rfl⟩
  case round =>
    obtain ⟨k, hk, rfl, HS, rfl⟩ := hrel
    by_cases hlt : k < d.length
    · obtain ⟨x, hdr, _, ix, b, off, hod, _, c0⟩ := hd.int_at hlt
      subst hod
      have HS2 : Hid (paidL d = (decide (0 ≤ x) && paidL (d.drop (k + 1)))) := by show _ = _; rw [HS.out, hdr]; rfl
      clear hdr
      by_cases h1 : x < 0
      · have q1 : decide (x < (0 : Int)) = true := by simp [h1]
        have HS3 : Hid (paidL d = false) := by show _ = _; rw [HS2.out, decide_eq_false (by omega)]; rfl
        clear h1
        go_wp2_with fail
        go_ret
        exact ⟨ret_bool HS3.out.symm, rfl⟩
      · have q1 : decide (x < (0 : Int)) = false := by simp; omega
        have HS3 : Hid (paidL d = paidL (d.drop (k + 1))) := by show _ = _; rw [HS2.out, decide_eq_true (by omega)]; rfl
        clear h1
        go_wp2_with fail
        go_roundw
        case rel => exact ⟨k + 1, by omega, by go_num, HS3, by first | rfl | trivial⟩
        case measure => simp [intOf]; omega
    · have hke : k = d.length := by omega
      have HS3 : Hid (paidL d = true) := by show _ = _; rw [HS.out, hke, List.drop_length]; rfl
      clear hke
      go_wp2_with fail
      go_ret
      exact ⟨ret_bool HS3.out.symm, rfl⟩
/-- The first vertex in debt, or -1. -/
def debtorL : List Int → Nat → Int
  | [], _ => -1
  | k :: r, i => if k < 0 then i else debtorL r (i + 1)
theorem debtor_any (d : List Int) (od : Option Addr) (cd : Nat) (F : Foot) (w : World) (hd : SliceR intR 1 F w od d) (hc : d.length ≤ cd) (hc2 : d.length ≤ 9223372036854775807) :
    Calls Tryz.prog 98 #[.slice od d.length cd] w fun e w' => e = .returned (.int .i64 (debtorL d 0)) ∧ w = w' := by
  go_enter Tryz.func98, Tryz.ntmps98
  go_wp2_with fail
  go_loopw [3] (fun iv wr => ∃ k : Nat, k ≤ d.length ∧ iv = .int .i64 k ∧ Hid (debtorL d 0 = debtorL (d.drop k) k) ∧ wr = w) (fun iv _ => d.length - (intOf iv).toNat)
  case atStart => exact ⟨0, by omega, rfl, rfl, rfl⟩
  case round =>
    obtain ⟨k, hk, rfl, HS, rfl⟩ := hrel
    by_cases hlt : k < d.length
    · obtain ⟨x, hdr, _, ix, b, off, hod, _, c0⟩ := hd.int_at hlt
      subst hod
      have HS2 : Hid (debtorL d 0 = if x < 0 then (k : Int) else debtorL (d.drop (k + 1)) (k + 1)) := by show _ = _; rw [HS.out, hdr]; rfl
      clear hdr
      by_cases h1 : x < 0
      · have q1 : decide (x < (0 : Int)) = true := by simp [h1]
        have HS3 : Hid (debtorL d 0 = k) := by show _ = _; rw [HS2.out, if_pos h1]
        clear h1
        go_wp2_with fail
        go_ret
        exact ⟨ret_int HS3.out.symm, rfl⟩
      · have q1 : decide (x < (0 : Int)) = false := by simp; omega
        have HS3 : Hid (debtorL d 0 = debtorL (d.drop (k + 1)) (k + 1)) := by show _ = _; rw [HS2.out, if_neg h1]
        clear h1
        go_wp2_with fail
        go_roundw
        case rel => exact ⟨k + 1, by omega, by go_num, HS3, by first | rfl | trivial⟩
        case measure => simp [intOf]; omega
    · have hke : k = d.length := by omega
      have HS3 : Hid (debtorL d 0 = -1) := by show _ = _; rw [HS.out, hke, List.drop_length]; rfl
      clear hke
      go_wp2_with fail
      go_ret
      exact ⟨ret_int HS3.out.symm, rfl⟩
def totL : List Int → Int
  | [] => 0
  | k :: r => k + totL r
theorem totL_app (l m : List Int) : totL (l ++ m) = totL l + totL m := by
  induction l with
  | nil => simp [totL]
  | cons k r ih => simp only [List.cons_append, totL, ih]; omega
theorem totL_le {c : Int} (hc : 0 ≤ c) : ∀ d : List Int, (∀ k ∈ d, -c ≤ k ∧ k ≤ c) → -(d.length * c) ≤ totL d ∧ totL d ≤ d.length * c
  | [], _ => by simp [totL]
  | k :: r, h => by
    have h1 := totL_le hc r fun x hx => h x (by simp [hx])
    have h2 := h k (by simp)
    have h3 : (((k :: r).length : Nat) : Int) * c = (r.length : Int) * c + c := by rw [List.length_cons]; push_cast; rw [Int.add_mul, Int.one_mul]
    unfold totL
    omega
theorem total_any (d : List Int) (od : Option Addr) (cd : Nat) (F : Foot) (w : World) (hd : SliceR intR 1 F w od d) (hc : d.length ≤ cd) (hc2 : d.length ≤ 1000) (hb : Hid (∀ k ∈ d, -1000000000000 ≤ k ∧ k ≤ 1000000000000)) :
    Calls Tryz.prog 97 #[.slice od d.length cd] w fun e w' => e = .returned (.int .i64 (totL d)) ∧ w = w' := by
  have HB : Hid (∀ k, -1000000000000000 ≤ totL (d.take k) ∧ totL (d.take k) ≤ 1000000000000000) := fun k => by
    have h1 := totL_le (c := 1000000000000) (by omega) (d.take k) fun x hx => hb.out x (List.mem_of_mem_take hx)
    have h2 : (d.take k).length ≤ 1000 := by rw [List.length_take]; omega
    omega
  go_enter Tryz.func97, Tryz.ntmps97
  go_wp2_with fail
  go_loopw [3, 4] (fun sv iv wr => ∃ k : Nat, k ≤ d.length ∧ iv = .int .i64 k ∧ sv = .int .i64 (totL (d.take k)) ∧ wr = w) (fun _ iv _ => d.length - (intOf iv).toNat)
  case atStart => exact ⟨0, by omega, rfl, rfl, rfl⟩
  case round =>
    obtain ⟨k, hk, rfl, rfl, rfl⟩ := hrel
    obtain ⟨S, hS⟩ : ∃ S, S = totL (d.take k) := ⟨_, rfl⟩
    have hS1 := HB.out k
    rw [← hS] at hS1 ⊢
    by_cases hlt : k < d.length
    · obtain ⟨x, hdr, hm, ix, b, off, hod, _, c0⟩ := hd.int_at hlt
      have hx := hb.out x (by rw [← List.take_append_drop k d, hdr]; simp)
      have HS3 : Hid (totL (d.take (k + 1)) = S + x) := by
        show _ = _
        have hx : d[k]? = some x := by
          have := congrArg (fun l => l[0]?) hdr
          simpa using this
        rw [hS, List.take_add_one, hx, totL_app]
        simp [totL]
      subst hod
      clear hdr
      go_wp2_with fail
      go_roundw
      case rel => exact ⟨k + 1, by omega, by go_num, by rw [HS3.out] <;> go_num, by first | rfl | trivial⟩
      case measure => simp [intOf]; omega
    · have hke : k = d.length := by omega
      have HS3 : Hid (S = totL d) := by show _ = _; rw [hS, hke, List.take_length]
      clear hke hS
      go_wp2_with fail
      go_ret
      exact ⟨by rw [HS3.out]; rfl, rfl⟩
end Go.Proofs.YtpgopmmobbemcaaGreat

set_option linter.unusedVariables false
set_option linter.unusedSimpArgs false
set_option linter.unnecessarySimpa false
namespace Go.Proofs.YtpgopmmobbemcaaGreat
open Go.RowKit

def verifyR (n : Int) (es : List Edg) (f : List Nat) (d s : List Int) : Int × Int :=
  if tErr n es f d ≠ 0 then (0, tErr n es f d) else if fErr n es s ≠ 0 then (0, fErr n es s) else if 0 < oweS es d s then (0, 16) else (costS s, 0)
def Int2Post (w : World) (r : Int × Int) (e : Ending) (w' : World) : Prop := e = .returned (.tuple #[.int .i64 r.1, .int .i64 r.2]) ∧ Below w.heap.size w w'
end Go.Proofs.YtpgopmmobbemcaaGreat

set_option linter.unusedVariables false
set_option linter.unusedSimpArgs false
set_option linter.unnecessarySimpa false
namespace Go.Proofs.YtpgopmmobbemcaaGreat
open Go.RowKit

theorem mvU_link {N : Nat} {es : List Edg} {s : List Int} (h : gErr N es = 0) (v : Nat) (h0 : linkE es v v = 0) : ∀ k, mvU es s v k = -(sumI (fun u => linkE es v u * (s.getD v 0 - s.getD u 0)) k)
  | 0 => rfl
  | k + 1 => by
    unfold mvU sumI
    rw [mvU_link h v h0 k]
    by_cases e : v = k
    · subst e
      rw [if_pos rfl, h0]
      omega
    · rw [if_neg e, gErr_link h e, Int.neg_add]
      congr 1
      rw [← Int.mul_neg]
      congr 1
      omega
theorem mov_eq {N : Nat} {es : List Edg} {d s : List Int} (h : gErr N es = 0) (hok : EOk N es) (hd : d.length = N) : (lst N fun i => d.getD i 0 + mvU es s i N) = movedL s es d := by
  have hat := fun y hy => (hok.at_ y hy).1
  apply List.ext_getElem?
  intro i
  by_cases hi : i < N
  · have hl : (movedL s es d).length = N := by rw [moved_len, hd]
    rw [lst_get _ hi, List.getElem?_eq_getElem (by omega)]
    have h1 := moved_app (s := s) hat hd i hi
    rw [List.getD_eq_getElem?_getD, List.getElem?_eq_getElem (by omega), Option.getD_some] at h1
    rw [h1]
    have hGr : Gr N (linkE es) := linkE_gr fun y hy => by have := (hok.at_ y hy).2; omega
    have h2 := link_sum (fun u => s.getD u 0) i hat
    have h3 := mvU_link (s := s) h i (hGr.dg i) N
    rw [h2] at h3
    rw [h3]
    congr 1
  · rw [List.getElem?_eq_none (by rw [lst_len]; omega), List.getElem?_eq_none (by rw [moved_len, hd]; omega)]
theorem owed_paid : ∀ d : List Int, paidL d = decide (owedL d = 0)
  | [] => rfl
  | x :: r => by
    have h1 := owed_paid r
    have h2 := owedL_nn r
    have e1 : paidL (x :: r) = (decide (0 ≤ x) && paidL r) := rfl
    have e2 : owedL (x :: r) = max 0 (-x) + owedL r := rfl
    rw [e1, h1, e2, Bool.eq_iff_iff]
    simp only [Bool.and_eq_true, decide_eq_true_eq]
    omega
set_option maxRecDepth 100000 in
set_option maxHeartbeats 4000000 in
theorem rwins43_any {N : Nat} {es : List Edg} (hV : gErr N es = 0) (hok : EOk N es) (h12 : 1 ≤ N ∧ N ≤ 12) (oe : Option Addr) (c : Nat) (F : Foot) (w : World) (hs : SliceR edgR 3 F w oe es) (hc : es.length ≤ c) (d : List Int) (od : Option Addr) (cd : Nat) (G : Foot) (hd : SliceR intR 1 G w od d) (hdc : N ≤ cd) (hdN : d.length = N)
    (s : List Int) (os : Option Addr) (cs : Nat) (S : Foot) (hS : SliceR intR 1 S w os s) (hsN : s.length = N) (hsc : N ≤ cs) (hsb : Hid (∀ y ∈ s, -1048576 ≤ y ∧ y ≤ 1048576)) (hdb : Hid (∀ y ∈ d, -1048576 ≤ y ∧ y ≤ 1048576)) :
    Calls Tryz.prog 69 #[.agg #[.int .i64 N, .slice oe es.length c], .slice od N cd, .slice os N cs] w fun e w' => e = .returned (.bool (paidL (movedL s es d))) ∧ Below w.heap.size w w' := by
  have hmB : ∀ y ∈ movedL s es d, I64 y := fun y hy => by
    have hve : ∀ x ∈ es, (0 ≤ x.m ∧ x.m ≤ 50) ∧ x.a.toNat < d.length ∧ x.b.toNat < d.length := fun x hx => by
      have := hok.at_ x hx
      omega
    have hl := hok.len
    have h1 := moved_bound (s := s) (fun y hy => by have := hsb.out y hy; omega) hve hdb.out es.length (by omega) y (by rw [List.take_length]; exact hy)
    unfold I64
    omega
  have HML : Hid ((movedL s es d).length = N) := by show _ = _; rw [moved_len, hdN]
  have HME := hide (mov_eq (s := s) hV hok hdN)
  have HMV : Hid (∀ W, Below w.heap.size w W → Calls Tryz.prog 76 #[.agg #[.int .i64 N, .slice oe es.length c], .slice od N cd, .slice os N cs] W fun e w' => ∃ g cap rest, e = .returned (.slice (some ⟨g, 0, none⟩) N cap) ∧ N ≤ cap ∧ Row1 (Value.int .i64) w' g 3 (movedL s es d) rest ∧ Below W.heap.size W w') := fun W hW => by
    have h5 := rmoved_any hok h12 oe c F W (hs.below edgR_ok hW) hc d od cd G (hd.below intR_ok hW) hdc hdN s os cs S (hS.below intR_ok hW) hsN hsc hsb hdb
    rw [HME.out] at h5
    exact h5
  have HMB := hide hmB
  have hb0 := bnew (Below.refl w.heap.size w) (.cells #[.int .i64 N, .slice oe es.length c] 24)
  have bxx := Box.new w [.int .i64 N, .slice oe es.length c] 24
  have HB := hide hb0
  have HX := hide bxx
  have HM1 := hide (HMV.out _ hb0)
  clear hs hd hS hok hdN hsN hmB hb0 bxx HMV
  go_enter Tryz.func69, Tryz.ntmps69
  go_wp2_with fail
  refine HM1.out.mono ?_
  rintro e w2 ⟨g, cap, rest, rfl, hcap, hr, hb2⟩
  have HP := hide (paid_any (movedL s es d) (some ⟨g, 0, none⟩) cap All w2 (hr.ints (fun y hy => HMB.out y hy) trivial) (by rw [HML.out]; exact hcap) (by rw [HML.out]; omega))
  rw [HML.out] at HP
  have HB2 := hide (below_then HB.out hb2)
  clear hr hb2
  go_wp2_with fail
  refine HP.out.mono ?_
  rintro e w3 ⟨rfl, rfl⟩
  go_wp2_with fail
  go_ret
  exact ⟨ret_bool rfl, HB2.out⟩
end Go.Proofs.YtpgopmmobbemcaaGreat

set_option linter.unusedVariables false
set_option linter.unusedSimpArgs false
namespace Go.Proofs.YtpgopmmobbemcaaGreat
open Go.RowKit

/-- The sum over a list, as a sum over indices. -/
theorem owedL_sum : ∀ (l : List Int), owedL l = owedF l.length (fun v => l.getD v 0) := by
  have key : ∀ (l : List Int) (k : Nat), k ≤ l.length → owedL (l.take k) = owedF k (fun v => l.getD v 0) := by
    intro l k
    induction k with
    | zero => intro _; rfl
    | succ k ih =>
      intro hk
      have hlt : k < l.length := by omega
      have h1 := ih (by omega)
      have h2 : l.drop k = l[k] :: l.drop (k + 1) := (List.drop_eq_getElem_cons hlt)
      rw [owedL_take h2, h1]
      unfold owedF
      rw [sumI]
      congr 1
      show max 0 (-l[k]) = max 0 (-(l.getD k 0))
      rw [List.getD_eq_getElem?_getD, List.getElem?_eq_getElem hlt]
      rfl
  intro l
  have h1 := key l l.length (by omega)
  rw [List.take_length] at h1
  exact h1
theorem oweS_app {N : Nat} {es : List Edg} {d : List Int} (hok : EOk N es) (hd : d.length = N) (s : List Int) : oweS es d s = owedF N (app N (linkE es) (fun u => d.getD u 0) (fun u => s.getD u 0)) := by
  unfold oweS
  rw [owedL_sum, moved_len, hd]
  unfold owedF
  exact sumI_eq fun v hv => by
    show max 0 (-((movedL s es d).getD v 0)) = _
    rw [moved_link (fun y hy => (hok.at_ y hy).1) hd hv]
theorem nud_at (s : List Int) {v : Nat} (hv : v < s.length) (k : Int) (u : Nat) : (nudS s v k).getD u 0 = fireF (oneB v) k (fun u => s.getD u 0) u := by
  unfold nudS fireF oneB
  simp only [List.getD_eq_getElem?_getD, List.getElem?_set]
  by_cases e : v = u
  · subst e
    simp [hv]
  · rw [if_neg e, if_neg (by simp; exact fun h => e h.symm)]
    simp
theorem grtE_ge {es : List Edg} {v : Nat} : ∀ {k : Nat}, v < k → valE es v ≤ grtE es k
  | 0, h => by omega
  | k + 1, h => by
    unfold grtE
    by_cases e : v = k
    · subst e; omega
    · have := grtE_ge (es := es) (v := v) (k := k) (by omega)
      omega
theorem owe_ok {N : Nat} {es : List Edg} {d : List Int} (hV : gErr N es = 0) (hok : EOk N es) (hd : d.length = N) : Owe N (oweS es d) (grtE es N) where
  nn := fun s => owedL_nn _
  mo := (grtE_le (fun v => valE_bound hV hok.len v) N).1
  mv := fun s v k hs hv hk => by
    have hGr : Gr N (linkE es) := linkE_gr fun y hy => by have := (hok.at_ y hy).2; omega
    have h1 := owed_move (D := fun u => d.getD u 0) (s := fun u => s.getD u 0) hGr hv hk
    have h2 := val_link v (fun y hy => (hok.at_ y hy).1)
    have h3 := grtE_ge (es := es) hv
    have e : app N (linkE es) (fun u => d.getD u 0) (fun u => (nudS s v k).getD u 0) = app N (linkE es) (fun u => d.getD u 0) (fireF (oneB v) k fun u => s.getD u 0) := by
      congr 1
      funext u
      exact nud_at s (by omega) k u
    rw [oweS_app hok hd, oweS_app hok hd, e]
    omega
/-- The search of the reference. -/
def refF (N : Nat) (wins : List Int → Bool) : Nat → Nat → List Int × Int × Int
  | 0, _ => ([], 0, 12)
  | fuel + 1, n => match firstS wins N [] n with
    | some s => (s, n, 0)
    | none => refF N wins fuel (n + 1)
theorem sol_ref {N : Nat} {owe : List Int → Int} {most limit : Int} (h : Owe N owe most) : ∀ (fuel n : Nat), (fuel : Int) + n ≤ limit + 1 → solF N owe most limit fuel n = refF N (winsO owe) fuel n
  | 0, _, _ => rfl
  | fuel + 1, n, hl => by
    unfold solF refF
    rw [lay_first (limit := limit) h (cmp := cmpL) (fun s t hs ht => cmpL_lt (by omega)) (n := n) (by push_cast at hl; omega), sol_ref h fuel (n + 1) (by push_cast at hl ⊢; omega)]
    try (cases firstS (winsO owe) N [] n <;> rfl)
def refSolveR (n : Int) (es : List Edg) (f : List Nat) (d : List Int) (limit : Int) (b : Bool) : List Int × Int × Int :=
  if tErr n es f d ≠ 0 then ([], 0, tErr n es f d) else if limit < 0 ∨ 8 < limit then ([], 0, 2) else if b = false then ([], 0, 6) else refF n.toNat (fun s => paidL (movedL s es d)) (limit.toNat + 1) 0
theorem solve_ref (n : Int) (es : List Edg) (f : List Nat) (d : List Int) (limit : Int) (b : Bool) (hc2 : es.length ≤ 1000) : solveR n es f d limit b = refSolveR n es f d limit b := by
  unfold solveR refSolveR
  by_cases h1 : tErr n es f d ≠ 0
  · rw [if_pos h1, if_pos h1]
  rw [if_neg h1, if_neg h1]
  by_cases h2 : limit < 0 ∨ 8 < limit
  · rw [if_pos h2, if_pos h2]
  rw [if_neg h2, if_neg h2]
  by_cases h3 : b = false
  · rw [if_pos h3, if_pos h3]
  rw [if_neg h3, if_neg h3]
  obtain ⟨N, rfl, hT⟩ := tErr_ok (f := f) (d := d) (es := es) (n := n) (by simpa using h1)
  have hok := EOk.of hT.g hc2
  rw [Int.toNat_natCast, sol_ref (owe_ok hT.g hok hT.len) _ _ (by push_cast; omega)]
  congr 1
  funext s
  rw [owed_paid]
  rfl
end Go.Proofs.YtpgopmmobbemcaaGreat

set_option linter.unusedVariables false
set_option linter.unusedSimpArgs false
namespace Go.Proofs.YtpgopmmobbemcaaGreat
open Go.RowKit

/-- What a game of borrowing needs. -/
structure GOk (N : Nat) (es : List Edg) (d : List Int) : Prop where
  ok : EOk N es
  n1 : 1 ≤ N
  conn : Conn N (linkE es)
  sm : SmG N es d
theorem GOk.gr {N : Nat} {es : List Edg} {d : List Int} (h : GOk N es d) : Gr N (linkE es) := linkE_gr fun y hy => by have := (h.ok.at_ y hy).2; omega
theorem GOk.few {N : Nat} {es : List Edg} {d : List Int} (h : GOk N es d) {b : Nat → Nat} (hb : Bor N (linkE es) (fun v => d.getD v 0) b) {z : Nat} (hz : z < N) (hbz : b z = 0) : sumI (fun v => (b v : Int)) N ≤ 11340 := by
  have h6 := h.sm.n6
  have h1 := h.n1
  have hD : ∀ v, v < N → -(60 : Int) ≤ (fun v => d.getD v 0) v := fun v _ => by
    show -(60 : Int) ≤ d.getD v 0
    rw [List.getD_eq_getElem?_getD]
    rcases hx : d[v]? with _ | x
    · simp
    · have := h.sm.dB x (List.mem_of_getElem? hx)
      simpa using this.1
  have h2 : sumI (vlR N (linkE es)) N = sumI (fun v : Nat => valE es v) N := sumI_eq fun v hv => (val_link v fun x hx => (h.ok.at_ x hx).1).symm
  have h3 := val_sum (n := N) (es := es) fun x hx => by have := (h.ok.at_ x hx).2; omega
  have h4 := h.sm.sz
  have h5 : sumI (fun _ => (60 : Int)) N = 60 * N := by
    have : ∀ n : Nat, sumI (fun _ => (60 : Int)) n = 60 * n := fun n => by
      induction n with
      | zero => rfl
      | succ n ih => rw [sumI, ih]; push_cast; omega
    exact this N
  have h7 : sumI (fun u => vlR N (linkE es) u + 60) N ≤ 378 := by
    rw [sumI_add, h5]
    omega
  have h8 : ∀ v, v < N → (b v : Int) ≤ 1890 := fun v hv => by
    have h9 := hb.range h.gr h.conn hD (by omega) hz hbz hv
    have h10 : ((N - 1 : Nat) : Int) * sumI (fun u => vlR N (linkE es) u + 60) N ≤ ((N - 1 : Nat) : Int) * 378 := Int.mul_le_mul_of_nonneg_left h7 (by omega)
    omega
  have h11 := sumI_le (f := fun v => (b v : Int)) (g := fun _ => 1890) (n := N) h8
  have h12 : ∀ n : Nat, sumI (fun _ => (1890 : Int)) n = 1890 * n := fun n => by
    induction n with
    | zero => rfl
    | succ n ih => rw [sumI, ih]; push_cast; omega
  rw [h12] at h11
  omega
/-- A game of borrowing under way. -/
structure GSt (N : Nat) (es : List Edg) (d : List Int) (i : Nat) (b : Nat → Nat) (left : Nat → Int) : Prop where
  bor : Bor N (linkE es) (fun v => d.getD v 0) b
  left : ∀ v, v < N → left v = app N (linkE es) (fun v => d.getD v 0) (negU b) v
  sum : sumI (fun v => (b v : Int)) N = i
  few : i ≤ 11341
theorem GSt.zero {N : Nat} {es : List Edg} {d : List Int} : GSt N es d 0 (fun _ => 0) (fun v => d.getD v 0) where
  bor := .zero
  left := fun v hv => by
    have e : negU (fun _ => 0) = fun _ => 0 := by funext v; simp [negU]
    rw [e, app_zero]
  sum := sumI_zero N
  few := by omega
theorem GSt.step {N : Nat} {es : List Edg} {d : List Int} (h : GOk N es d) {i : Nat} {b : Nat → Nat} {left : Nat → Int} (hg : GSt N es d i b left) {z : Nat} (hz : z < N) (hbz : b z = 0) {v : Nat} (hv : v < N) (hl : left v < 0) : GSt N es d (i + 1) (upU b v 1) (borF es v left) where
  bor := .step hg.bor hv (by rw [← hg.left v hv]; exact hl)
  left := fun u hu => by
    rw [borF_at h.ok hv hu, hg.left u hu, app_up h.gr b hv hu, h.gr.sym v u]
  sum := by
    have h1 := sumI_one (f := fun u => (upU b v 1 u : Int)) (g := fun u => (b u : Int)) hv (fun p hp hne => by rw [upU_ne _ _ hne])
    rw [h1, hg.sum, upU_at]
    push_cast
    omega
  few := by
    have h1 := h.few hg.bor hz hbz
    rw [hg.sum] at h1
    omega
theorem GSt.le {N : Nat} {es : List Edg} {d : List Int} {i : Nat} {b : Nat → Nat} {left : Nat → Int} (hg : GSt N es d i b left) {v : Nat} (hv : v < N) : b v ≤ 11341 := by
  have h1 := sumI_one (f := fun u => (b u : Int)) (g := fun u => if u = v then 0 else (b u : Int)) hv (fun p hp hne => by rw [if_neg hne])
  have h2 : 0 ≤ sumI (fun u => if u = v then 0 else (b u : Int)) N := sumI_nn fun p hp => by split <;> omega
  rw [hg.sum, if_pos rfl] at h1
  have h3 := hg.few
  omega
/-- How a game of borrowing ends. -/
structure GEnd (N : Nat) (es : List Edg) (d : List Int) (a : Bool) (b : Nat → Nat) : Prop where
  bor : Bor N (linkE es) (fun v => d.getD v 0) b
  won : a = true → ∀ v, v < N → 0 ≤ app N (linkE es) (fun v => d.getD v 0) (negU b) v
  lost : a = false → ¬ Winn N (linkE es) (fun v => d.getD v 0)
  le : ∀ v, v < N → b v ≤ 11341
theorem GEnd.iff {N : Nat} {es : List Edg} {d : List Int} {a : Bool} {b : Nat → Nat} (h : GEnd N es d a b) : a = true ↔ Winn N (linkE es) (fun v => d.getD v 0) := by
  constructor
  · intro ha
    exact h.bor.won (h.won ha)
  · intro hw
    cases ha : a
    · exact absurd hw (h.lost ha)
    · rfl
theorem GSt.won {N : Nat} {es : List Edg} {d : List Int} {i : Nat} {b : Nat → Nat} {left : Nat → Int} (hg : GSt N es d i b left) (hp : ∀ v, v < N → 0 ≤ left v) : GEnd N es d true b where
  bor := hg.bor
  won := fun _ v hv => by rw [← hg.left v hv]; exact hp v hv
  lost := fun h => by cases h
  le := fun v hv => hg.le hv
theorem GSt.lost {N : Nat} {es : List Edg} {d : List Int} (h : GOk N es d) {i : Nat} {b : Nat → Nat} {left : Nat → Int} (hg : GSt N es d i b left) (ha : ∀ v, v < N → 1 ≤ b v) : GEnd N es d false b where
  bor := hg.bor
  won := fun h => by cases h
  lost := fun _ => hg.bor.lost h.gr h.n1 ha
  le := fun v hv => hg.le hv
/-- Two games end alike. -/
theorem GEnd.same {N : Nat} {es : List Edg} {d : List Int} (h : GOk N es d) {a c : Bool} {b g : Nat → Nat} (h1 : GEnd N es d a b) (h2 : GEnd N es d c g) : a = c ∧ (a = true → lst N (negU b) = lst N (negU g)) := by
  have e : a = c := by rw [Bool.eq_iff_iff, h1.iff, h2.iff]
  refine ⟨e, fun ha => lst_congr fun v hv => ?_⟩
  have h3 := h1.bor.same h.gr h2.bor (h1.won ha) (h2.won (by rw [← e]; exact ha)) v hv
  unfold negU
  rw [h3]
/-- The reference's Wins. -/
def allB (N : Nat) (bor : Nat → Bool) : Bool := (List.range N).all bor
def wRun (N : Nat) (es : List Edg) : Nat → (Nat → Int) → (Nat → Bool) → Bool
  | 0, _, _ => false
  | fuel + 1, left, bor => if debtorL (lst N left) 0 < 0 then true else if allB N bor = true then false else
      wRun N es fuel (borF es (debtorL (lst N left) 0).toNat left) (fun u => if u = (debtorL (lst N left) 0).toNat then true else bor u)
theorem debtor_spec : ∀ (l : List Int) (i : Nat), (debtorL l i = -1 ∧ ∀ x ∈ l, 0 ≤ x) ∨ ∃ j : Nat, debtorL l i = (i + j : Nat) ∧ ∃ x, l[j]? = some x ∧ x < 0
  | [], i => .inl ⟨rfl, by simp⟩
  | k :: r, i => by
    unfold debtorL
    by_cases hk : k < 0
    · rw [if_pos hk]
      exact .inr ⟨0, by simp, k, rfl, hk⟩
    · rw [if_neg hk]
      rcases debtor_spec r (i + 1) with ⟨h1, h2⟩ | ⟨j, h1, x, h2, h3⟩
      · exact .inl ⟨h1, fun x hx => by rcases List.mem_cons.1 hx with rfl | hx; · omega
                                       · exact h2 x hx⟩
      · exact .inr ⟨j + 1, by rw [h1]; push_cast; omega, x, by simpa using h2, h3⟩
theorem debtor_lst (N : Nat) (left : Nat → Int) : (debtorL (lst N left) 0 = -1 ∧ ∀ v, v < N → 0 ≤ left v) ∨ ∃ v : Nat, debtorL (lst N left) 0 = v ∧ v < N ∧ left v < 0 := by
  rcases debtor_spec (lst N left) 0 with ⟨h1, h2⟩ | ⟨j, h1, x, h2, h3⟩
  · exact .inl ⟨h1, fun v hv => h2 _ (List.mem_map.2 ⟨v, List.mem_range.2 hv, rfl⟩)⟩
  · have hj : j < N := by
      rw [← lst_len N left]
      exact (List.getElem?_eq_some_iff.1 h2).1
    rw [lst_get _ hj] at h2
    injection h2 with h2
    exact .inr ⟨j, by rw [h1]; simp, hj, by rw [h2]; exact h3⟩
theorem wRun_law {N : Nat} {es : List Edg} {d : List Int} (h : GOk N es d) : ∀ (fuel i : Nat) (left : Nat → Int) (bor : Nat → Bool) (b : Nat → Nat), GSt N es d i b left → (∀ v, v < N → (bor v = true ↔ 1 ≤ b v)) → 11341 < fuel + i →
    ∃ g, GEnd N es d (wRun N es fuel left bor) g := by
  intro fuel
  induction fuel with
  | zero =>
    intro i left bor b hg hs hf
    have := hg.few
    omega
  | succ fuel ih =>
    intro i left bor b hg hs hf
    unfold wRun
    rcases debtor_lst N left with ⟨h1, h2⟩ | ⟨v, h1, hv, hl⟩
    · rw [if_pos (by omega)]
      exact ⟨b, hg.won h2⟩
    · rw [if_neg (by omega)]
      by_cases ha : allB N bor = true
      · rw [if_pos ha]
        refine ⟨b, hg.lost h fun v hv => (hs v hv).1 ?_⟩
        unfold allB at ha
        rw [List.all_eq_true] at ha
        exact ha v (List.mem_range.2 hv)
      · rw [if_neg ha]
        obtain ⟨z, hz, hbz⟩ : ∃ z, z < N ∧ b z = 0 := by
          refine Classical.byContradiction fun hn => ha ?_
          unfold allB
          rw [List.all_eq_true]
          intro v hv
          have hv := List.mem_range.1 hv
          have : b v ≠ 0 := fun e => hn ⟨v, hv, e⟩
          exact (hs v hv).2 (by omega)
        rw [h1, Int.toNat_natCast]
        refine ih (i + 1) _ _ _ (hg.step h hz hbz hv hl) (fun u hu => ?_) (by omega)
        by_cases e : u = v
        · subst e
          rw [if_pos rfl, upU_at]
          exact ⟨fun _ => by omega, fun _ => rfl⟩
        · rw [if_neg e, upU_ne _ _ e]
          exact hs u hu
/-- A divisor with a negative number of chips is not winnable. -/
theorem neg_lost {N : Nat} {es : List Edg} {d : List Int} (hG : Gr N (linkE es)) (h : sumI (fun v => d.getD v 0) N < 0) : ¬ Winn N (linkE es) (fun v => d.getD v 0) := by
  rintro ⟨s, hs⟩
  have h1 := app_total (D := fun v => d.getD v 0) hG s
  have h2 : sumI (fun v => d.getD v 0 - app N (linkE es) (fun v => d.getD v 0) s v) N ≤ sumI (fun v => d.getD v 0) N := sumI_le fun v hv => by have := hs v hv; show d.getD v 0 - _ ≤ _; omega
  omega
end Go.Proofs.YtpgopmmobbemcaaGreat

set_option linter.unusedVariables false
set_option linter.unusedSimpArgs false
set_option linter.unnecessarySimpa false
namespace Go.Proofs.YtpgopmmobbemcaaGreat
open Go.RowKit

theorem all36_any (l : List Bool) (g cap : Nat) (rest : List Value) (w : World) (hr : Row1 Value.bool w g 4 l rest) (hcap : l.length ≤ cap) (hl : l.length ≤ 1000) :
    Calls Tryz.prog 99 #[.slice (some ⟨g, 0, none⟩) l.length cap] w fun e w' => e = .returned (.bool (l.all fun x => x)) ∧ w = w' := by
  have HR := hide hr
  clear hr
  go_enter Tryz.func99, Tryz.ntmps99
  go_wp2_with fail
  go_loopg [3] l.length (fun gm iv wx => ∃ k : Nat, k ≤ l.length ∧ gm = l.length - k ∧ iv = .int .i64 k ∧ Hid ((l.all fun x => x) = ((l.drop k).all fun x => x)) ∧ wx = w)
  case atStart => exact ⟨0, by omega, by omega, rfl, rfl, rfl⟩
  case round =>
    obtain ⟨k, hk, hgm, rfl, HS, rfl⟩ := hrel
    have HGM := hide hgm
    clear hgm
    by_cases hlt : k < l.length
    · obtain ⟨x, hx⟩ : ∃ x, l[k]? = some x := ⟨_, List.getElem?_eq_getElem hlt⟩
      have c0 := HR.out.cell hx
      have hdr : l.drop k = x :: l.drop (k + 1) := by
        rw [List.drop_eq_getElem_cons hlt]
        congr 1
        rw [List.getElem?_eq_getElem hlt] at hx
        injection hx
      have HS2 : Hid ((l.all fun x => x) = (x && (l.drop (k + 1)).all fun x => x)) := by show _ = _; rw [HS.out, hdr]; rfl
      clear hdr hx
      cases x
      · have HS3 : Hid ((l.all fun x => x) = false) := by show _ = _; rw [HS2.out]; rfl
        go_wp2_with fail
        go_ret
        exact ⟨ret_bool HS3.out.symm, rfl⟩
      · have HS3 : Hid ((l.all fun x => x) = ((l.drop (k + 1)).all fun x => x)) := by show _ = _; rw [HS2.out]; rfl
        go_wp2_with fail
        go_roundg (l.length - (k + 1))
        case rel => exact ⟨k + 1, by omega, rfl, by go_num, HS3, by first | rfl | trivial⟩
        case measure => rw [HGM.out]; omega
    · have hke : k = l.length := by omega
      have HS3 : Hid ((l.all fun x => x) = true) := by show _ = _; rw [HS.out, hke, List.drop_length]; rfl
      clear hke
      go_wp2_with fail
      go_ret
      exact ⟨ret_bool HS3.out.symm, rfl⟩
/-- The chips when v borrows, up to vertex k. -/
def refB (es : List Edg) (v : Nat) (left : Nat → Int) (k : Nat) : Nat → Int := fun i => if i = v then left v + valU es v k else if i < k then left i - betw es i v else left i
theorem refB_zero (es : List Edg) (v : Nat) (left : Nat → Int) : refB es v left 0 = left := by
  funext i
  unfold refB
  by_cases e : i = v
  · subst e; rw [if_pos rfl]; simp [valU]
  · rw [if_neg e, if_neg (by omega)]
theorem refB_same (es : List Edg) (v : Nat) (left : Nat → Int) : refB es v left (v + 1) = refB es v left v := by
  funext i
  unfold refB
  by_cases e : i = v
  · rw [if_pos e, if_pos e]; simp [valU]
  · rw [if_neg e, if_neg e]
    by_cases h : i < v
    · rw [if_pos h, if_pos (by omega)]
    · rw [if_neg h, if_neg (by omega)]
theorem refB_next (es : List Edg) {v k : Nat} (left : Nat → Int) (h : k ≠ v) : refB es v left (k + 1) = updF (updF (refB es v left k) k (left k - betw es k v)) v (left v + valU es v k + betw es k v) := by
  funext i
  unfold updF
  by_cases e : i = v
  · subst e
    rw [if_pos rfl]
    unfold refB
    rw [if_pos rfl]
    show left i + (valU es i k + _) = _
    rw [if_neg (by omega)]
    omega
  · rw [if_neg e]
    by_cases e2 : i = k
    · subst e2
      rw [if_pos rfl]
      unfold refB
      rw [if_neg e, if_pos (by omega)]
    · rw [if_neg e2]
      unfold refB
      rw [if_neg e, if_neg e]
      by_cases h3 : i < k
      · rw [if_pos h3, if_pos (by omega)]
      · rw [if_neg h3, if_neg (by omega)]
theorem refB_end {N : Nat} {es : List Edg} (h : gErr N es = 0) (hok : EOk N es) {v w : Nat} (hv : v < N) (hw : w < N) (left : Nat → Int) : refB es v left N w = borF es v left w := by
  rw [bor_rows h hok hv hw]
  unfold refB
  by_cases e : w = v
  · subst e
    rw [if_pos rfl, if_pos rfl, if_pos rfl]
    omega
  · rw [if_neg e, if_neg e, if_neg (show ¬ v = w from fun h => e h.symm), if_pos hw, betw_symm]
    omega
theorem valU_bnd {es : List Edg} (hm : ∀ x ∈ es, 0 ≤ x.m ∧ x.m ≤ 50) (v : Int) : ∀ k : Nat, 0 ≤ valU es v k ∧ valU es v k ≤ 50 * k
  | 0 => by simp [valU]
  | k + 1 => by
    have h1 := valU_bnd hm v k
    have h2 := betw_range hm (k : Int) v
    unfold valU
    split <;> (push_cast; omega)
/-- The chips and the marks, in memory. -/
structure WMem (w0 : World) (N gd gb : Nat) (rest : List Value) (left : Nat → Int) (bor : Nat → Bool) (w : World) : Prop where
  rd : Row1 (Value.int .i64) w gd 3 (lst N left) rest
  rb : Row1 Value.bool w gb 4 ((List.range N).map bor) []
  ne : gd ≠ gb
  lo : w0.heap.size ≤ gd ∧ w0.heap.size ≤ gb
  be : Below w0.heap.size w0 w
theorem WMem.below {w0 w w' : World} {N gd gb : Nat} {rest : List Value} {left : Nat → Int} {bor : Nat → Bool} (h : WMem w0 N gd gb rest left bor w) (hb : Below w.heap.size w w') : WMem w0 N gd gb rest left bor w' :=
  ⟨h.rd.below hb, h.rb.below hb, h.ne, h.lo, below_then h.be hb⟩
theorem WMem.put {w0 w : World} {N gd gb : Nat} {rest : List Value} {left : Nat → Int} {bor : Nat → Bool} (h : WMem w0 N gd gb rest left bor w) {i : Nat} (hi : i < N) (x : Int) : WMem w0 N gd gb rest (updF left i x) bor (w.setCell ⟨gd, i, none⟩ (.int .i64 x)) := by
  have h5 := h.rd.put (i := i) (by rw [lst_len]; exact hi) x
  rw [lst_set] at h5
  exact ⟨h5, h.rb.other (fun e => h.ne e.symm) _, h.ne, h.lo, h.be.setCell h.lo.1 _⟩
theorem WMem.congr {w0 w : World} {N gd gb : Nat} {rest : List Value} {left l2 : Nat → Int} {bor b2 : Nat → Bool} (h : WMem w0 N gd gb rest left bor w) (h1 : ∀ i, i < N → left i = l2 i) (h2 : ∀ i, i < N → bor i = b2 i) : WMem w0 N gd gb rest l2 b2 w := by
  refine ⟨?_, ?_, h.ne, h.lo, h.be⟩
  · rw [← lst_congr h1]; exact h.rd
  · rw [← List.map_congr_left (fun i hi => h2 i (List.mem_range.1 hi))]; exact h.rb
theorem allB_eq (N : Nat) (bor : Nat → Bool) : (((List.range N).map bor).all fun x => x) = allB N bor := by
  unfold allB
  rw [List.all_map]
  rfl
set_option maxRecDepth 100000 in
set_option maxHeartbeats 8000000 in
theorem rwins36_any {N : Nat} {es : List Edg} (hV : gErr N es = 0) (hok : EOk N es) (h12 : 1 ≤ N ∧ N ≤ 12) (oe : Option Addr) (c : Nat) (F : Foot) (w : World) (hs : SliceR edgR 3 F w oe es) (hc : es.length ≤ c) (d : List Int) (od : Option Addr) (cd : Nat) (G : Foot) (hd : SliceR intR 1 G w od d) (hdc : N ≤ cd) (hdN : d.length = N) (hdb : Hid (∀ y ∈ d, -1048576 ≤ y ∧ y ≤ 1048576)) :
    Calls Tryz.prog 62 #[.agg #[.int .i64 N, .slice oe es.length c], .slice od N cd] w fun e w' => e = .returned (.bool (if totL d < 0 then false else wRun N es 10000000 (fun v => d.getD v 0) (fun _ => false))) ∧ Below w.heap.size w w' := by
  obtain ⟨M, hM⟩ : ∃ M : Nat, M = 10000000 := ⟨_, rfl⟩
  rw [← hM]
  have HM := hide hM
  obtain ⟨_, _, _, _, bd, ofd, hod, _, _⟩ := hd.int_at (i := 0) (by omega)
  subst hod
  obtain ⟨D, hD⟩ : ∃ D : Nat → Int, D = fun v => d.getD v 0 := ⟨_, rfl⟩
  have HDB : Hid (∀ u, -1048576 ≤ D u ∧ D u ≤ 1048576) := fun u => by
    rw [hD]
    show -1048576 ≤ d.getD u 0 ∧ d.getD u 0 ≤ 1048576
    rw [List.getD_eq_getElem?_getD]
    cases h : d[u]? with
    | none => simp
    | some x => have := hdb.out x (List.mem_of_getElem? h); simpa using this
  have HDL : Hid (d = lst N D) := by
    show _ = _
    apply List.ext_getElem?
    intro i
    by_cases hi : i < N
    · rw [lst_get _ hi, hD]
      show _ = some (d.getD i 0)
      rw [List.getD_eq_getElem?_getD, List.getElem?_eq_getElem (by omega)]
      rfl
    · rw [List.getElem?_eq_none (by omega), List.getElem?_eq_none (by rw [lst_len]; omega)]
  rw [← hD]
  have HV := hide hV
  have HOK := hide hok
  have HMB : Hid (∀ x ∈ es, 0 ≤ x.m ∧ x.m ≤ 50) := fun x hx => by have := (hok.at_ x hx).2; omega
  have hes := hok.len
  obtain ⟨W1, e1⟩ : ∃ W1, w.alloc (.cells #[.int .i64 N, .slice oe es.length c] 24) = W1 := ⟨_, rfl⟩
  have bx1 : Box W1 w.heap.size [.int .i64 N, .slice oe es.length c] 24 := by rw [← e1]; exact Box.new w [.int .i64 N, .slice oe es.length c] 24
  have bb1 := bnew (Below.refl w.heap.size w) (.cells #[.int .i64 N, .slice oe es.length c] 24)
  rw [e1] at bb1
  have HX := hide bx1
  have HB1 := hide bb1
  have hwl := bx1.lt
  have HS1 := hide (hs.below edgR_ok bb1)
  have HD1 := hide (hd.below intR_ok bb1)
  have HDN := hide hdN
  have HTOT : Hid (Calls Tryz.prog 97 #[.slice (some ⟨bd, ofd, none⟩) N cd] W1 fun e w' => e = .returned (.int .i64 (totL d)) ∧ W1 = w') := by
    have h5 := total_any d (some ⟨bd, ofd, none⟩) cd G W1 HD1.out (by omega) (by omega) (fun k hk => by have := hdb.out k hk; omega)
    rw [hdN] at h5
    exact h5
  obtain ⟨tot, htot⟩ : ∃ t, t = totL d := ⟨_, rfl⟩
  rw [← htot] at HTOT ⊢
  clear hs hd bx1 bb1 hok hD hdN hM hV htot
  go_enter Tryz.func62, Tryz.ntmps62
  go_wp2_with fail
  refine HTOT.out.mono ?_
  rintro e w2 ⟨rfl, hw2⟩
  have hb2 : Below W1.heap.size W1 w2 := by rw [← hw2]; exact Below.refl _ _
  have HB2 := hide hb2
  have bx2 := HX.out.below hb2
  clear hw2
  have y0 := bx2.cell 0
  simp only [List.getElem?_cons_zero] at y0
  clear hb2 bx2 e1
  by_cases ht : tot < 0
  · have hR : Hid ((if tot < 0 then false else wRun N es M D (fun _ => false)) = false) := if_pos ht
    go_wp2_with fail
    go_ret
    exact ⟨by first | exact ret_bool hR.out.symm | exact ret_bool rfl, HB1.out.trans (HB2.out.mono (by omega))⟩
  have hR : Hid ((if tot < 0 then false else wRun N es M D (fun _ => false)) = wRun N es M D (fun _ => false)) := if_neg ht
  have HD2 := hide (HD1.out.below intR_ok HB2.out)
  have HOM : Hid (OwnS intR 1 w2.heap.size 3 Non (w2.alloc (.cells #[] 3)) (.slice (some ⟨w2.heap.size, 0, none⟩) 0 0) []) := OwnS.made _ _ _ _ _
  go_wp2_with (first
    | (at_builtin; refine wpList_append_rep rfl (.tmp 12) (.tmp 13) 25 rfl w2.heap.size 3 _ 1 8 Tryz.underlying25 iInfo rfl (by decide) intR_ok Non G (.slice (some ⟨w2.heap.size, 0, none⟩) 0 0) [] (by simp [Act.eval, Act.put]) HOM.out (some ⟨bd, ofd, none⟩) cd d (by rw [HDN.out]; simp [Act.eval, Act.put]) (HD2.out.below intR_ok (bnew (Below.refl _ _) _)) (fun _ _ h => h) (fun _ h => h.elim) (by rw [HDN.out]; simp; omega) (by rw [HDN.out]; simp; omega) (by simp) ?_; intro v' w3 ho hb3 hg3; obtain ⟨gd, cap, rest, hv', hgd, hcap0, _, hrow, _⟩ := ho.row (xs := [] ++ d) (by intro e; have h9 := HDN.out; simp at e; rw [e] at h9; simp at h9; omega); rw [List.nil_append] at hrow hv' hcap0; have HR3 : Hid (Row1 (Value.int .i64) w3 gd 3 (lst N D) rest) := (by rw [← HDL.out]; exact hrow); have HBW : Hid (Below w2.heap.size w2 w3) := (bnew (Below.refl _ _) _).trans hb3; have hcap : N ≤ cap := (by rw [HDN.out] at hcap0; omega); rw [HDN.out] at hv'; subst hv'; have y0 := ((HX.out.below HB2.out).below HBW.out).cell 0; simp only [List.getElem?_cons_zero] at y0; clear hrow hcap0 ho hb3 hg3)
    | (at_make; refine wpList_make_row _ rfl _ _ 139 rfl 4 false 1 Tryz.underlying139 rbInfo rfl .i64 .i64 _ _ N rfl rfl rfl rfl (by omega) (by unfold maxLen; omega) (fun w4 hrow4 hb4 hg4 => ?_)))
  obtain ⟨gb, hgb⟩ : ∃ gb, gb = w3.heap.size := ⟨_, rfl⟩
  rw [← hgb] at hrow4 hb4 ⊢
  have HWM : Hid (WMem W1 N gd gb rest D (fun _ => false) w4) := ⟨HR3.out.below (by rw [← hgb]; exact hb4), by
      have e : (List.range N).map (fun _ => false) = List.replicate N false := by rw [List.map_const', List.length_range]
      rw [e]; exact hrow4, by have := HR3.out.lt; omega, by have := HB2.out.size; have := HBW.out.size; omega, by
      have h1 := HB2.out.size
      have h2 := HBW.out.size
      exact HB2.out.trans ((HBW.out.mono (by omega)).trans (hb4.mono (by omega)))⟩
  have HCAP := hide hcap
  clear hrow4 hb4 hg4 hgb HOM HR3 HBW hgd y0 ht hcap
  go_wp2_with fail
  go_loopg [6] M (fun gm iv wx => ∃ (k : Nat) (kk : Int) (left : Nat → Int) (bor : Nat → Bool), k ≤ M ∧ gm = M - k ∧ iv = .int .i64 kk ∧ Hid (kk = (k : Int)) ∧ Hid (WMem W1 N gd gb rest left bor wx) ∧ Hid (wRun N es M D (fun _ => false) = wRun N es (M - k) left bor) ∧ Hid (∀ u, -(1048576 + 100000 * (k : Int)) ≤ left u ∧ left u ≤ 1048576 + 100000 * (k : Int)))
  case atStart => exact ⟨0, 0, D, fun _ => false, by omega, by omega, rfl, rfl, HWM, rfl, fun u => by have := HDB.out u; omega⟩
  case round =>
    obtain ⟨k, kk, left, bor, hk, hgm, rfl, HKK, HW, HRUN, HLB⟩ := hrel
    have hkk0 : 0 ≤ kk ∧ kk ≤ 10000000 := by have := HKK.out; have := HM.out; omega
    have HGM := hide hgm
    have hMk : M ≤ 10000000 := by have := HM.out; omega
    clear hgm HWM
    by_cases hkM : k < M
    case neg =>
      have hke : k = M := by omega
      have q1 : decide (kk < 10000000) = false := by have := HM.out; have := HKK.out; exact decide_eq_false (by omega)
      have HR2 : Hid (wRun N es M D (fun _ => false) = false) := by show _ = _; rw [HRUN.out, hke, Nat.sub_self]; rfl
      have HBW : Hid (Below w.heap.size w wr) := HB1.out.trans (HW.out.be.mono (by omega))
      clear hke hkM
      go_wp2_with fail
      go_ret
      exact ⟨ret_bool (by rw [HR2.out]), HBW.out⟩
    have q1 : decide (kk < 10000000) = true := by have := HM.out; have := HKK.out; exact decide_eq_true (by omega)
    have HBW : Hid (Below w.heap.size w wr) := HB1.out.trans (HW.out.be.mono (by omega))
    have HDE : Hid (Calls Tryz.prog 98 #[.slice (some ⟨gd, 0, none⟩) N cap] wr fun e w' => e = .returned (.int .i64 (debtorL (lst N left) 0)) ∧ wr = w') := by
      have h5 := debtor_any (lst N left) (some ⟨gd, 0, none⟩) cap All wr (HW.out.rd.ints (fun y hy => by obtain ⟨v, _, rfl⟩ := List.mem_map.1 hy; have := HLB.out v; unfold I64; omega) trivial) (by rw [lst_len]; exact HCAP.out) (by rw [lst_len]; omega)
      rw [lst_len] at h5
      exact h5
    have HSP := hide (debtor_lst N left)
    have HRUN2 : Hid (wRun N es M D (fun _ => false) = if debtorL (lst N left) 0 < 0 then true else if allB N bor = true then false else
      wRun N es (M - (k + 1)) (borF es (debtorL (lst N left) 0).toNat left) (fun u => if u = (debtorL (lst N left) 0).toNat then true else bor u)) := by
      show _ = _
      rw [HRUN.out, show M - k = (M - (k + 1)) + 1 by omega, wRun]
    generalize debtorL (lst N left) 0 = x at *
    go_wp2_with fail
    refine HDE.out.mono ?_
    rintro e w5 ⟨rfl, hw5⟩
    subst hw5
    by_cases hx : x < 0
    · have HR2 : Hid (wRun N es M D (fun _ => false) = true) := by show _ = _; rw [HRUN2.out, if_pos hx]
      go_wp2_with fail
      go_ret
      exact ⟨ret_bool (by rw [HR2.out]), HBW.out⟩
    obtain ⟨v, hxv, hvN, hvl⟩ : ∃ v : Nat, x = v ∧ v < N ∧ left v < 0 := by
      rcases HSP.out with ⟨h1, _⟩ | h
      · omega
      · exact h
    subst hxv
    have HAL : Hid (Calls Tryz.prog 99 #[.slice (some ⟨gb, 0, none⟩) N N] wr fun e w' => e = .returned (.bool (allB N bor)) ∧ wr = w') := by
      have h5 := all36_any ((List.range N).map bor) gb N [] wr HW.out.rb (by simp) (by simp; omega)
      rw [allB_eq, List.length_map, List.length_range] at h5
      exact h5
    have HRUN3 : Hid (wRun N es M D (fun _ => false) = if allB N bor = true then false else wRun N es (M - (k + 1)) (borF es v left) (fun u => if u = v then true else bor u)) := by
      show _ = _
      rw [HRUN2.out, if_neg hx, Int.toNat_natCast]
    clear hx HSP HRUN2 HDE
    go_wp2_with fail
    refine HAL.out.mono ?_
    rintro e w6 ⟨rfl, hw6⟩
    subst hw6
    rcases hab : allB N bor with _ | _
    case true =>
      have HR2 : Hid (wRun N es M D (fun _ => false) = false) := by show _ = _; rw [HRUN3.out, if_pos hab]
      clear hab
      go_wp2_with fail
      go_ret
      exact ⟨ret_bool (by rw [HR2.out]), HBW.out⟩
    have HRUN4 : Hid (wRun N es M D (fun _ => false) = wRun N es (M - (k + 1)) (borF es v left) (fun u => if u = v then true else bor u)) := by
      show _ = _
      rw [HRUN3.out, if_neg (by rw [hab]; simp)]
    have f0 := HW.out.rb.free v
    have c0 : ∃ y, wr.cell? ⟨gb, v, none⟩ = some (.bool y) := ⟨bor v, HW.out.rb.cell (by rw [List.getElem?_map, List.getElem?_range hvN]; rfl)⟩
    obtain ⟨yb, c0⟩ := c0
    have hv0 : (0 : Int) ≤ v := by omega
    have hv1 : (v : Int) < N := by omega
    obtain ⟨W8, hW8⟩ : ∃ W8, wr.setCell ⟨gb, v, none⟩ (.bool true) = W8 := ⟨_, rfl⟩
    have HW8 : Hid (WMem W1 N gd gb rest (refB es v left 0) (fun u => if u = v then true else bor u) W8) := by
      rw [← hW8]
      have h6 := HW.out.rb.put (i := v) (by simp; exact hvN) true
      rw [map_set] at h6
      show WMem _ _ _ _ _ _ _ _
      rw [refB_zero]
      exact ⟨HW.out.rd.other HW.out.ne _, h6, HW.out.ne, HW.out.lo, HW.out.be.setCell HW.out.lo.2 _⟩
    have HPB : Hid (∀ (j i : Nat), j ≤ N → -(1049600 + 100000 * (k : Int)) ≤ refB es v left j i ∧ refB es v left j i ≤ 1049600 + 100000 * (k : Int)) := fun j i hj => by
      have h1 := valU_bnd HMB.out (v : Int) j
      have h2 := betw_range HMB.out (i : Int) (v : Int)
      have h3 := HLB.out v
      have h4 := HLB.out i
      unfold refB
      split
      · omega
      · split <;> omega
    have HKM := hide hkM
    clear hab HAL HRUN3 hkM
    go_wp2_with fail
    clear c0 f0 hW8
    go_loopg [8] N (fun gm iv wx => ∃ u : Nat, u ≤ N ∧ gm = N - u ∧ iv = .int .i64 u ∧ Hid (WMem W1 N gd gb rest (refB es v left u) (fun u => if u = v then true else bor u) wx))
    case atStart => exact ⟨0, by omega, by omega, rfl, HW8⟩
    case round =>
      clear HW8 HW HBW
      obtain ⟨u, hu, hgm, rfl, HW⟩ := hrel
      have HGM2 := hide hgm
      have bx := HX.out.under HW.out.be hwl
      have y0 := bx.cell 0
      have y1 := bx.cell 1
      simp only [List.getElem?_cons_zero, List.getElem?_cons_succ] at y0 y1
      clear hgm bx
      by_cases hlu : u < N
      · by_cases hvu : u = v
        · have HL2 : Hid (WMem W1 N gd gb rest (refB es v left (u + 1)) (fun u => if u = v then true else bor u) wr) := by show WMem _ _ _ _ _ _ _ _; rw [show refB es v left (u + 1) = refB es v left u from by rw [hvu]; exact refB_same es v left]; exact HW.out
          have hq : ((u : Int) != (v : Int)) = false := by simp [hvu]
          clear hvu
          go_wp2_with fail
          go_roundg (N - (u + 1))
          case rel => exact ⟨u + 1, by omega, rfl, by go_num, HL2⟩
          case measure => rw [HGM2.out]; omega
        · have hq : ((u : Int) != (v : Int)) = true := by simp; omega
          have HNX := hide (refB_next es left hvu)
          have HNE := hide hvu
          have HBT := hide (fun (W : World) (hW : Below W1.heap.size W1 W) => betw_any (N : Int) es oe c F W (HS1.out.below edgR_ok hW) hc (by omega) (u : Int) (v : Int))
          have hbr := betw_range HMB.out (u : Int) (v : Int)
          obtain ⟨x, hx⟩ : ∃ x, x = betw es (u : Int) (v : Int) := ⟨_, rfl⟩
          rw [← hx] at HBT hbr HNX
          have hzu := HPB.out u u hu
          have hzv := HPB.out u v hu
          have eU : refB es v left u u = left u := by unfold refB; rw [if_neg hvu, if_neg (by omega)]
          have eV : refB es v left u v = left v + valU es v u := by unfold refB; rw [if_pos rfl]
          obtain ⟨zu, hzu2⟩ : ∃ z, z = left u := ⟨_, rfl⟩
          obtain ⟨zv, hzv2⟩ : ∃ z, z = left v + valU es v u := ⟨_, rfl⟩
          rw [eU, ← hzu2] at hzu
          rw [eV, ← hzv2] at hzv
          rw [← hzu2, ← hzv2] at HNX
          have cz : wr.cell? ⟨gd, u, none⟩ = some (.int .i64 zu) := by rw [hzu2, ← eU]; exact HW.out.rd.cell (lst_get _ hlu)
          have HCV : Hid (refB es v left u v = zv) := by show _ = _; rw [eV, hzv2]
          have HFZ : Hid (∀ W, Below wr.heap.size wr W → W.frozen? ⟨gd, u, none⟩ = false) := fun W hW => (HW.out.rd.below hW).free u
          have fz := HFZ.out wr (Below.refl _ _)
          have HRT : Hid (∀ W, Below wr.heap.size wr W → WMem W1 N gd gb rest (updF (refB es v left u) u (zu - x)) (fun u => if u = v then true else bor u) (W.setCell ⟨gd, u, none⟩ (.int .i64 (zu - x)))) := fun W hW => (HW.out.below hW).put hlu _
          have HBZ := hide (Below.refl wr.heap.size wr)
          have HBR := hide HW.out.be
          have hlo := HW.out.lo.1
          have hgdl := HW.out.rd.lt
          have hne1 : w.heap.size ≠ gd := by omega
          have hw1 : IntKind.i64.wrap (zu - x) = zu - x := i64_sam2 (by omega)
          have hu0 : (0 : Int) ≤ u := by omega
          have hu1 : (u : Int) < N := by omega
          clear hvu hx eU eV hzu2 hzv2
          go_upto_region 18 with fail
          go_cut [] (fun wx => Hid (WMem W1 N gd gb rest (updF (refB es v left u) u (zu - x)) (fun u => if u = v then true else bor u) wx))
          case first =>
            refine wp_region_tail (l := [?q1a0, ?q1a1, ?q1a2, ?q1a3, ?q1a4, ?q1a5, ?q1a6, ?q1a7, ?q1a8, ?q1a9]) (last := ?q1al) (S := fun w' => w'.cell? ⟨w.heap.size, 0, none⟩ = some (.int .i64 N) ∧ w'.cell? ⟨w.heap.size, 1, none⟩ = some (.slice oe es.length c) ∧ w'.cell? ⟨gd, u, none⟩ = some (.int .i64 zu)) (by kernel_rfl) (by kernel_rfl) ⟨y0, y1, cz⟩ (fun hHeld => ?_)
            refine wpAnyH_take (i := 0) (oi := ?q1oi0) (v := ?q1v0) ?q1hi0 (by kernel_rfl) (by kernel_rfl) (by kernel_rfl) ?q1hq0 ?q1hy0 (by assumption) ?q1rest0
            case q1hi0 => simp only [List.getElem?_toArray, List.getElem?_cons_zero, List.getElem?_cons_succ]; rfl
            case q1hq0 => exact fun _ _ _ h => h
            case q1hy0 => refine Or.inl ⟨by rfl, ?_⟩; intro w hSw; (try dsimp only at hSw); go_simp; (try with_reducible rfl)
            try simp only [Act.put, List.setIfInBounds_toArray, List.set_cons_zero, List.set_cons_succ]
            refine wpAnyH_take (i := 1) (oi := ?q1oi1) (v := ?q1v1) ?q1hi1 (by kernel_rfl) (by kernel_rfl) (by kernel_rfl) ?q1hq1 ?q1hy1 (by assumption) ?q1rest1
            case q1hi1 => simp only [List.getElem?_toArray, List.getElem?_cons_zero, List.getElem?_cons_succ]; rfl
            case q1hq1 => exact fun _ _ _ h => h
            case q1hy1 => refine Or.inl ⟨by rfl, ?_⟩; intro w hSw; (try dsimp only at hSw); go_simp; (try with_reducible rfl)
            try simp only [Act.put, List.setIfInBounds_toArray, List.set_cons_zero, List.set_cons_succ]
            refine wpAnyH_take (i := 2) (oi := ?q1oi2) (v := ?q1v2) ?q1hi2 (by kernel_rfl) (by kernel_rfl) (by kernel_rfl) ?q1hq2 ?q1hy2 (by assumption) ?q1rest2
            case q1hi2 => simp only [List.getElem?_toArray, List.getElem?_cons_zero, List.getElem?_cons_succ]; rfl
            case q1hq2 => exact fun _ _ _ h => h
            case q1hy2 => refine Or.inl ⟨by rfl, ?_⟩; intro w hSw; (try dsimp only at hSw); go_simp; (try with_reducible rfl)
            try simp only [Act.put, List.setIfInBounds_toArray, List.set_cons_zero, List.set_cons_succ]
            refine wpAnyH_take (i := 3) (oi := ?q1oi3) (v := ?q1v3) ?q1hi3 (by kernel_rfl) (by kernel_rfl) (by kernel_rfl) ?q1hq3 ?q1hy3 (by assumption) ?q1rest3
            case q1hi3 => simp only [List.getElem?_toArray, List.getElem?_cons_zero, List.getElem?_cons_succ]; rfl
            case q1hq3 => exact fun _ _ _ h => h
            case q1hy3 => refine Or.inl ⟨by rfl, ?_⟩; intro w hSw; (try dsimp only at hSw); go_simp; (try with_reducible rfl)
            try simp only [Act.put, List.setIfInBounds_toArray, List.set_cons_zero, List.set_cons_succ]
            refine wpAnyH_take (i := 4) (oi := ?q1oi4) (v := ?q1v4) ?q1hi4 (by kernel_rfl) (by kernel_rfl) (by kernel_rfl) ?q1hq4 ?q1hy4 (by assumption) ?q1rest4
            case q1hi4 => simp only [List.getElem?_toArray, List.getElem?_cons_zero, List.getElem?_cons_succ]; rfl
            case q1hq4 => exact fun _ _ _ h => h
            case q1hy4 => refine Or.inl ⟨by rfl, ?_⟩; intro w hSw; (try dsimp only at hSw); go_simp; (try with_reducible rfl)
            try simp only [Act.put, List.setIfInBounds_toArray, List.set_cons_zero, List.set_cons_succ]
            refine wpAnyH_take (i := 5) (oi := ?q1oi5) (v := ?q1v5) ?q1hi5 (by kernel_rfl) (by kernel_rfl) (by kernel_rfl) ?q1hq5 ?q1hy5 (by assumption) ?q1rest5
            case q1hi5 => simp only [List.getElem?_toArray, List.getElem?_cons_zero, List.getElem?_cons_succ]; rfl
            case q1hq5 => exact fun _ _ _ h => h
            case q1hy5 => refine Or.inl ⟨by rfl, ?_⟩; intro w hSw; (try dsimp only at hSw); go_simp; (try with_reducible rfl)
            try simp only [Act.put, List.setIfInBounds_toArray, List.set_cons_zero, List.set_cons_succ]
            refine wpAnyH_take (i := 6) (oi := ?q1oi6) (v := ?q1v6) ?q1hi6 (by kernel_rfl) (by kernel_rfl) (by kernel_rfl) ?q1hq6 ?q1hy6 (by assumption) ?q1rest6
            case q1hi6 => simp only [List.getElem?_toArray, List.getElem?_cons_zero, List.getElem?_cons_succ]; rfl
            case q1hq6 => exact fun _ _ _ h => h
            case q1hy6 => refine Or.inl ⟨by rfl, ?_⟩; intro w hSw; (try dsimp only at hSw); go_simp; (try with_reducible rfl)
            try simp only [Act.put, List.setIfInBounds_toArray, List.set_cons_zero, List.set_cons_succ]
            refine wpAnyH_ready (rs := [7]) (by kernel_rfl) (by simp) ?_
            refine AllReadyH.cons (o := ?q1oi7) ?q1hi7 ?q1rest7 AllReadyH.nil
            case q1hi7 => simp only [List.getElem?_toArray, List.getElem?_cons_zero, List.getElem?_cons_succ]; rfl
            intro K hK
            go_simp
            go_at_call 100; refine (HBT.out _ (by first | with_reducible exact HBR.out | with_reducible exact HBR.out.drew)).mono ?_
            rintro e w5 ⟨rfl, h5⟩
            have y0 := (h5.cell (World.block_lt_of_cell? _ _ y0)).trans y0
            have y1 := (h5.cell (World.block_lt_of_cell? _ _ y1)).trans y1
            have cz := (h5.cell (World.block_lt_of_cell? _ _ cz)).trans cz
            have HBZ := hide (show Below wr.heap.size wr w5 from below_then (by first | with_reducible exact HBZ.out | with_reducible exact HBZ.out.drew) h5)
            have fz := HFZ.out _ HBZ.out
            clear h5
            try dsimp only
            refine hK.out _ _ ⟨y0, y1, cz⟩ (fun hHeld => ?_)
            clear hK K
            try simp only [Act.put, List.setIfInBounds_toArray, List.set_cons_zero, List.set_cons_succ]
            refine wpAnyH_take (i := 8) (oi := ?q1oi8) (v := ?q1v8) ?q1hi8 (by kernel_rfl) (by kernel_rfl) (by kernel_rfl) ?q1hq8 ?q1hy8 (by assumption) ?q1rest8
            case q1hi8 => simp only [List.getElem?_toArray, List.getElem?_cons_zero, List.getElem?_cons_succ]; rfl
            case q1hq8 => exact fun _ _ _ h => h
            case q1hy8 => refine Or.inl ⟨by rfl, ?_⟩; intro w hSw; (try dsimp only at hSw); go_simp; (try with_reducible rfl)
            try simp only [Act.put, List.setIfInBounds_toArray, List.set_cons_zero, List.set_cons_succ]
            refine wpAnyH_take (i := 9) (oi := ?q1oi9) (v := ?q1v9) ?q1hi9 (by kernel_rfl) (by kernel_rfl) (by kernel_rfl) ?q1hq9 ?q1hy9 (by assumption) ?q1rest9
            case q1hi9 => simp only [List.getElem?_toArray, List.getElem?_cons_zero, List.getElem?_cons_succ]; rfl
            case q1hq9 => exact fun _ _ _ h => h
            case q1hy9 => refine Or.inl ⟨by rfl, ?_⟩; intro w hSw; (try dsimp only at hSw); go_simp; (try with_reducible rfl)
            try simp only [Act.put, List.setIfInBounds_toArray, List.set_cons_zero, List.set_cons_succ]
            refine wpAnyH_done (by kernel_rfl) ?_ _
            dsimp only [TailQ, List.append, List.cons_append, List.nil_append]
            have hrt := hide (HRT.out _ HBZ.out)
            go_wp2_with fail
            go_meet
            exact hrt
          case rest =>
            clear y0 y1 cz fz HBZ HBR HFZ HRT
            have HC := hide hcut.out
            clear hcut
            have bx := HX.out.under HC.out.be hwl
            have y0 := bx.cell 0
            have y1 := bx.cell 1
            simp only [List.getElem?_cons_zero, List.getElem?_cons_succ] at y0 y1
            clear bx
            have cz : wc.cell? ⟨gd, v, none⟩ = some (.int .i64 zv) := by
              have h5 := HC.out.rd.cell (lst_get _ hvN)
              have e : updF (refB es v left u) u (zu - x) v = zv := by unfold updF; rw [if_neg (fun e => HNE.out e.symm)]; exact HCV.out
              rw [e] at h5
              exact h5
            have HFZ : Hid (∀ W, Below wc.heap.size wc W → W.frozen? ⟨gd, v, none⟩ = false) := fun W hW => (HC.out.rd.below hW).free v
            have fz := HFZ.out wc (Below.refl _ _)
            have HRT : Hid (∀ W, Below wc.heap.size wc W → WMem W1 N gd gb rest (refB es v left (u + 1)) (fun u => if u = v then true else bor u) (W.setCell ⟨gd, v, none⟩ (.int .i64 (zv + x)))) := fun W hW => by
              rw [HNX.out]
              exact (HC.out.below hW).put hvN _
            have HBZ := hide (Below.refl wc.heap.size wc)
            have HBR := hide HC.out.be
            have hw2 : IntKind.i64.wrap (zv + x) = zv + x := i64_sam2 (by omega)
            clear hw1
            go_wp2_with fail
            refine wp_region_tail (l := [?q2a0, ?q2a1, ?q2a2, ?q2a3, ?q2a4, ?q2a5, ?q2a6, ?q2a7, ?q2a8, ?q2a9]) (last := ?q2al) (S := fun w' => w'.cell? ⟨w.heap.size, 0, none⟩ = some (.int .i64 N) ∧ w'.cell? ⟨w.heap.size, 1, none⟩ = some (.slice oe es.length c) ∧ w'.cell? ⟨gd, v, none⟩ = some (.int .i64 zv)) (by kernel_rfl) (by kernel_rfl) ⟨y0, y1, cz⟩ (fun hHeld => ?_)
            refine wpAnyH_take (i := 0) (oi := ?q2oi0) (v := ?q2v0) ?q2hi0 (by kernel_rfl) (by kernel_rfl) (by kernel_rfl) ?q2hq0 ?q2hy0 (by assumption) ?q2rest0
            case q2hi0 => simp only [List.getElem?_toArray, List.getElem?_cons_zero, List.getElem?_cons_succ]; rfl
            case q2hq0 => exact fun _ _ _ h => h
            case q2hy0 => refine Or.inl ⟨by rfl, ?_⟩; intro w hSw; (try dsimp only at hSw); go_simp; (try with_reducible rfl)
            try simp only [Act.put, List.setIfInBounds_toArray, List.set_cons_zero, List.set_cons_succ]
            refine wpAnyH_take (i := 1) (oi := ?q2oi1) (v := ?q2v1) ?q2hi1 (by kernel_rfl) (by kernel_rfl) (by kernel_rfl) ?q2hq1 ?q2hy1 (by assumption) ?q2rest1
            case q2hi1 => simp only [List.getElem?_toArray, List.getElem?_cons_zero, List.getElem?_cons_succ]; rfl
            case q2hq1 => exact fun _ _ _ h => h
            case q2hy1 => refine Or.inl ⟨by rfl, ?_⟩; intro w hSw; (try dsimp only at hSw); go_simp; (try with_reducible rfl)
            try simp only [Act.put, List.setIfInBounds_toArray, List.set_cons_zero, List.set_cons_succ]
            refine wpAnyH_take (i := 2) (oi := ?q2oi2) (v := ?q2v2) ?q2hi2 (by kernel_rfl) (by kernel_rfl) (by kernel_rfl) ?q2hq2 ?q2hy2 (by assumption) ?q2rest2
            case q2hi2 => simp only [List.getElem?_toArray, List.getElem?_cons_zero, List.getElem?_cons_succ]; rfl
            case q2hq2 => exact fun _ _ _ h => h
            case q2hy2 => refine Or.inl ⟨by rfl, ?_⟩; intro w hSw; (try dsimp only at hSw); go_simp; (try with_reducible rfl)
            try simp only [Act.put, List.setIfInBounds_toArray, List.set_cons_zero, List.set_cons_succ]
            refine wpAnyH_take (i := 3) (oi := ?q2oi3) (v := ?q2v3) ?q2hi3 (by kernel_rfl) (by kernel_rfl) (by kernel_rfl) ?q2hq3 ?q2hy3 (by assumption) ?q2rest3
            case q2hi3 => simp only [List.getElem?_toArray, List.getElem?_cons_zero, List.getElem?_cons_succ]; rfl
            case q2hq3 => exact fun _ _ _ h => h
            case q2hy3 => refine Or.inl ⟨by rfl, ?_⟩; intro w hSw; (try dsimp only at hSw); go_simp; (try with_reducible rfl)
            try simp only [Act.put, List.setIfInBounds_toArray, List.set_cons_zero, List.set_cons_succ]
            refine wpAnyH_take (i := 4) (oi := ?q2oi4) (v := ?q2v4) ?q2hi4 (by kernel_rfl) (by kernel_rfl) (by kernel_rfl) ?q2hq4 ?q2hy4 (by assumption) ?q2rest4
            case q2hi4 => simp only [List.getElem?_toArray, List.getElem?_cons_zero, List.getElem?_cons_succ]; rfl
            case q2hq4 => exact fun _ _ _ h => h
            case q2hy4 => refine Or.inl ⟨by rfl, ?_⟩; intro w hSw; (try dsimp only at hSw); go_simp; (try with_reducible rfl)
            try simp only [Act.put, List.setIfInBounds_toArray, List.set_cons_zero, List.set_cons_succ]
            refine wpAnyH_take (i := 5) (oi := ?q2oi5) (v := ?q2v5) ?q2hi5 (by kernel_rfl) (by kernel_rfl) (by kernel_rfl) ?q2hq5 ?q2hy5 (by assumption) ?q2rest5
            case q2hi5 => simp only [List.getElem?_toArray, List.getElem?_cons_zero, List.getElem?_cons_succ]; rfl
            case q2hq5 => exact fun _ _ _ h => h
            case q2hy5 => refine Or.inl ⟨by rfl, ?_⟩; intro w hSw; (try dsimp only at hSw); go_simp; (try with_reducible rfl)
            try simp only [Act.put, List.setIfInBounds_toArray, List.set_cons_zero, List.set_cons_succ]
            refine wpAnyH_take (i := 6) (oi := ?q2oi6) (v := ?q2v6) ?q2hi6 (by kernel_rfl) (by kernel_rfl) (by kernel_rfl) ?q2hq6 ?q2hy6 (by assumption) ?q2rest6
            case q2hi6 => simp only [List.getElem?_toArray, List.getElem?_cons_zero, List.getElem?_cons_succ]; rfl
            case q2hq6 => exact fun _ _ _ h => h
            case q2hy6 => refine Or.inl ⟨by rfl, ?_⟩; intro w hSw; (try dsimp only at hSw); go_simp; (try with_reducible rfl)
            try simp only [Act.put, List.setIfInBounds_toArray, List.set_cons_zero, List.set_cons_succ]
            refine wpAnyH_ready (rs := [7]) (by kernel_rfl) (by simp) ?_
            refine AllReadyH.cons (o := ?q2oi7) ?q2hi7 ?q2rest7 AllReadyH.nil
            case q2hi7 => simp only [List.getElem?_toArray, List.getElem?_cons_zero, List.getElem?_cons_succ]; rfl
            intro K hK
            go_simp
            go_at_call 100; refine (HBT.out _ (by first | with_reducible exact HBR.out | with_reducible exact HBR.out.drew)).mono ?_
            rintro e w5 ⟨rfl, h5⟩
            have y0 := (h5.cell (World.block_lt_of_cell? _ _ y0)).trans y0
            have y1 := (h5.cell (World.block_lt_of_cell? _ _ y1)).trans y1
            have cz := (h5.cell (World.block_lt_of_cell? _ _ cz)).trans cz
            have HBZ := hide (show Below wc.heap.size wc w5 from below_then (by first | with_reducible exact HBZ.out | with_reducible exact HBZ.out.drew) h5)
            have fz := HFZ.out _ HBZ.out
            clear h5
            try dsimp only
            refine hK.out _ _ ⟨y0, y1, cz⟩ (fun hHeld => ?_)
            clear hK K
            try simp only [Act.put, List.setIfInBounds_toArray, List.set_cons_zero, List.set_cons_succ]
            refine wpAnyH_take (i := 8) (oi := ?q2oi8) (v := ?q2v8) ?q2hi8 (by kernel_rfl) (by kernel_rfl) (by kernel_rfl) ?q2hq8 ?q2hy8 (by assumption) ?q2rest8
            case q2hi8 => simp only [List.getElem?_toArray, List.getElem?_cons_zero, List.getElem?_cons_succ]; rfl
            case q2hq8 => exact fun _ _ _ h => h
            case q2hy8 => refine Or.inl ⟨by rfl, ?_⟩; intro w hSw; (try dsimp only at hSw); go_simp; (try with_reducible rfl)
            try simp only [Act.put, List.setIfInBounds_toArray, List.set_cons_zero, List.set_cons_succ]
            refine wpAnyH_take (i := 9) (oi := ?q2oi9) (v := ?q2v9) ?q2hi9 (by kernel_rfl) (by kernel_rfl) (by kernel_rfl) ?q2hq9 ?q2hy9 (by assumption) ?q2rest9
            case q2hi9 => simp only [List.getElem?_toArray, List.getElem?_cons_zero, List.getElem?_cons_succ]; rfl
            case q2hq9 => exact fun _ _ _ h => h
            case q2hy9 => refine Or.inl ⟨by rfl, ?_⟩; intro w hSw; (try dsimp only at hSw); go_simp; (try with_reducible rfl)
            try simp only [Act.put, List.setIfInBounds_toArray, List.set_cons_zero, List.set_cons_succ]
            refine wpAnyH_done (by kernel_rfl) ?_ _
            dsimp only [TailQ, List.append, List.cons_append, List.nil_append]
            have hrt := hide (HRT.out _ HBZ.out)
            go_wp2_with fail
            go_roundg (N - (u + 1))
            case rel => exact ⟨u + 1, by omega, rfl, by go_num, hrt⟩
            case measure => rw [HGM2.out]; omega
      · have hue : u = N := by omega
        have HL2 : Hid (WMem W1 N gd gb rest (borF es v left) (fun u => if u = v then true else bor u) wr) := HW.out.congr (fun i hi => by rw [hue]; exact refB_end HV.out HOK.out hvN hi left) (fun _ _ => rfl)
        clear hue
        go_wp2_with fail
        go_roundg (M - (k + 1))
        case rel => exact ⟨k + 1, kk + 1, borF es v left, fun u => if u = v then true else bor u, by have := HKM.out; omega, rfl, by first | rfl | go_num, by show _ = _; rw [HKK.out]; push_cast; rfl, HL2, HRUN4, fun u => by have := borF_bnd HOK.out (v := v) HLB.out u; push_cast; omega⟩
        case measure => have := HKM.out; rw [HGM.out]; omega
end Go.Proofs.YtpgopmmobbemcaaGreat

set_option linter.unusedVariables false
set_option linter.unusedSimpArgs false
set_option linter.unnecessarySimpa false
namespace Go.Proofs.YtpgopmmobbemcaaGreat
open Go.RowKit

def FirstV (w : World) (v : Value) : Option (List Int) → Prop
  | none => v = .slice none 0 0
  | some s => ∃ b off c, v = .slice (some ⟨b, off, none⟩) s.length c ∧ s.length ≤ c ∧ SliceR intR 1 All w (some ⟨b, off, none⟩) s
theorem FirstV.below {w w' : World} {v : Value} (hb : Below w.heap.size w w') : ∀ {o : Option (List Int)}, FirstV w v o → FirstV w' v o
  | none, h => h
  | some s, ⟨b, off, c, h1, h2, h3⟩ => ⟨b, off, c, h1, h2, h3.below intR_ok hb⟩
def FirstPost (w : World) (o : Option (List Int)) (e : Ending) (w' : World) : Prop := ∃ v, e = .returned v ∧ FirstV w' v o ∧ Below w.heap.size w w'
theorem OwnS.into {w : World} {base : Nat} {v : Value} {xs : List Int} (h : OwnS intR 1 base 3 Non w v xs) : ∃ o c, v = .slice o xs.length c ∧ xs.length ≤ c ∧ SliceR intR 1 All w o xs := by
  obtain ⟨o, c, h1, h2, h3⟩ := h.slice intR_ok
  exact ⟨o, c, h1, h2, h3.all intR_ok (by decide)⟩
theorem find_some {α β : Type} {f : α → Option β} {l : List α} {k : Nat} {a : α} (h : l[k]? = some a) (h0 : (l.take k).findSome? f = none) : (l.take (k + 1)).findSome? f = f a := by
  rw [List.take_add_one, h, List.findSome?_append, h0]
  simp
theorem find_all {α β : Type} {f : α → Option β} {l : List α} {k : Nat} {b : β} (h : (l.take k).findSome? f = some b) : l.findSome? f = some b := by
  conv => lhs; rw [← List.take_append_drop k l]
  rw [List.findSome?_append, h]
  rfl
/-- max of two ints, as one step of a region that draws its order. -/
theorem step_max2 {P : Program} {ops : Array Oper} {o : Oper} {a : Act} {w : World} {K : Act → World → Prop} {Q : Exit → Act → World → Prop} {E : Prop} (hgd : o.guard = none) (p q : Operand) (ts : Array TypeId)
    (ho : o.op = .call { callee := .builtin .max, args := #[p, q], argTypes := ts }) (x y m : Int) (hp : a.eval p = .int .i64 x) (hq : a.eval q = .int .i64 y) (hm : max x y = m) (hK : K (a.put o.dst (.int .i64 m)) w) :
    if Region.wanted o (yielded ops a.tmps) = true then Oper.wp P o a w K Q else E := by
  have hw : Region.wanted o (yielded ops a.tmps) = true := by simp [Region.wanted, hgd]
  have hif : (if y > x then y else x) = m := by
    rw [← hm]
    split <;> omega
  rw [if_pos hw]
  unfold Oper.wp execOp
  simp [ho, resolve, invoke, builtin, hp, hq, run_max_int2, hif, Result.andThen]
  exact hK
set_option maxRecDepth 100000 in
set_option maxHeartbeats 8000000 in
theorem rfirst_any {N : Nat} {es : List Edg} (hV : gErr N es = 0) (hok : EOk N es) (h12 : 1 ≤ N ∧ N ≤ 12) (oe : Option Addr) (c : Nat) (F : Foot) (hc : es.length ≤ c) (d : List Int) (od : Option Addr) (cd : Nat) (G : Foot) (hdc : N ≤ cd) (hdN : d.length = N) (hdb : Hid (∀ y ∈ d, -1048576 ≤ y ∧ y ≤ 1048576)) :
    ∀ (m : Nat) (w : World) (begun : List Int) (ob : Option Addr) (cb cost : Nat), SliceR edgR 3 F w oe es → SliceR intR 1 G w od d → SliceR intR 1 All w ob begun → begun.length ≤ cb → begun.length + m = N → Hid (∀ x ∈ begun, -8 ≤ x ∧ x ≤ 8) → cost ≤ 8 →
      Calls Tryz.prog 63 #[.agg #[.int .i64 N, .slice oe es.length c], .slice od N cd, .slice ob begun.length cb, .int .i64 cost] w (FirstPost w (firstS (fun s => paidL (movedL s es d)) m begun cost)) := by
  have hes := hok.len
  have HV := hide hV
  have HOK := hide hok
  have HDN := hide hdN
  intro m
  induction m with
  | zero =>
    intro w begun ob cb cost hs hd hb hbc hbl hbb hcost
    obtain ⟨_, _, _, _, b0, o0, hob, _, _⟩ := hb.int_at (i := 0) (by omega)
    subst hob
    have hbN : begun.length = N := by omega
    have HBN := hide hbN
    rw [hbN] at hbc ⊢
    have hb0 := bnew (Below.refl w.heap.size w) (.cells #[.int .i64 N, .slice oe es.length c] 24)
    have HWI := hide (rwins43_any HV.out HOK.out h12 oe c F _ (hs.below edgR_ok hb0) hc d od cd G (hd.below intR_ok hb0) hdc HDN.out begun (some ⟨b0, o0, none⟩) cb All (hb.below intR_ok hb0) HBN.out hbc (fun y hy => by have := hbb.out y hy; omega) hdb)
    have HB := hide hb0
    have HS := hide hb
    by_cases h0 : cost = 0
    · have hR : Hid (firstS (fun s => paidL (movedL s es d)) 0 begun cost = if paidL (movedL begun es d) = true then some begun else none) := by
        show _ = _
        rw [firstS, h0]
        by_cases hp : paidL (movedL begun es d) = true
        · rw [if_pos ⟨rfl, hp⟩, if_pos hp]
        · rw [if_neg (fun h => hp h.2), if_neg hp]
      subst h0
      rw [show ((0 : Nat) : Int) = 0 from rfl]
      clear hs hd hb hb0 hbl hbN hdN hV hok
      go_enter Tryz.func63, Tryz.ntmps63
      go_wp2_with fail
      refine HWI.out.mono ?_
      rintro e w2 ⟨rfl, hb2⟩
      have HB2 := hide (below_then HB.out hb2)
      clear hb2
      rcases hp : paidL (movedL begun es d) with _ | _
      · have hR2 : Hid (firstS (fun s => paidL (movedL s es d)) 0 begun 0 = none) := by show _ = _; rw [hR.out, if_neg (by rw [hp]; simp)]
        clear hp
        go_wp2_with fail
        go_ret
        exact ⟨_, rfl, by rw [hR2.out]; rfl, HB2.out⟩
      · have hR2 : Hid (firstS (fun s => paidL (movedL s es d)) 0 begun 0 = some begun) := by show _ = _; rw [hR.out, if_pos hp]
        clear hp
        go_wp2_with fail
        go_ret
        exact ⟨_, rfl, by rw [hR2.out]; exact ⟨b0, o0, cb, by rw [HBN.out]; rfl, by rw [HBN.out]; exact hbc, HS.out.below intR_ok HB2.out⟩, HB2.out⟩
    · have hR : Hid (firstS (fun s => paidL (movedL s es d)) 0 begun cost = none) := by show _ = _; rw [firstS, if_neg (fun h => h0 h.1)]
      have q0 : ((cost : Int) == 0) = false := by simp; exact h0
      clear hs hd hb hb0 hbl hbN hdN hV hok h0
      go_enter Tryz.func63, Tryz.ntmps63
      go_wp2_with fail
      go_ret
      exact ⟨_, rfl, by rw [hR.out]; rfl, HB.out⟩
  | succ m ih =>
    intro w begun ob cb cost hs hd hb hbc hbl hbb hcost
    have hb0 := bnew (Below.refl w.heap.size w) (.cells #[.int .i64 N, .slice oe es.length c] 24)
    have bxx := Box.new w [.int .i64 N, .slice oe es.length c] 24
    have HB := hide hb0
    have HX := hide bxx
    have hwl := bxx.lt
    have hblt : begun.length < N := by omega
    obtain ⟨L, hL⟩ : ∃ L, L = begun.length := ⟨_, rfl⟩
    have HLB := hide hL
    have HIH : Hid (∀ (W : World) (k : Int) (o2 : Option Addr) (c2 c3 : Nat), Below w.heap.size w W → SliceR intR 1 All W o2 (begun ++ [k]) → L + 1 ≤ c2 → (-8 ≤ k ∧ k ≤ 8) → c3 ≤ 8 → Calls Tryz.prog 63 #[.agg #[.int .i64 N, .slice oe es.length c], .slice od N cd, .slice o2 (L + 1 : Nat) c2, .int .i64 c3] W (FirstPost W (firstS (fun s => paidL (movedL s es d)) m (begun ++ [k]) c3))) := fun W k o2 c2 c3 hW hS2 h2 hk h3 => by
      have h5 := ih W (begun ++ [k]) o2 c2 c3 (hs.below edgR_ok hW) (hd.below intR_ok hW) hS2 (by rw [List.length_append, List.length_singleton, ← hL]; exact h2) (by rw [List.length_append, List.length_singleton]; omega) (fun x hx => by
        rcases List.mem_append.1 hx with h | h
        · exact hbb.out x h
        · rw [List.mem_singleton] at h; rw [h]; exact hk) h3
      rw [List.length_append, List.length_singleton, ← hL] at h5
      exact h5
    have HSB := hide hb
    have q0 : ((L : Int) == (N : Int)) = false := by simp; omega
    rw [← hL] at hbc hblt hbl ⊢
    clear hL
    by_cases hm : m = 0
    · subst hm
      have hN1 : (N : Int) - 1 = (L : Int) := by omega
      have HFR : Hid (firstS (fun s => paidL (movedL s es d)) 1 begun cost = ([-(cost : Int), (cost : Int)]).findSome? fun k => firstS (fun s => paidL (movedL s es d)) 0 (begun ++ [k]) 0) := rfl
      obtain ⟨f, hf⟩ : ∃ f : Int → Option (List Int), f = fun k => firstS (fun s => paidL (movedL s es d)) 0 (begun ++ [k]) 0 := ⟨_, rfl⟩
      have HF1 : Hid (∀ k, firstS (fun s => paidL (movedL s es d)) 0 (begun ++ [k]) 0 = f k) := fun k => by rw [hf]
      obtain ⟨ks, hks⟩ : ∃ ks : List Int, ks = [-(cost : Int), (cost : Int)] := ⟨_, rfl⟩
      have HKS := hide hks
      have HFR2 : Hid (firstS (fun s => paidL (movedL s es d)) 1 begun cost = ks.findSome? f) := by show _ = _; rw [HFR.out, hf, hks]
      obtain ⟨W2, hW2⟩ : ∃ W2, (w.alloc (.cells #[.int .i64 N, .slice oe es.length c] 24)).alloc (.cells #[.int .i64 (-(cost : Int)), .int .i64 (cost : Int)] 3) = W2 := ⟨_, rfl⟩
      have HLK : Hid (SliceR intR 1 All W2 (some ⟨w.heap.size + 1, 0, none⟩) ks) := by
        have h5 := ints_lit (F := All) (G := All) (w.alloc (.cells #[.int .i64 N, .slice oe es.length c] 24)) 3 [-(cost : Int), (cost : Int)] (by intro z hz; simp at hz; unfold I64; rcases hz with rfl | rfl <;> omega) trivial
        show SliceR _ _ _ _ _ _
        rw [hks, ← hW2]
        simpa using h5
      have HX2 : Hid (Box W2 w.heap.size [.int .i64 N, .slice oe es.length c] 24) := by show Box _ _ _ _; rw [← hW2]; exact HX.out.next _
      have HB2 : Hid (Below w.heap.size w W2) := by show Below _ _ _; rw [← hW2]; exact HB.out.alloc HB.out.size _
      have hw2l := HX2.out.lt
      have y0 := HX.out.cell 0
      have y1 := HX.out.cell 1
      simp only [List.getElem?_cons_zero, List.getElem?_cons_succ] at y0 y1
      have hkl : ks.length = 2 := by rw [hks]; rfl
      have HKL := hide hkl
      have HKB : Hid (∀ k ∈ ks, -8 ≤ k ∧ k ≤ 8) := fun k hk => by rw [hks] at hk; simp at hk; rcases hk with rfl | rfl <;> omega
      clear hs hd hb hb0 hbl hdN hV hok hf HFR hks bxx ih hkl
      go_enter Tryz.func63, Tryz.ntmps63
      go_wp2_with fail
      clear y0 y1 hW2
      go_loopg [11, 12, 42] 2 (fun gm _ _ iv wx => ∃ i : Nat, i ≤ 2 ∧ gm = 2 - i ∧ iv = .int .i64 i ∧ Hid ((ks.take i).findSome? f = none) ∧ Hid (Below W2.heap.size W2 wx))
      case atStart => exact ⟨0, by omega, by omega, rfl, rfl, Below.refl _ _⟩
      case round =>
        obtain ⟨i, hi, hgm, rfl, HFN, HBW⟩ := hrel
        have HGM := hide hgm
        clear hgm
        by_cases hlt : i < 2
        · obtain ⟨x, _, hget, hxi, bk, offk, hok, _, ck⟩ := (HLK.out.below intR_ok HBW.out).int_at (i := i) (by rw [HKL.out]; exact hlt)
          injection hok with hok
          injection hok with e1 e2
          subst e1 e2
          have hxb := HKB.out x (List.mem_of_getElem? hget)
          have HFX := hide (find_some (f := f) hget HFN.out)
          have HBr : Hid (Below w.heap.size w wr) := HB2.out.trans (HBW.out.mono HB2.out.size)
          have bxr := HX2.out.under HBW.out hw2l
          have y0 := bxr.cell 0
          have y1 := bxr.cell 1
          simp only [List.getElem?_cons_zero, List.getElem?_cons_succ] at y0 y1
          clear hget bxr
          have hi0 : (0 : Int) ≤ i := by omega
          have hi1 : (i : Int) < 2 := by omega
          rw [Nat.zero_add] at ck
          go_upto_region 10 with fail
          go_cut [12] (fun s12 wx => Hid (FirstV wx s12 (f x)) ∧ Hid (Below wr.heap.size wr wx))
          case first =>
            have HA1 : Hid (OwnS intR 1 wr.heap.size 3 Non (wr.alloc (.cells #[] 3)).drew (.slice (some ⟨wr.heap.size, 0, none⟩) 0 0) []) := (OwnS.made intR 1 3 Non wr).draw intR_ok
            have HA2 : Hid (OwnS intR 1 wr.heap.size 3 Non ((wr.alloc (.cells #[] 3)).alloc (.cells #[.int .i64 x] 3)).drew (.slice (some ⟨wr.heap.size, 0, none⟩) 0 0) []) := ((OwnS.made intR 1 3 Non wr).new intR_ok _).draw intR_ok
            have HA3 : Hid (OwnS intR 1 wr.heap.size 3 Non ((wr.alloc (.cells #[.int .i64 x] 3)).alloc (.cells #[] 3)).drew (.slice (some ⟨wr.heap.size + 1, 0, none⟩) 0 0) []) := by
              have h5 := OwnS.made intR 1 3 Non (wr.alloc (.cells #[.int .i64 x] 3))
              rw [World.size_alloc] at h5
              exact (h5.rebase (by omega)).draw intR_ok
            have HA1B : Hid (Below wr.heap.size wr (wr.alloc (.cells #[] 3)).drew) := (bnew (Below.refl wr.heap.size wr) _).drew
            have HA2B : Hid (Below wr.heap.size wr ((wr.alloc (.cells #[] 3)).alloc (.cells #[.int .i64 x] 3)).drew) := (bnew (bnew (Below.refl wr.heap.size wr) _) _).drew
            have HA3B : Hid (Below wr.heap.size wr ((wr.alloc (.cells #[.int .i64 x] 3)).alloc (.cells #[] 3)).drew) := (bnew (bnew (Below.refl wr.heap.size wr) _) _).drew
            have HK2 : Hid (SliceR intR 1 (fun k => k = wr.heap.size + 1) ((wr.alloc (.cells #[] 3)).alloc (.cells #[.int .i64 x] 3)).drew (some ⟨wr.heap.size + 1, 0, none⟩) [x]) := by
              have h5 := intlF (F := fun k => k = wr.heap.size + 1) (wr.alloc (.cells #[] 3)) x hxi (by rw [World.size_alloc])
              rw [World.size_alloc] at h5
              exact h5.below intR_ok (Below.refl _ _).drew
            have HK3 : Hid (SliceR intR 1 (fun k => k = wr.heap.size) ((wr.alloc (.cells #[.int .i64 x] 3)).alloc (.cells #[] 3)).drew (some ⟨wr.heap.size, 0, none⟩) [x]) := (intlF (F := fun k => k = wr.heap.size) wr x hxi rfl).below intR_ok (bnew (Below.refl _ _) _).drew
            have HBG : Hid (∀ W, Below wr.heap.size wr W → SliceR intR 1 All W ob begun) := fun W hW => (HSB.out.below intR_ok HBr.out).below intR_ok hW
            have y0w := y0
            have y1w := y1
            go_region_held3 (fun w' => w'.cell? ⟨w.heap.size, 0, none⟩ = some (.int .i64 N) ∧ w'.cell? ⟨w.heap.size, 1, none⟩ = some (.slice oe es.length c)) (first | with_reducible exact ⟨y0, y1⟩ | with_reducible exact ⟨cell_next y0 _, cell_next y1 _⟩ | with_reducible exact ⟨cell_drew y0, cell_drew y1⟩ | with_reducible exact ⟨cell_drew (cell_next y0 _), cell_drew (cell_next y1 _)⟩ | with_reducible exact ⟨cell_drew (cell_next (cell_next y0 _) _), cell_drew (cell_next (cell_next y1 _) _)⟩) (first
              | (refine step_append_rep rfl (.tmp 48) (.tmp 49) 26 rfl wr.heap.size 3 _ 1 8 Tryz.underlying26 iInfo rfl (by decide) intR_ok Non All (.slice (some ⟨wr.heap.size, 0, none⟩) 0 0) [] (by simp [Act.eval, Act.put]) HA1.out ob cb begun (by rw [← HLB.out]; simp [Act.eval, Act.put]) (HBG.out _ HA1B.out) (fun _ _ h => h) (fun _ h => h.elim) (by rw [← HLB.out]; simp; omega) (by rw [← HLB.out]; simp; omega) (by simp only [World.size_alloc, drew_size]; omega) ?_; intro v1 w1 ho1 hb1 hg1; rw [List.nil_append] at ho1; have HO1 := hide ho1; have HC := hide ((HA1B.out).trans hb1); have y0 := (HC.out.cell (World.block_lt_of_cell? _ _ y0w)).trans y0w; have y1 := (HC.out.cell (World.block_lt_of_cell? _ _ y1w)).trans y1w; clear ho1 hb1 hg1)
              | (refine step_append_rep rfl (.tmp 48) (.tmp 49) 26 rfl wr.heap.size 3 _ 1 8 Tryz.underlying26 iInfo rfl (by decide) intR_ok Non All (.slice (some ⟨wr.heap.size, 0, none⟩) 0 0) [] (by simp [Act.eval, Act.put]) HA2.out ob cb begun (by rw [← HLB.out]; simp [Act.eval, Act.put]) (HBG.out _ HA2B.out) (fun _ _ h => h) (fun _ h => h.elim) (by rw [← HLB.out]; simp; omega) (by rw [← HLB.out]; simp; omega) (by simp only [World.size_alloc, drew_size]; omega) ?_; intro v1 w1 ho1 hb1 hg1; rw [List.nil_append] at ho1; have HO1 := hide ho1; have HC := hide ((HA2B.out).trans hb1); have y0 := (HC.out.cell (World.block_lt_of_cell? _ _ y0w)).trans y0w; have y1 := (HC.out.cell (World.block_lt_of_cell? _ _ y1w)).trans y1w; have HKX := hide (HK2.out.keep intR_ok (fun j hj hl => hg1.block j hl (by rw [hj]; simp [Value.ownBlock]))); clear ho1 hb1 hg1)
              | (refine step_append_rep rfl (.tmp 48) (.tmp 49) 26 rfl wr.heap.size 3 _ 1 8 Tryz.underlying26 iInfo rfl (by decide) intR_ok Non All (.slice (some ⟨wr.heap.size + 1, 0, none⟩) 0 0) [] (by simp [Act.eval, Act.put]) HA3.out ob cb begun (by rw [← HLB.out]; simp [Act.eval, Act.put]) (HBG.out _ HA3B.out) (fun _ _ h => h) (fun _ h => h.elim) (by rw [← HLB.out]; simp; omega) (by rw [← HLB.out]; simp; omega) (by simp only [World.size_alloc, drew_size]; omega) ?_; intro v1 w1 ho1 hb1 hg1; rw [List.nil_append] at ho1; have HO1 := hide ho1; have HC := hide ((HA3B.out).trans hb1); have y0 := (HC.out.cell (World.block_lt_of_cell? _ _ y0w)).trans y0w; have y1 := (HC.out.cell (World.block_lt_of_cell? _ _ y1w)).trans y1w; have HKX := hide (HK3.out.keep intR_ok (fun j hj hl => hg1.block j hl (by rw [hj]; simp [Value.ownBlock]))); clear ho1 hb1 hg1)
              | (refine step_append_rep rfl (.tmp 50) (.tmp 52) 26 rfl wr.heap.size 3 _ 1 8 Tryz.underlying26 iInfo rfl (by decide) intR_ok Non All v1 begun (by simp [Act.eval, Act.put]) (HO1.out.new intR_ok _) (some ⟨w1.heap.size, 0, none⟩) 1 [x] (by simp [Act.eval, Act.put]) (intlF w1 x hxi trivial) (fun _ _ h => h) (fun _ h => h.elim) (by rw [← HLB.out]; simp; omega) (by rw [← HLB.out]; simp; omega) (by have := HC.out.size; (try simp only [World.size_alloc]); omega) ?_; intro v2 w2 ho2 hb2 hg2; obtain ⟨o2, c2, hv2, hc2, hs2⟩ := OwnS.into ho2; rw [List.length_append, List.length_singleton, ← HLB.out] at hv2 hc2; subst hv2; have HS2 := hide hs2; have HC2 := hide ((HC.out.alloc HC.out.size _).trans hb2); have y0 := (HC2.out.cell (World.block_lt_of_cell? _ _ y0w)).trans y0w; have y1 := (HC2.out.cell (World.block_lt_of_cell? _ _ y1w)).trans y1w; clear ho2 hb2 hg2 hs2)
              | (refine step_append_rep rfl (.tmp 50) (.tmp 52) 26 rfl wr.heap.size 3 _ 1 8 Tryz.underlying26 iInfo rfl (by decide) intR_ok Non All v1 begun (by simp [Act.eval, Act.put]) HO1.out (some ⟨wr.heap.size + 1, 0, none⟩) 1 [x] (by simp [Act.eval, Act.put]) (HKX.out.all intR_ok (by decide)) (fun _ _ h => h) (fun _ h => h.elim) (by rw [← HLB.out]; simp; omega) (by rw [← HLB.out]; simp; omega) (by have := HC.out.size; (try simp only [World.size_alloc]); omega) ?_; intro v2 w2 ho2 hb2 hg2; obtain ⟨o2, c2, hv2, hc2, hs2⟩ := OwnS.into ho2; rw [List.length_append, List.length_singleton, ← HLB.out] at hv2 hc2; subst hv2; have HS2 := hide hs2; have HC2 := hide (HC.out.trans hb2); have y0 := (HC2.out.cell (World.block_lt_of_cell? _ _ y0w)).trans y0w; have y1 := (HC2.out.cell (World.block_lt_of_cell? _ _ y1w)).trans y1w; clear ho2 hb2 hg2 hs2)
              | (refine step_append_rep rfl (.tmp 50) (.tmp 52) 26 rfl wr.heap.size 3 _ 1 8 Tryz.underlying26 iInfo rfl (by decide) intR_ok Non All v1 begun (by simp [Act.eval, Act.put]) HO1.out (some ⟨wr.heap.size, 0, none⟩) 1 [x] (by simp [Act.eval, Act.put]) (HKX.out.all intR_ok (by decide)) (fun _ _ h => h) (fun _ h => h.elim) (by rw [← HLB.out]; simp; omega) (by rw [← HLB.out]; simp; omega) (by have := HC.out.size; (try simp only [World.size_alloc]); omega) ?_; intro v2 w2 ho2 hb2 hg2; obtain ⟨o2, c2, hv2, hc2, hs2⟩ := OwnS.into ho2; rw [List.length_append, List.length_singleton, ← HLB.out] at hv2 hc2; subst hv2; have HS2 := hide hs2; have HC2 := hide (HC.out.trans hb2); have y0 := (HC2.out.cell (World.block_lt_of_cell? _ _ y0w)).trans y0w; have y1 := (HC2.out.cell (World.block_lt_of_cell? _ _ y1w)).trans y1w; clear ho2 hb2 hg2 hs2)
              | (go_at_call 63; refine (HIH.out _ x o2 c2 0 (HBr.out.trans (HC2.out.mono HBr.out.size)) HS2.out hc2 hxb (by omega)).mono ?_; rintro e w7 ⟨v7, rfl, hv7, hb7⟩; have HV7 := hide hv7; have HC7 := hide (below_then HC2.out hb7); have y0 := (hb7.cell (World.block_lt_of_cell? _ _ y0)).trans y0; have y1 := (hb7.cell (World.block_lt_of_cell? _ _ y1)).trans y1; clear hv7 hb7))
            all_goals
              go_wp2_with fail
              go_meet
              exact ⟨by rw [← HF1.out]; exact HV7.out, HC7⟩
          case rest =>
            obtain ⟨HV12, HB12⟩ := hcut
            have HBW2 : Hid (Below W2.heap.size W2 wc) := below_then HBW.out HB12.out
            rcases hfx : f x with _ | sx
            · rw [hfx] at HV12
              have e12 : u12 = .slice none 0 0 := HV12.out
              have HFN2 : Hid ((ks.take (i + 1)).findSome? f = none) := by show _ = _; rw [HFX.out, hfx]
              subst e12
              clear hfx
              go_wp2_with fail
              go_roundg (2 - (i + 1))
              case rel => exact ⟨i + 1, by omega, rfl, by go_num, HFN2, HBW2⟩
              case measure => rw [HGM.out]; omega
            · rw [hfx] at HV12
              obtain ⟨b5, o5, c5, e5, h5a, h5b⟩ := HV12.out
              have HRES : Hid (firstS (fun s => paidL (movedL s es d)) 1 begun cost = some sx) := by show _ = _; rw [HFR2.out]; exact find_all (k := i + 1) (HFX.out.trans hfx)
              have H5 := hide h5b
              subst e5
              clear hfx h5b HV12
              go_wp2_with fail
              go_ret
              exact ⟨_, rfl, by rw [HRES.out]; exact ⟨b5, o5, c5, rfl, h5a, H5.out⟩, HB2.out.trans (HBW2.out.mono HB2.out.size)⟩
        · have HRES : Hid (firstS (fun s => paidL (movedL s es d)) 1 begun cost = none) := by
            have h5 := HFN.out
            rw [List.take_of_length_le (by rw [HKL.out]; omega)] at h5
            show _ = _
            rw [HFR2.out]
            exact h5
          go_wp2_with fail
          go_ret
          exact ⟨_, rfl, by rw [HRES.out]; rfl, HB2.out.trans (HBW.out.mono HB2.out.size)⟩
    · obtain ⟨m2, rfl⟩ : ∃ m2, m = m2 + 1 := ⟨m - 1, by omega⟩
      have q1 : ((L : Int) == (N : Int) - 1) = false := by simp; omega
      obtain ⟨f, hf⟩ : ∃ f : Nat → Option (List Int), f = fun (i : Nat) => firstS (fun s => paidL (movedL s es d)) (m2 + 1) (begun ++ [(i : Int) - cost]) (cost - (magI ((i : Int) - cost)).toNat) := ⟨_, rfl⟩
      have HF1 : Hid (∀ i : Nat, firstS (fun s => paidL (movedL s es d)) (m2 + 1) (begun ++ [(i : Int) - cost]) (cost - (magI ((i : Int) - cost)).toNat) = f i) := fun i => by rw [hf]
      have HFR2 : Hid (firstS (fun s => paidL (movedL s es d)) (m2 + 1 + 1) begun cost = (List.range (2 * cost + 1)).findSome? f) := by show _ = _; rw [hf]; rfl
      obtain ⟨W2, hW2⟩ : ∃ W2, w.alloc (.cells #[.int .i64 N, .slice oe es.length c] 24) = W2 := ⟨_, rfl⟩
      have HX2 : Hid (Box W2 w.heap.size [.int .i64 N, .slice oe es.length c] 24) := by show Box _ _ _ _; rw [← hW2]; exact HX.out
      have HB2 : Hid (Below w.heap.size w W2) := by show Below _ _ _; rw [← hW2]; exact HB.out
      have hw2l := HX2.out.lt
      have y0 := HX2.out.cell 0
      have y1 := HX2.out.cell 1
      simp only [List.getElem?_cons_zero, List.getElem?_cons_succ] at y0 y1
      clear hs hd hb hb0 hbl hdN hV hok hf bxx ih
      go_enter Tryz.func63, Tryz.ntmps63
      go_wp2_with fail
      clear y0 y1 hW2
      go_loopg [13, 14] (2 * cost + 1) (fun gm kv _ wx => ∃ i : Nat, i ≤ 2 * cost + 1 ∧ gm = 2 * cost + 1 - i ∧ kv = .int .i64 ((i : Int) - cost) ∧ Hid (((List.range (2 * cost + 1)).take i).findSome? f = none) ∧ Hid (Below W2.heap.size W2 wx))
      case atStart => exact ⟨0, by omega, by omega, by simp, rfl, Below.refl _ _⟩
      case round =>
        obtain ⟨i, hi, hgm, rfl, HFN, HBW⟩ := hrel
        have HGM := hide hgm
        clear hgm
        obtain ⟨x, hx⟩ : ∃ x, x = (i : Int) - cost := ⟨_, rfl⟩
        have HX0 := hide hx
        rw [← hx]
        by_cases hlt : i < 2 * cost + 1
        · have q2 : decide (x ≤ (cost : Int)) = true := by simp; omega
          have hxb : -8 ≤ x ∧ x ≤ 8 := by omega
          have hxi : I64 x := by unfold I64; omega
          have HFX : Hid (((List.range (2 * cost + 1)).take (i + 1)).findSome? f = f i) := find_some (f := f) (List.getElem?_range hlt) HFN.out
          have HBr : Hid (Below w.heap.size w wr) := HB2.out.trans (HBW.out.mono HB2.out.size)
          have bxr := HX2.out.under HBW.out hw2l
          have y0 := bxr.cell 0
          have y1 := bxr.cell 1
          simp only [List.getElem?_cons_zero, List.getElem?_cons_succ] at y0 y1
          obtain ⟨c3, hc3⟩ : ∃ c3, c3 = cost - (magI x).toNat := ⟨_, rfl⟩
          have hc38 : c3 ≤ 8 := by omega
          have HF2 : Hid (firstS (fun s => paidL (movedL s es d)) (m2 + 1) (begun ++ [x]) c3 = f i) := by show _ = _; rw [hc3, hx]; exact HF1.out i
          have hmg : magI x = max x (-x) := rfl
          have hc3v : (cost : Int) - max x (-x) = (c3 : Int) := by rw [hc3, hmg]; omega
          have hnx : IntKind.i64.wrap (-x) = -x := by unfold IntKind.wrap; simp [IntKind.signed, IntKind.bits]; omega
          clear bxr hx hmg hc3
          go_upto_region 18 with fail
          go_cut [14] (fun s14 wx => Hid (FirstV wx s14 (f i)) ∧ Hid (Below wr.heap.size wr wx))
          case first =>
            obtain ⟨mx, hmx⟩ : ∃ mx, max x (-x) = mx := ⟨_, rfl⟩
            have hmxb : 0 ≤ mx ∧ mx ≤ 8 := by omega
            rw [hmx] at hc3v
            have hc3w : IntKind.i64.wrap (c3 : Int) = (c3 : Int) := by unfold IntKind.wrap; simp [IntKind.signed, IntKind.bits]; omega
            have HA1 : Hid (OwnS intR 1 wr.heap.size 3 Non (wr.alloc (.cells #[] 3)).drew (.slice (some ⟨wr.heap.size, 0, none⟩) 0 0) []) := (OwnS.made intR 1 3 Non wr).draw intR_ok
            have HA2 : Hid (OwnS intR 1 wr.heap.size 3 Non ((wr.alloc (.cells #[] 3)).alloc (.cells #[.int .i64 x] 3)).drew (.slice (some ⟨wr.heap.size, 0, none⟩) 0 0) []) := ((OwnS.made intR 1 3 Non wr).new intR_ok _).draw intR_ok
            have HA3 : Hid (OwnS intR 1 wr.heap.size 3 Non ((wr.alloc (.cells #[.int .i64 x] 3)).alloc (.cells #[] 3)).drew (.slice (some ⟨wr.heap.size + 1, 0, none⟩) 0 0) []) := by
              have h5 := OwnS.made intR 1 3 Non (wr.alloc (.cells #[.int .i64 x] 3))
              rw [World.size_alloc] at h5
              exact (h5.rebase (by omega)).draw intR_ok
            have HA1B : Hid (Below wr.heap.size wr (wr.alloc (.cells #[] 3)).drew) := (bnew (Below.refl wr.heap.size wr) _).drew
            have HA2B : Hid (Below wr.heap.size wr ((wr.alloc (.cells #[] 3)).alloc (.cells #[.int .i64 x] 3)).drew) := (bnew (bnew (Below.refl wr.heap.size wr) _) _).drew
            have HA3B : Hid (Below wr.heap.size wr ((wr.alloc (.cells #[.int .i64 x] 3)).alloc (.cells #[] 3)).drew) := (bnew (bnew (Below.refl wr.heap.size wr) _) _).drew
            have HK2 : Hid (SliceR intR 1 (fun k => k = wr.heap.size + 1) ((wr.alloc (.cells #[] 3)).alloc (.cells #[.int .i64 x] 3)).drew (some ⟨wr.heap.size + 1, 0, none⟩) [x]) := by
              have h5 := intlF (F := fun k => k = wr.heap.size + 1) (wr.alloc (.cells #[] 3)) x hxi (by rw [World.size_alloc])
              rw [World.size_alloc] at h5
              exact h5.below intR_ok (Below.refl _ _).drew
            have HK3 : Hid (SliceR intR 1 (fun k => k = wr.heap.size) ((wr.alloc (.cells #[.int .i64 x] 3)).alloc (.cells #[] 3)).drew (some ⟨wr.heap.size, 0, none⟩) [x]) := (intlF (F := fun k => k = wr.heap.size) wr x hxi rfl).below intR_ok (bnew (Below.refl _ _) _).drew
            have HBG : Hid (∀ W, Below wr.heap.size wr W → SliceR intR 1 All W ob begun) := fun W hW => (HSB.out.below intR_ok HBr.out).below intR_ok hW
            have y0w := y0
            have y1w := y1
            go_region_held3 (fun w' => w'.cell? ⟨w.heap.size, 0, none⟩ = some (.int .i64 N) ∧ w'.cell? ⟨w.heap.size, 1, none⟩ = some (.slice oe es.length c)) (first | with_reducible exact ⟨y0, y1⟩ | with_reducible exact ⟨cell_next y0 _, cell_next y1 _⟩ | with_reducible exact ⟨cell_drew y0, cell_drew y1⟩ | with_reducible exact ⟨cell_drew (cell_next y0 _), cell_drew (cell_next y1 _)⟩ | with_reducible exact ⟨cell_drew (cell_next (cell_next y0 _) _), cell_drew (cell_next (cell_next y1 _) _)⟩) (first
              | (refine step_append_rep rfl (.tmp 67) (.tmp 68) 26 rfl wr.heap.size 3 _ 1 8 Tryz.underlying26 iInfo rfl (by decide) intR_ok Non All (.slice (some ⟨wr.heap.size, 0, none⟩) 0 0) [] (by simp [Act.eval, Act.put]) HA1.out ob cb begun (by rw [← HLB.out]; simp [Act.eval, Act.put]) (HBG.out _ HA1B.out) (fun _ _ h => h) (fun _ h => h.elim) (by rw [← HLB.out]; simp; omega) (by rw [← HLB.out]; simp; omega) (by simp only [World.size_alloc, drew_size]; omega) ?_; intro v1 w1 ho1 hb1 hg1; rw [List.nil_append] at ho1; have HO1 := hide ho1; have HC := hide ((HA1B.out).trans hb1); have y0 := (HC.out.cell (World.block_lt_of_cell? _ _ y0w)).trans y0w; have y1 := (HC.out.cell (World.block_lt_of_cell? _ _ y1w)).trans y1w; clear ho1 hb1 hg1)
              | (refine step_append_rep rfl (.tmp 67) (.tmp 68) 26 rfl wr.heap.size 3 _ 1 8 Tryz.underlying26 iInfo rfl (by decide) intR_ok Non All (.slice (some ⟨wr.heap.size, 0, none⟩) 0 0) [] (by simp [Act.eval, Act.put]) HA2.out ob cb begun (by rw [← HLB.out]; simp [Act.eval, Act.put]) (HBG.out _ HA2B.out) (fun _ _ h => h) (fun _ h => h.elim) (by rw [← HLB.out]; simp; omega) (by rw [← HLB.out]; simp; omega) (by simp only [World.size_alloc, drew_size]; omega) ?_; intro v1 w1 ho1 hb1 hg1; rw [List.nil_append] at ho1; have HO1 := hide ho1; have HC := hide ((HA2B.out).trans hb1); have y0 := (HC.out.cell (World.block_lt_of_cell? _ _ y0w)).trans y0w; have y1 := (HC.out.cell (World.block_lt_of_cell? _ _ y1w)).trans y1w; have HKX := hide (HK2.out.keep intR_ok (fun j hj hl => hg1.block j hl (by rw [hj]; simp [Value.ownBlock]))); clear ho1 hb1 hg1)
              | (refine step_append_rep rfl (.tmp 67) (.tmp 68) 26 rfl wr.heap.size 3 _ 1 8 Tryz.underlying26 iInfo rfl (by decide) intR_ok Non All (.slice (some ⟨wr.heap.size + 1, 0, none⟩) 0 0) [] (by simp [Act.eval, Act.put]) HA3.out ob cb begun (by rw [← HLB.out]; simp [Act.eval, Act.put]) (HBG.out _ HA3B.out) (fun _ _ h => h) (fun _ h => h.elim) (by rw [← HLB.out]; simp; omega) (by rw [← HLB.out]; simp; omega) (by simp only [World.size_alloc, drew_size]; omega) ?_; intro v1 w1 ho1 hb1 hg1; rw [List.nil_append] at ho1; have HO1 := hide ho1; have HC := hide ((HA3B.out).trans hb1); have y0 := (HC.out.cell (World.block_lt_of_cell? _ _ y0w)).trans y0w; have y1 := (HC.out.cell (World.block_lt_of_cell? _ _ y1w)).trans y1w; have HKX := hide (HK3.out.keep intR_ok (fun j hj hl => hg1.block j hl (by rw [hj]; simp [Value.ownBlock]))); clear ho1 hb1 hg1)
              | (refine step_append_rep rfl (.tmp 69) (.tmp 71) 26 rfl wr.heap.size 3 _ 1 8 Tryz.underlying26 iInfo rfl (by decide) intR_ok Non All v1 begun (by simp [Act.eval, Act.put]) (HO1.out.new intR_ok _) (some ⟨w1.heap.size, 0, none⟩) 1 [x] (by simp [Act.eval, Act.put]) (intlF w1 x hxi trivial) (fun _ _ h => h) (fun _ h => h.elim) (by rw [← HLB.out]; simp; omega) (by rw [← HLB.out]; simp; omega) (by have := HC.out.size; (try simp only [World.size_alloc]); omega) ?_; intro v2 w2 ho2 hb2 hg2; obtain ⟨o2, c2, hv2, hc2, hs2⟩ := OwnS.into ho2; rw [List.length_append, List.length_singleton, ← HLB.out] at hv2 hc2; subst hv2; have HS2 := hide hs2; have HC2 := hide ((HC.out.alloc HC.out.size _).trans hb2); have y0 := (HC2.out.cell (World.block_lt_of_cell? _ _ y0w)).trans y0w; have y1 := (HC2.out.cell (World.block_lt_of_cell? _ _ y1w)).trans y1w; clear ho2 hb2 hg2 hs2)
              | (refine step_append_rep rfl (.tmp 69) (.tmp 71) 26 rfl wr.heap.size 3 _ 1 8 Tryz.underlying26 iInfo rfl (by decide) intR_ok Non All v1 begun (by simp [Act.eval, Act.put]) HO1.out (some ⟨wr.heap.size + 1, 0, none⟩) 1 [x] (by simp [Act.eval, Act.put]) (HKX.out.all intR_ok (by decide)) (fun _ _ h => h) (fun _ h => h.elim) (by rw [← HLB.out]; simp; omega) (by rw [← HLB.out]; simp; omega) (by have := HC.out.size; (try simp only [World.size_alloc]); omega) ?_; intro v2 w2 ho2 hb2 hg2; obtain ⟨o2, c2, hv2, hc2, hs2⟩ := OwnS.into ho2; rw [List.length_append, List.length_singleton, ← HLB.out] at hv2 hc2; subst hv2; have HS2 := hide hs2; have HC2 := hide (HC.out.trans hb2); have y0 := (HC2.out.cell (World.block_lt_of_cell? _ _ y0w)).trans y0w; have y1 := (HC2.out.cell (World.block_lt_of_cell? _ _ y1w)).trans y1w; clear ho2 hb2 hg2 hs2)
              | (refine step_append_rep rfl (.tmp 69) (.tmp 71) 26 rfl wr.heap.size 3 _ 1 8 Tryz.underlying26 iInfo rfl (by decide) intR_ok Non All v1 begun (by simp [Act.eval, Act.put]) HO1.out (some ⟨wr.heap.size, 0, none⟩) 1 [x] (by simp [Act.eval, Act.put]) (HKX.out.all intR_ok (by decide)) (fun _ _ h => h) (fun _ h => h.elim) (by rw [← HLB.out]; simp; omega) (by rw [← HLB.out]; simp; omega) (by have := HC.out.size; (try simp only [World.size_alloc]); omega) ?_; intro v2 w2 ho2 hb2 hg2; obtain ⟨o2, c2, hv2, hc2, hs2⟩ := OwnS.into ho2; rw [List.length_append, List.length_singleton, ← HLB.out] at hv2 hc2; subst hv2; have HS2 := hide hs2; have HC2 := hide (HC.out.trans hb2); have y0 := (HC2.out.cell (World.block_lt_of_cell? _ _ y0w)).trans y0w; have y1 := (HC2.out.cell (World.block_lt_of_cell? _ _ y1w)).trans y1w; clear ho2 hb2 hg2 hs2)
              | (go_at_call 63; refine (HIH.out _ x o2 c2 c3 (HBr.out.trans (HC2.out.mono HBr.out.size)) HS2.out hc2 hxb (by omega)).mono ?_; rintro e w7 ⟨v7, rfl, hv7, hb7⟩; have HV7 := hide hv7; have HC7 := hide (below_then HC2.out hb7); have y0 := (hb7.cell (World.block_lt_of_cell? _ _ y0)).trans y0; have y1 := (hb7.cell (World.block_lt_of_cell? _ _ y1)).trans y1; clear hv7 hb7)
              | (refine step_max2 rfl (.tmp 74) (.tmp 76) _ rfl x (-x) mx (by simp [Act.eval, Act.put]) (by simp [Act.eval, Act.put]) hmx ?_))
            all_goals
              go_wp2_with fail
              go_meet
              exact ⟨by rw [← HF2.out]; exact HV7.out, HC7⟩
          case rest =>
            obtain ⟨HV14, HB14⟩ := hcut
            have HBW2 : Hid (Below W2.heap.size W2 wc) := below_then HBW.out HB14.out
            clear hc3v hnx
            rcases hfx : f i with _ | sx
            · rw [hfx] at HV14
              have e14 : u14 = .slice none 0 0 := HV14.out
              have HFN2 : Hid (((List.range (2 * cost + 1)).take (i + 1)).findSome? f = none) := by show _ = _; rw [HFX.out, hfx]
              subst e14
              clear hfx
              go_wp2_with fail
              go_roundg (2 * cost + 1 - (i + 1))
              case rel => exact ⟨i + 1, by omega, rfl, by rw [show (((i + 1 : Nat) : Int) - cost) = x + 1 from by rw [HX0.out]; push_cast; omega], HFN2, HBW2⟩
              case measure => rw [HGM.out]; omega
            · rw [hfx] at HV14
              obtain ⟨b5, o5, c5, e5, h5a, h5b⟩ := HV14.out
              have HRES : Hid (firstS (fun s => paidL (movedL s es d)) (m2 + 1 + 1) begun cost = some sx) := by show _ = _; rw [HFR2.out]; exact find_all (k := i + 1) (HFX.out.trans hfx)
              have H5 := hide h5b
              subst e5
              clear hfx h5b HV14
              go_wp2_with fail
              go_ret
              exact ⟨_, rfl, by rw [HRES.out]; exact ⟨b5, o5, c5, rfl, h5a, H5.out⟩, HB2.out.trans (HBW2.out.mono HB2.out.size)⟩
        · have q2 : decide (x ≤ (cost : Int)) = false := by simp; omega
          have HRES : Hid (firstS (fun s => paidL (movedL s es d)) (m2 + 1 + 1) begun cost = none) := by
            have h5 := HFN.out
            rw [List.take_of_length_le (by rw [List.length_range]; omega)] at h5
            show _ = _
            rw [HFR2.out]
            exact h5
          clear hx
          go_wp2_with fail
          go_ret
          exact ⟨_, rfl, by rw [HRES.out]; rfl, HB2.out.trans (HBW.out.mono HB2.out.size)⟩
end Go.Proofs.YtpgopmmobbemcaaGreat

set_option linter.unusedVariables false
set_option linter.unusedSimpArgs false
set_option linter.unnecessarySimpa false
namespace Go.Proofs.YtpgopmmobbemcaaGreat
open Go.RowKit

theorem totL_sum (l : List Int) : totL l = sumI (fun v => l.getD v 0) l.length := by
  have key : ∀ (k : Nat), k ≤ l.length → totL (l.take k) = sumI (fun v => l.getD v 0) k := by
    intro k
    induction k with
    | zero => intro _; rfl
    | succ k ih =>
      intro hk
      have hlt : k < l.length := by omega
      have h1 := ih (by omega)
      rw [List.take_add_one, List.getElem?_eq_getElem hlt, totL_app, h1, sumI]
      congr 1
      show l[k] + 0 = l.getD k 0
      rw [List.getD_eq_getElem?_getD, List.getElem?_eq_getElem hlt]
      simp
  have h1 := key l.length (by omega)
  rw [List.take_length] at h1
  exact h1
theorem GOk.of {N : Nat} {es : List Edg} {f : List Nat} {d : List Int} (hT : TOk N es f d) (hc2 : es.length ≤ 1000) (hU : gErr N es = 0 → Uf f (eL es)) (hS : SmG N es d) : GOk N es d :=
  ⟨EOk.of hT.g hc2, hT.n12.1, conn_link hU hT.j, hS⟩
/-- What the reference's Wins says. -/
def winsB (N : Nat) (es : List Edg) (d : List Int) : Bool := if totL d < 0 then false else wRun N es 10000000 (fun v => d.getD v 0) (fun _ => false)
theorem winsB_iff {N : Nat} {es : List Edg} {d : List Int} (h : GOk N es d) (hd : d.length = N) : winsB N es d = true ↔ Winn N (linkE es) (fun v => d.getD v 0) := by
  unfold winsB
  by_cases ht : totL d < 0
  · rw [if_pos ht]
    rw [totL_sum, hd] at ht
    have h1 := neg_lost h.gr ht
    exact ⟨fun h2 => by simp at h2, fun h2 => absurd h2 h1⟩
  · rw [if_neg ht]
    obtain ⟨M, hM⟩ : ∃ M : Nat, M = 10000000 := ⟨_, rfl⟩
    rw [← hM]
    obtain ⟨g, hg⟩ := wRun_law h M 0 (fun v => d.getD v 0) (fun _ => false) (fun _ => 0) GSt.zero (fun v hv => by simp) (by omega)
    exact hg.iff
def RSolvePost (w : World) (n : Int) (es : List Edg) (f : List Nat) (d : List Int) (limit : Int) (e : Ending) (w' : World) : Prop :=
  ∃ b : Bool, (tErr n es f d = 0 → (b = true ↔ Winn n.toNat (linkE es) (fun v => d.getD v 0))) ∧ SolPost w (refSolveR n es f d limit b) e w'
set_option maxRecDepth 100000 in
set_option maxHeartbeats 4000000 in
theorem rsolve43_any (n : Int) (es : List Edg) (oe : Option Addr) (c : Nat) (F : Foot) (w : World) (hs : SliceR edgR 3 F w oe es) (hc : es.length ≤ c) (hc2 : es.length ≤ 1000)
    (f : List Nat) (hU : Hid (gErr n es = 0 → Uf f (eL es))) (d : List Int) (od : Option Addr) (cd : Nat) (G : Foot) (hd : SliceR intR 1 G w od d) (hdc : d.length ≤ cd) (hdl : d.length ≤ 1000) (hS : Hid (tErr n es f d = 0 → SmG n.toNat es d)) (limit : Int) (hlim : I64 limit) :
    Calls Tryz.prog 21 #[.agg #[.int .i64 n, .slice oe es.length c], .slice od d.length cd, .int .i64 limit] w (RSolvePost w n es f d limit) := by
  have hb0 := bnew (Below.refl w.heap.size w) (.cells #[.int .i64 n, .slice oe es.length c] 24)
  have bxx := Box.new w [.int .i64 n, .slice oe es.length c] 24
  have HK := hide (rgiven43_any n es oe c F _ (hs.below edgR_ok hb0) hc (by omega) f hU d od cd G (hd.below intR_ok hb0) hdc (by omega))
  have HD := hide hd
  have HS := hide hs
  have HB := hide hb0
  have HX := hide bxx
  have hli := hlim
  unfold I64 at hli
  clear hs hd hb0 bxx
  go_enter Tryz.func21, Tryz.ntmps21
  go_wp2_with fail
  refine HK.out.mono ?_
  rintro e w2 ⟨rfl, hb2⟩
  have HB2 := hide (below_then HB.out hb2)
  have HX2 := hide (HX.out.below hb2)
  have y0 := HX2.out.cell 0
  have y1 := HX2.out.cell 1
  simp only [List.getElem?_cons_zero, List.getElem?_cons_succ] at y0 y1
  clear hb2
  by_cases hV : tErr n es f d = 0
  case neg =>
    have hR : Hid (refSolveR n es f d limit false = ([], 0, tErr n es f d)) := if_pos hV
    have hq : (tErr n es f d != 0) = true := by simpa using hV
    have HNV := hide hV
    clear hV
    go_wp2_with fail
    go_ret3
    exact ⟨false, fun h => absurd h HNV.out, by rw [hR.out]; exact SolPost.none HB2.out⟩
  have HNV : Hid (tErr n es f d = 0) := hV
  obtain ⟨N, rfl, hT⟩ := tErr_ok hV
  have HT := hide hT
  have h12 := hT.n12
  have hdN := hT.len
  have hok := EOk.of hT.g hc2
  have HSM : Hid (SmG N es d) := by have := hS.out hV; rwa [Int.toNat_natCast] at this
  have HG : Hid (GOk N es d) := GOk.of hT hc2 hU.out HSM.out
  have HWB := hide (winsB_iff HG.out hdN)
  have HR0 : Hid (∀ b, refSolveR N es f d limit b = if limit < 0 ∨ 8 < limit then ([], 0, 2) else if b = false then ([], 0, 6) else refF N (fun s => paidL (movedL s es d)) (limit.toNat + 1) 0) := fun b => by
    unfold refSolveR
    rw [if_neg (fun h => h hV), Int.toNat_natCast]
  by_cases hl : limit < 0 ∨ 8 < limit
  · have hR : Hid (refSolveR N es f d limit (winsB N es d) = ([], 0, 2)) := by show _ = _; rw [HR0.out, if_pos hl]
    rw [hV]
    by_cases hl0 : limit < 0
    · clear hV hT hl hdN hok
      go_wp2_with fail
      go_ret3
      exact ⟨winsB N es d, fun _ => by rw [Int.toNat_natCast]; exact HWB.out, by rw [hR.out]; exact SolPost.none HB2.out⟩
    · have hl8 : 8 < limit := by omega
      clear hV hT hl hdN hok
      go_wp2_with fail
      go_ret3
      exact ⟨winsB N es d, fun _ => by rw [Int.toNat_natCast]; exact HWB.out, by rw [hR.out]; exact SolPost.none HB2.out⟩
  obtain ⟨M, rfl⟩ := Int.eq_ofNat_of_zero_le (show 0 ≤ limit by omega)
  have hM8 : M ≤ 8 := by omega
  have hl0 : ¬ ((M : Int) < 0) := by omega
  have hl8 : ¬ (8 < (M : Int)) := by omega
  have HR1 : Hid (∀ b, refSolveR N es f d (M : Int) b = if b = false then ([], 0, 6) else refF N (fun s => paidL (movedL s es d)) (M + 1) 0) := fun b => by
    rw [HR0.out b, if_neg hl, Int.toNat_natCast]
  have HWN : Hid (Calls Tryz.prog 62 #[.agg #[.int .i64 N, .slice oe es.length c], .slice od N cd] w2 fun e w' => e = .returned (.bool (winsB N es d)) ∧ Below w2.heap.size w2 w') := rwins36_any hT.g hok h12 oe c F w2 (HS.out.below edgR_ok HB2.out) hc d od cd G (HD.out.below intR_ok HB2.out) (by omega) hdN hT.dB
  have HFI : Hid (∀ (W : World) (k : Nat), Below w.heap.size w W → k ≤ 8 → Calls Tryz.prog 63 #[.agg #[.int .i64 N, .slice oe es.length c], .slice od N cd, .slice none 0 0, .int .i64 k] W (FirstPost W (firstS (fun s => paidL (movedL s es d)) N [] k))) := fun W k hW hk =>
    rfirst_any hT.g hok h12 oe c F hc d od cd G (by omega) hdN hT.dB N W [] none 0 k (HS.out.below edgR_ok hW) (HD.out.below intR_ok hW) (fun i y hi => by simp at hi) (by simp) (by simp) (fun x hx => by simp at hx) hk
  rw [hV]
  try rw [hdN]
  clear hV hT hl hdN hok HR0 hS hlim hli
  go_wp2_with fail
  refine HWN.out.mono ?_
  rintro e w3 ⟨rfl, hb3⟩
  have HB3 := hide (below_then HB2.out hb3)
  have HX3 := hide (HX2.out.below hb3)
  clear hb3 y0 y1
  rcases hwb : winsB N es d with _ | _
  · have hR : Hid (refSolveR N es f d (M : Int) (winsB N es d) = ([], 0, 6)) := by show _ = _; rw [HR1.out, if_pos hwb]
    clear hwb
    go_wp2_with fail
    go_ret3
    exact ⟨winsB N es d, fun _ => by rw [Int.toNat_natCast]; exact HWB.out, by rw [hR.out]; exact SolPost.none HB3.out⟩
  have hR : Hid (refSolveR N es f d (M : Int) (winsB N es d) = refF N (fun s => paidL (movedL s es d)) (M + 1) 0) := by show _ = _; rw [HR1.out, if_neg (by rw [hwb]; simp)]
  obtain ⟨wins, hwi⟩ : ∃ wins : List Int → Bool, wins = fun s => paidL (movedL s es d) := ⟨_, rfl⟩
  rw [← hwi] at HFI hR
  clear hwb HR1 HWN hwi
  have hwl := HX.out.lt
  go_wp2_with fail
  go_loopg [10] (M + 1) (fun gm iv wx => ∃ k : Nat, k ≤ M + 1 ∧ gm = M + 1 - k ∧ iv = .int .i64 k ∧ Hid (refF N wins (M + 1) 0 = refF N wins (M + 1 - k) k) ∧ Hid (Below w3.heap.size w3 wx))
  case atStart => exact ⟨0, by omega, by omega, rfl, rfl, Below.refl _ _⟩
  case round =>
    obtain ⟨k, hk, hgm, rfl, HF, HBr⟩ := hrel
    have HGM := hide hgm
    have HBW : Hid (Below w.heap.size w wr) := below_then HB3.out HBr.out
    clear hgm
    by_cases hlt : k < M + 1
    · have bx := HX3.out.below HBr.out
      have y0 := bx.cell 0
      have y1 := bx.cell 1
      simp only [List.getElem?_cons_zero, List.getElem?_cons_succ] at y0 y1
      have q1 : decide ((k : Int) ≤ (M : Int)) = true := by simp; omega
      have HK2 := hide (HFI.out wr k HBW.out (by omega))
      have HN : Hid (refF N wins (M + 1 - k) k = match firstS wins N [] k with | some s => (s, (k : Int), 0) | none => refF N wins (M + 1 - (k + 1)) (k + 1)) := by
        show _ = _
        rw [show M + 1 - k = (M + 1 - (k + 1)) + 1 by omega, refF]
        try (cases firstS wins N [] k <;> rfl)
      clear bx
      go_wp2_with fail
      refine HK2.out.mono ?_
      rintro e w5 ⟨v5, rfl, hv5, hb5⟩
      have HB5 := hide (below_then HBr.out hb5)
      have HBW5 : Hid (Below w.heap.size w w5) := below_then HB3.out HB5.out
      have HV5 := hide hv5
      clear hv5 hb5 y0 y1
      rcases hfx : firstS wins N [] k with _ | sx
      · rw [hfx] at HV5 HN
        have e5 : v5 = .slice none 0 0 := HV5.out
        subst e5
        clear hfx
        go_wp2_with fail
        go_roundg (M + 1 - (k + 1))
        case rel => exact ⟨k + 1, by omega, rfl, by go_num, by show _ = _; rw [HF.out, HN.out], HB5⟩
        case measure => rw [HGM.out]; omega
      · rw [hfx] at HV5 HN
        obtain ⟨b5, o5, c5, e5, h5a, h5b⟩ := HV5.out
        have H5 := hide h5b
        subst e5
        have HRES : Hid (refSolveR N es f d (M : Int) (winsB N es d) = (sx, (k : Int), 0)) := by show _ = _; rw [hR.out, HF.out, HN.out]
        clear hfx h5b HV5
        go_wp2_with fail
        go_ret3
        exact ⟨winsB N es d, fun _ => by rw [Int.toNat_natCast]; exact HWB.out, by rw [HRES.out]; exact ⟨_, c5, rfl, h5a, H5.out, HBW5.out⟩⟩
    · have q1 : decide ((k : Int) ≤ (M : Int)) = false := by simp; omega
      have HRES : Hid (refSolveR N es f d (M : Int) (winsB N es d) = ([], 0, 12)) := by show _ = _; rw [hR.out, HF.out, show M + 1 - k = 0 by omega]; rfl
      go_wp2_with fail
      go_ret3
      exact ⟨winsB N es d, fun _ => by rw [Int.toNat_natCast]; exact HWB.out, by rw [HRES.out]; exact SolPost.none HBW.out⟩
end Go.Proofs.YtpgopmmobbemcaaGreat

set_option linter.unusedVariables false
set_option linter.unusedSimpArgs false
set_option linter.unnecessarySimpa false
namespace Go.Proofs.YtpgopmmobbemcaaGreat
open Go.RowKit

theorem fewR_any (n : Int) (es : List Edg) (oe : Option Addr) (c : Nat) (F : Foot) (w : World) (hs : SliceR edgR 3 F w oe es) (hc : es.length ≤ c) (hc2 : es.length ≤ 9223372036854775807) :
    Calls Tryz.prog 57 #[.agg #[.int .i64 n, .slice oe es.length c]] w fun e w' => e = .returned (.bool (smB n es 5 7)) ∧ Below w.heap.size w w' := by
  have hb0 := bnew (Below.refl w.heap.size w) (.cells #[.int .i64 n, .slice oe es.length c] 24)
  have HK := hide (small_any n es oe c F _ (hs.below edgR_ok hb0) hc hc2 5 7)
  have HB := hide hb0
  clear hs hb0
  go_enter Tryz.func57, Tryz.ntmps57
  go_wp2_with fail
  refine HK.out.mono ?_
  rintro e w2 ⟨rfl, hb2⟩
  have HB2 := hide (below_then HB.out hb2)
  clear hb2
  go_wp2_with fail
  go_ret
  exact ⟨ret_bool rfl, HB2.out⟩
theorem refF_len (N : Nat) (wins : List Int → Bool) : ∀ (fuel k : Nat), (refF N wins fuel k).1.length ≤ N
  | 0, _ => by simp [refF]
  | fuel + 1, k => by
    unfold refF
    rcases hf : firstS wins N [] k with _ | s
    · exact refF_len N wins fuel (k + 1)
    · have h1 := first_spec wins N [] k
      rw [hf] at h1
      obtain ⟨t, e, ht, _, _⟩ := LeastW.has h1
      have e : s = t := e
      show s.length ≤ N
      rw [e, ht]
      omega
theorem solveR_len (n : Int) (es : List Edg) (f : List Nat) (d : List Int) (limit : Int) (b : Bool) (hc2 : es.length ≤ 1000) : (solveR n es f d limit b).1.length ≤ 12 := by
  rw [solve_ref n es f d limit b hc2]
  unfold refSolveR
  split
  · simp
  · rename_i hv
    split
    · simp
    · split
      · simp
      · obtain ⟨N, rfl, hT⟩ := tErr_ok (f := f) (es := es) (d := d) (n := n) (by simpa using hv)
        rw [Int.toNat_natCast]
        have h1 := refF_len N (fun s => paidL (movedL s es d)) (limit.toNat + 1) 0
        have h2 := hT.n12
        omega
def sm43 (n : Int) (es : List Edg) (f : List Nat) (d : List Int) : Bool := smB n es 5 7 && (decide (d.length ≤ 24) && (smD d || decide (tErr n es f d ≠ 0)))
theorem smB_len {n : Int} {es : List Edg} {N M : Int} (h : smB n es N M = true) : es.length ≤ 40 := by
  unfold smB at h
  split at h
  · assumption
  · cases h
theorem sm43_parts {n : Int} {es : List Edg} {f : List Nat} {d : List Int} (h : sm43 n es f d = true) : es.length ≤ 40 ∧ d.length ≤ 24 ∧ (tErr n es f d = 0 → SmG n.toNat es d) := by
  unfold sm43 at h
  simp only [Bool.and_eq_true, Bool.or_eq_true, decide_eq_true_eq] at h
  obtain ⟨h1, h2, h3⟩ := h
  refine ⟨smB_len h1, h2, fun ht => ?_⟩
  rcases h3 with h3 | h3
  · obtain ⟨N, rfl, hT⟩ := tErr_ok ht
    unfold smB at h1
    rw [if_pos (smB_len (by unfold smB; exact h1)), if_pos hT.g] at h1
    have h4 := of_decide_eq_true h1
    exact ⟨by rw [Int.toNat_natCast]; omega, by omega, smD_yes h3⟩
  · exact absurd ht h3
set_option maxRecDepth 100000 in
set_option maxHeartbeats 4000000 in
theorem small43_any (n : Int) (es : List Edg) (oe : Option Addr) (c : Nat) (F : Foot) (w : World) (hs : SliceR edgR 3 F w oe es) (hc : es.length ≤ c) (hc2 : es.length ≤ 9223372036854775807)
    (f : List Nat) (hU : Hid (gErr n es = 0 → Uf f (eL es))) (d : List Int) (od : Option Addr) (cd : Nat) (G : Foot) (hd : SliceR intR 1 G w od d) (hdc : d.length ≤ cd) (hdl : d.length ≤ 9223372036854775807) :
    Calls Tryz.prog 19 #[.agg #[.int .i64 n, .slice oe es.length c], .slice od d.length cd] w fun e w' => e = .returned (.bool (sm43 n es f d)) ∧ Below w.heap.size w w' := by
  have hb0 := bnew (Below.refl w.heap.size w) (.cells #[.int .i64 n, .slice oe es.length c] 24)
  have bxx := Box.new w [.int .i64 n, .slice oe es.length c] 24
  have HK := hide (fewR_any n es oe c F _ (hs.below edgR_ok hb0) hc hc2)
  have HD := hide hd
  have HS := hide hs
  have HB := hide hb0
  have HX := hide bxx
  have HE : Hid (sm43 n es f d = (smB n es 5 7 && (decide (d.length ≤ 24) && (smD d || decide (tErr n es f d ≠ 0))))) := rfl
  clear hs hd hb0 bxx
  go_enter Tryz.func19, Tryz.ntmps19
  go_wp2_with fail
  refine HK.out.mono ?_
  rintro e w2 ⟨rfl, hb2⟩
  have HB2 := hide (below_then HB.out hb2)
  have HX2 := hide (HX.out.below hb2)
  have HB2x := hide hb2
  clear hb2
  generalize smB n es 5 7 = b1 at *
  cases b1
  · go_wp2_with fail
    go_ret
    exact ⟨ret_bool (by rw [HE.out]; rfl), HB2.out⟩
  go_wp2_with fail
  refine (few17_any d od cd _).mono ?_
  rintro e w3 ⟨rfl, hb3⟩
  have HB3 := hide (below_then HB2.out hb3)
  have HX3 := hide (HX2.out.below hb3)
  clear hb3
  generalize decide (d.length ≤ 24) = b2 at *
  cases b2
  · go_wp2_with fail
    go_ret
    exact ⟨ret_bool (by rw [HE.out]; rfl), HB3.out⟩
  have HSM := hide (smD_any d od cd G w3 (HD.out.below intR_ok HB3.out) hdc hdl)
  go_wp2_with fail
  refine HSM.out.mono ?_
  rintro e w4 ⟨rfl, hb4⟩
  have HB4 := hide (below_then HB3.out hb4)
  have HX4 := hide (HX3.out.below hb4)
  clear hb4 HSM
  generalize smD d = b3 at *
  cases b3
  case true =>
    go_wp2_with fail
    go_ret
    exact ⟨ret_bool (by rw [HE.out]; rfl), HB4.out⟩
  have y0 := HX4.out.cell 0
  have y1 := HX4.out.cell 1
  simp only [List.getElem?_cons_zero, List.getElem?_cons_succ] at y0 y1
  have HGV := hide (rgiven43_any n es oe c F w4 (HS.out.below edgR_ok HB4.out) hc hc2 f hU d od cd G (HD.out.below intR_ok HB4.out) hdc hdl)
  go_wp2_with fail
  refine HGV.out.mono ?_
  rintro e w5 ⟨rfl, hb5⟩
  have HB5 := hide (below_then HB4.out hb5)
  clear hb5 HGV
  by_cases hV : tErr n es f d = 0
  · have hq : (tErr n es f d != 0) = false := by simpa using hV
    have HR : Hid (sm43 n es f d = false) := by show _ = _; rw [HE.out]; simp [hV]
    clear hV
    go_wp2_with fail
    go_ret
    exact ⟨ret_bool HR.out.symm, HB5.out⟩
  · have hq : (tErr n es f d != 0) = true := by simpa using hV
    have HR : Hid (sm43 n es f d = true) := by show _ = _; rw [HE.out]; simp [hV]
    clear hV
    go_wp2_with fail
    go_ret
    exact ⟨ret_bool HR.out.symm, HB5.out⟩
end Go.Proofs.YtpgopmmobbemcaaGreat

set_option linter.unusedVariables false
set_option linter.unusedSimpArgs false
set_option linter.unnecessarySimpa false
namespace Go.Proofs.YtpgopmmobbemcaaGreat
open Go.RowKit

set_option maxRecDepth 100000 in
set_option maxHeartbeats 4000000 in
theorem solves_walk (w : World) (n : Int) (es : List Edg) (oe : Option Addr) (c : Nat) (hc : es.length ≤ c) (hc2 : es.length ≤ 9223372036854775807) (hs : SliceR edgR 3 All w oe es)
    (d : List Int) (od : Option Addr) (cd : Nat) (hdc : d.length ≤ cd) (hdl : d.length ≤ 9223372036854775807) (hd : SliceR intR 1 All w od d) (limit : Int) (hli : I64 limit) :
    Calls Tryz.prog 5 #[.agg #[.int .i64 n, .slice oe es.length c], .slice od d.length cd, .int .i64 limit] w fun r w' => r = .returned (.bool true) ∧ Below w.heap.size w w' := by
  have HU : Hid (gErr n es = 0 → Uf (forest es) (eL es)) := forest_ok n es
  have hb0 := bnew (Below.refl w.heap.size w) (.cells #[.int .i64 n, .slice oe es.length c] 24)
  have bxx := Box.new w [.int .i64 n, .slice oe es.length c] 24
  have K1 := hide (small43_any n es oe c All _ (hs.below edgR_ok hb0) hc hc2 (forest es) HU d od cd All (hd.below intR_ok hb0) hdc hdl)
  have HD := hide hd
  have HS := hide hs
  have HB := hide hb0
  have HX := hide bxx
  clear hs hd hb0 bxx
  go_enter Tryz.func5, Tryz.ntmps5
  go_wp2_with fail
  refine K1.out.mono ?_
  rintro e w2 ⟨rfl, hb2⟩
  have HB2 := hide (below_then HB.out hb2)
  have HX2 := hide (HX.out.below hb2)
  have y0 := HX2.out.cell 0
  have y1 := HX2.out.cell 1
  simp only [List.getElem?_cons_zero, List.getElem?_cons_succ] at y0 y1
  clear hb2
  have haw : ∀ W : World, Calls Tryz.prog 12 #[] W fun e w' => e = .returned (.bool true) ∧ Below W.heap.size W w' := fun W => awake43_any W
  have HAW := hide haw
  clear haw
  rcases hf : sm43 n es (forest es) d with _ | _
  · clear hf
    go_wp2_with fail
    refine (HAW.out _).mono ?_
    rintro e w6 ⟨rfl, hb6⟩
    have HB6 := hide (below_then HB2.out hb6)
    clear hb6
    go_wp2_with fail
    go_ret
    exact ⟨by first | rfl | trivial, HB6.out⟩
  obtain ⟨h40, h24, hsm⟩ := sm43_parts hf
  have HSM := hide hsm
  clear hsm hf
  by_cases h5 : 5 < limit
  · by_cases h8 : limit ≤ 8
    · go_wp2_with fail
      refine (HAW.out _).mono ?_
      rintro e w6 ⟨rfl, hb6⟩
      have HB6 := hide (below_then HB2.out hb6)
      clear hb6
      go_wp2_with fail
      go_ret
      exact ⟨by first | rfl | trivial, HB6.out⟩
    · as_aux_lemma =>
        have HS1 : Hid (∀ W, Below w.heap.size w W → Calls Tryz.prog 20 #[.agg #[.int .i64 n, .slice oe es.length c], .slice od d.length cd, .int .i64 limit] W (SolvePost W n es (forest es) d limit)) := fun W hW => solve_any n es oe c All W (HS.out.below edgR_ok hW) hc (by omega) (forest es) HU d od cd All (HD.out.below intR_ok hW) hdc (by omega) HSM limit hli
        have HS2 : Hid (∀ W, Below w.heap.size w W → Calls Tryz.prog 21 #[.agg #[.int .i64 n, .slice oe es.length c], .slice od d.length cd, .int .i64 limit] W (RSolvePost W n es (forest es) d limit)) := fun W hW => rsolve43_any n es oe c All W (HS.out.below edgR_ok hW) hc (by omega) (forest es) HU d od cd All (HD.out.below intR_ok hW) hdc (by omega) HSM limit hli
        go_wp2_with fail
        refine (HS1.out _ HB2.out).mono ?_
        rintro e w3 ⟨b1, hb1, oA, cA, rfl, hcA, hsA, hb3⟩
        have HBI1 := hide hb1
        have HSA := hide hsA
        have HB3 := hide (below_then HB2.out hb3)
        have HX3 := hide (HX2.out.below hb3)
        clear hb1 hsA hb3 y0 y1
        have y0 := HX3.out.cell 0
        have y1 := HX3.out.cell 1
        simp only [List.getElem?_cons_zero, List.getElem?_cons_succ] at y0 y1
        have HL1 : Hid ((solveR n es (forest es) d limit b1).1.length ≤ 9223372036854775807) := by have := solveR_len n es (forest es) d limit b1 (by omega); show _ ≤ _; omega
        go_wp2_with fail
        refine (HS2.out _ HB3.out).mono ?_
        rintro e w4 ⟨b2, hb2, oB, cB, rfl, hcB, hsB, hb4⟩
        have HRE : Hid (refSolveR n es (forest es) d limit b2 = solveR n es (forest es) d limit b1) := by
          show _ = _
          rw [solve_ref _ _ _ _ _ _ (by omega)]
          by_cases hv : tErr n es (forest es) d = 0
          · have : b2 = b1 := by rw [Bool.eq_iff_iff, hb2 hv, HBI1.out hv]
            rw [this]
          · unfold refSolveR
            rw [if_pos hv, if_pos hv]
        rw [HRE.out] at hcB hsB ⊢
        have HSB := hide hsB
        have HB4 := hide (below_then HB3.out hb4)
        have HSA4 := hide (HSA.out.below intR_ok hb4)
        clear hb2 hsB hb4 y0 y1
        obtain ⟨R, hR⟩ : ∃ R, R = solveR n es (forest es) d limit b1 := ⟨_, rfl⟩
        rw [← hR] at HSA4 HSB hcA hcB HL1 ⊢
        clear hR HRE HSA
        obtain ⟨l, k, err⟩ := R
        simp only at HSA4 HSB hcA hcB HL1 ⊢
        have HSS := hide (same_lit l l oA oB cA cB w4 hcA HL1.out HSA4.out HSB.out rfl rfl)
        rw [decide_eq_true (rfl : l = l)] at HSS
        go_wp2_with fail
        refine HSS.out.mono ?_
        rintro e w5 ⟨rfl, hb5⟩
        have HB5 := hide (below_then HB4.out hb5)
        clear hb5
        go_wp2_with fail
        refine (HAW.out _).mono ?_
        rintro e w6 ⟨rfl, hb6⟩
        have HB6 := hide (below_then HB5.out hb6)
        clear hb6
        go_wp2_with fail
        go_ret
        exact ⟨by first | rfl | trivial, HB6.out⟩
  · as_aux_lemma =>
      have HS1 : Hid (∀ W, Below w.heap.size w W → Calls Tryz.prog 20 #[.agg #[.int .i64 n, .slice oe es.length c], .slice od d.length cd, .int .i64 limit] W (SolvePost W n es (forest es) d limit)) := fun W hW => solve_any n es oe c All W (HS.out.below edgR_ok hW) hc (by omega) (forest es) HU d od cd All (HD.out.below intR_ok hW) hdc (by omega) HSM limit hli
      have HS2 : Hid (∀ W, Below w.heap.size w W → Calls Tryz.prog 21 #[.agg #[.int .i64 n, .slice oe es.length c], .slice od d.length cd, .int .i64 limit] W (RSolvePost W n es (forest es) d limit)) := fun W hW => rsolve43_any n es oe c All W (HS.out.below edgR_ok hW) hc (by omega) (forest es) HU d od cd All (HD.out.below intR_ok hW) hdc (by omega) HSM limit hli
      go_wp2_with fail
      refine (HS1.out _ HB2.out).mono ?_
      rintro e w3 ⟨b1, hb1, oA, cA, rfl, hcA, hsA, hb3⟩
      have HBI1 := hide hb1
      have HSA := hide hsA
      have HB3 := hide (below_then HB2.out hb3)
      have HX3 := hide (HX2.out.below hb3)
      clear hb1 hsA hb3 y0 y1
      have y0 := HX3.out.cell 0
      have y1 := HX3.out.cell 1
      simp only [List.getElem?_cons_zero, List.getElem?_cons_succ] at y0 y1
      have HL1 : Hid ((solveR n es (forest es) d limit b1).1.length ≤ 9223372036854775807) := by have := solveR_len n es (forest es) d limit b1 (by omega); show _ ≤ _; omega
      go_wp2_with fail
      refine (HS2.out _ HB3.out).mono ?_
      rintro e w4 ⟨b2, hb2, oB, cB, rfl, hcB, hsB, hb4⟩
      have HRE : Hid (refSolveR n es (forest es) d limit b2 = solveR n es (forest es) d limit b1) := by
        show _ = _
        rw [solve_ref _ _ _ _ _ _ (by omega)]
        by_cases hv : tErr n es (forest es) d = 0
        · have : b2 = b1 := by rw [Bool.eq_iff_iff, hb2 hv, HBI1.out hv]
          rw [this]
        · unfold refSolveR
          rw [if_pos hv, if_pos hv]
      rw [HRE.out] at hcB hsB ⊢
      have HSB := hide hsB
      have HB4 := hide (below_then HB3.out hb4)
      have HSA4 := hide (HSA.out.below intR_ok hb4)
      clear hb2 hsB hb4 y0 y1
      obtain ⟨R, hR⟩ : ∃ R, R = solveR n es (forest es) d limit b1 := ⟨_, rfl⟩
      rw [← hR] at HSA4 HSB hcA hcB HL1 ⊢
      clear hR HRE HSA
      obtain ⟨l, k, err⟩ := R
      simp only at HSA4 HSB hcA hcB HL1 ⊢
      have HSS := hide (same_lit l l oA oB cA cB w4 hcA HL1.out HSA4.out HSB.out rfl rfl)
      rw [decide_eq_true (rfl : l = l)] at HSS
      go_wp2_with fail
      refine HSS.out.mono ?_
      rintro e w5 ⟨rfl, hb5⟩
      have HB5 := hide (below_then HB4.out hb5)
      clear hb5
      go_wp2_with fail
      refine (HAW.out _).mono ?_
      rintro e w6 ⟨rfl, hb6⟩
      have HB6 := hide (below_then HB5.out hb6)
      clear hb6
      go_wp2_with fail
      go_ret
      exact ⟨by first | rfl | trivial, HB6.out⟩
end Go.Proofs.YtpgopmmobbemcaaGreat

set_option linter.unusedVariables false
namespace Go.Proofs.YtpgopmmobbemcaaGreat
open Go.RowKit Go.ChangeShapes Go.WideShapes Go.ChangeAt Go.Deep

set_option maxRecDepth 100000 in
theorem dollarSolves_lifted (os : Os) (started : os.Started) (H : Type) (enc : TypeId × Value → H) :
    ReturnsInHanded {} Tryz.checked os 5 .any (Rows.dollarSolvesSpec.pre6 enc Tryz.prog Tryz.f5 Rows.dollarSolvesRow.domain false) (Rows.dollarSolvesSpec.post enc Tryz.prog Tryz.f5 false true false false) := by
  refine returnsInHanded_of_change (C := Tryz.checked) own_knob started (by kernel_rfl) Tryz.func5
    (ChangeSpec.witness6 (enc := enc) (C := Tryz.checked) false ⟨#[], #[.agg #[.int .i64 0, .slice none 0 0], .slice none 0 0, .int .i64 0], []⟩ 8 (by kernel_rfl) (by kernel_rfl) (by kernel_rfl) (by kernel_rfl)) ?_
  intro W base args ds gs before hval0 hW _ _
  have hval : ∀ (j : Nat) t v, Tryz.f5.params[j]? = some t → args[j]? = some v → Value.okWide Tryz.prog W .any base t v := hval0
  have hW' := hW
  obtain ⟨p, q, hA0, hV, rfl, _, _⟩ := hW
  have hA : DataW.TrodAll enc Tryz.prog W 0 (fun _ => true) true Tryz.f5.params.toList args.toList ds p := hA0
  rw [Tryz.params5] at hA hval
  obtain ⟨v0, v1, v2, d0, d1, d2, p0, p1, p2, rfl, rfl, rfl, h0, h1, h2⟩ := trodAll_three hA
  obtain ⟨rfl, rfl⟩ := trodVars_none hV
  have h0k := h0
  have h1k := h1
  have h2k := h2
  obtain ⟨n0, es0, oe0, c0, rfl, hc0, hl0, he0⟩ := open_graph (hval 0 24 v0 rfl rfl) h0
  obtain ⟨xs1, oa1, c1, rfl, hc1, hd1, hs1⟩ := open_div (hval 1 28 v1 rfl rfl) h1
  obtain ⟨n2, rfl, in2⟩ := open_i64 (hval 2 3 v2 rfl rfl) h2
  clear hA0 hval0
  simp only [List.append_nil] at hW'
  have hlt0 : ∀ y ∈ p0, y.block < W.heap.size := fun y hy => by simpa using hW'.lt y (by simp [hy])
  have hlt1 : ∀ y ∈ p1, y.block < W.heap.size := fun y hy => by simpa using hW'.lt y (by simp [hy])
  have hlt2 : ∀ y ∈ p2, y.block < W.heap.size := fun y hy => by simpa using hW'.lt y (by simp [hy])
  refine (solves_walk W n0 es0 oe0 c0 hc0 hl0 he0 xs1 oa1 c1 hc1 hd1 hs1 n2 in2).mono fun e W' ⟨he, hn⟩ => ?_
  subst he
  exact ⟨_, rfl, _, _, _, [], _, [], hW', trodAll_mk1 (shut_bool Tryz.underlying4 true), trodAll_mk3 (Below.trod laid_out (by kernel_rfl) (of_decide_eq_true (by kernel_rfl)) h0k hn hlt0) (Below.trod laid_out (by kernel_rfl) (of_decide_eq_true (by kernel_rfl)) h1k hn hlt1) (Below.trod laid_out (by kernel_rfl) (of_decide_eq_true (by kernel_rfl)) h2k hn hlt2), rfl, hn.frame _, fun h => by cases h⟩

theorem dollarSolves_holds : Rows.DollarSolvesSaid :=
  OpenClaim.holds_of_wide 5 Tryz.f5 rfl rfl rfl rfl rfl rfl rfl ⟨rfl, rfl, rfl, rfl, rfl⟩ rfl rfl rfl rfl rfl (by kernel_rfl) Tryz.func5 (by kernel_rfl)
    (of_decide_eq_true (by kernel_rfl)) (by unfold Func.isWrapper; first | (rw [if_pos (by decide +kernel)]; kernel_rfl) | (rw [if_neg (by decide +kernel)]; exact ⟨rfl, rfl⟩))
    (fun os started H enc _ => dollarSolves_lifted os started H enc)

#print axioms dollarSolves_holds
end Go.Proofs.YtpgopmmobbemcaaGreat

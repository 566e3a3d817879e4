/-
  Greedy returns the results or the error of the reference: for all graphs, divisors and picks.
  DollarBorrows: the walk.
  The reference's search for a winning script, and its Solve.
  Solve against the reference's search, in plain Lean.
  The reference's Wins and Verify.
  The dollar game: Verify.
  ref18.Few. (Cut out of XPileStab.)
  The reference's Greedy.
  The reference of the dollar game: Raised, Cheap, Cheapest.
-/
import Derived.Test.YtpgopmmobbemcaaGreatDr5
import Derived.BigQuiet
import Derived.Test.YtpgopmmobbemcaaGreatRows

set_option linter.unusedVariables false
set_option linter.unusedSimpArgs false
set_option linter.unnecessarySimpa false
namespace Go.Proofs.YtpgopmmobbemcaaGreat
open Go.RowKit

/-- The cheapest script up to now, in memory. -/
def CheapAt (N : Nat) (w : World) (bv fv av : Value) : Option (Int × List Int) → Prop
  | none => fv = .bool true
  | some (a, x) => fv = .bool false ∧ av = .int .i64 a ∧ ∃ b off c, bv = .slice (some ⟨b, off, none⟩) N c ∧ N ≤ c ∧ x.length = N ∧ SliceR intR 1 All w (some ⟨b, off, none⟩) x ∧ ∀ y ∈ x, -4194304 ≤ y ∧ y ≤ 4194304
theorem CheapAt.below {N : Nat} {w w' : World} {bv fv av : Value} : ∀ {o : Option (Int × List Int)}, CheapAt N w bv fv av o → Below w.heap.size w w' → CheapAt N w' bv fv av o
  | none, h, _ => h
  | some (a, x), ⟨h0, h1, b, off, c, h2, h3, h4, h5, h6⟩, hb => ⟨h0, h1, b, off, c, h2, h3, h4, h5.below intR_ok hb, h6⟩
def SomeL (N : Nat) (w : World) (v : Value) (l : List Int) : Prop := ∃ b off c, v = .slice (some ⟨b, off, none⟩) N c ∧ N ≤ c ∧ l.length = N ∧ SliceR intR 1 All w (some ⟨b, off, none⟩) l ∧ ∀ y ∈ l, -4194304 ≤ y ∧ y ≤ 4194304
def Given3 (w : World) (r : List Int × Int × Int) (e : Ending) (w' : World) : Prop :=
  ∃ oa c, e = .returned (.tuple #[.slice oa r.1.length c, .int .i64 r.2.1, .int .i64 r.2.2]) ∧ r.1.length ≤ c ∧ SliceR intR 1 All w' oa r.1 ∧ Below w.heap.size w w'
theorem Given3.none {w w' : World} {x y : Int} (h : Below w.heap.size w w') : Given3 w ([], x, y) (.returned (.tuple #[.slice none 0 0, .int .i64 x, .int .i64 y])) w' :=
  ⟨Option.none, 0, rfl, by simp, fun i x hx => by simp at hx, h⟩
end Go.Proofs.YtpgopmmobbemcaaGreat

set_option linter.unusedVariables false
set_option linter.unusedSimpArgs false
set_option linter.unnecessarySimpa false
namespace Go.Proofs.YtpgopmmobbemcaaGreat
open Go.RowKit

/-- What the reference's Greedy returns. -/
def RGrePost (w : World) (r : Bool × List Int × Int) (e : Ending) (w' : World) : Prop :=
  ∃ (o : Option Addr) (c : Nat), e = .returned (.tuple #[.bool r.1, .slice o r.2.1.length c, .int .i64 r.2.2]) ∧ r.2.1.length ≤ c ∧ SliceR intR 1 All w' o r.2.1 ∧ Below w.heap.size w w'
theorem RGrePost.none {w w' : World} {e : Int} (hb : Below w.heap.size w w') : RGrePost w (false, [], e) (.returned (.tuple #[.bool false, .slice none 0 0, .int .i64 e])) w' :=
  ⟨_, 0, rfl, by simp, fun i x hx => by simp at hx, hb⟩
set_option maxRecDepth 100000 in
set_option maxHeartbeats 8000000 in
theorem rgreedy_any (n : Int) (es : List Edg) (oe : Option Addr) (c : Nat) (F : Foot) (w : World) (hs : SliceR edgR 3 F w oe es) (hc : es.length ≤ c) (hc2 : es.length ≤ 1000)
    (f : List Nat) (hU : Hid (gErr n es = 0 → Uf f (eL es))) (d : List Int) (od : Option Addr) (cd : Nat) (G : Foot) (hd : SliceR intR 1 G w od d) (hdc : d.length ≤ cd) (hdl : d.length ≤ 9223372036854775807)
    (pk : List Int) (op : Option Addr) (cp : Nat) (H : Foot) (hp : SliceR intR 1 H w op pk) (hpc : pk.length ≤ cp) (hpl : pk.length ≤ 9223372036854775807) :
    Calls Tryz.prog 18 #[.agg #[.int .i64 n, .slice oe es.length c], .slice od d.length cd, .slice op pk.length cp] w (RGrePost w (greedyR 1048576 n es f d pk)) := by
  obtain ⟨M, hM⟩ : ∃ M : Nat, M = 1048576 := ⟨_, rfl⟩
  rw [← hM]
  have HM := hide hM
  have hb0 := bnew (Below.refl w.heap.size w) (.cells #[.int .i64 n, .slice oe es.length c] 24)
  have bxx := Box.new w [.int .i64 n, .slice oe es.length c] 24
  have HK := hide (rgiven43_any n es oe c F _ (hs.below edgR_ok hb0) hc (by omega) f hU d od cd G (hd.below intR_ok hb0) hdc hdl)
  have HPI : Hid (∀ u, Below w.heap.size w u → Calls Tryz.prog 28 #[.slice op pk.length cp] u fun e w' => e = .returned (.int .i64 (pkE pk)) ∧ Below u.heap.size u w') := fun u hu => picks_any pk op cp H u (hp.below intR_ok hu) hpc hpl
  have HD := hide hd
  have HS := hide hs
  have HPK := hide hp
  have HB := hide hb0
  have HX := hide bxx
  clear hs hd hp hb0 bxx hM
  go_enter Tryz.func18, Tryz.ntmps18
  go_wp2_with fail
  refine HK.out.mono ?_
  rintro e w2 ⟨rfl, hb2⟩
  have HB2 := hide (below_then HB.out hb2)
  have HX2 := hide (HX.out.below hb2)
  clear hb2
  by_cases hV : tErr n es f d = 0
  case neg =>
    have hR : Hid (greedyR M n es f d pk = (false, [], tErr n es f d)) := if_pos hV
    have hq : (tErr n es f d != 0) = true := by simpa using hV
    go_wp2_with fail
    go_ret3
    rw [hR.out]
    exact RGrePost.none HB2.out
  rw [hV]
  have HPI2 := hide (HPI.out w2 HB2.out)
  go_wp2_with fail
  refine HPI2.out.mono ?_
  rintro e w3 ⟨rfl, hb3⟩
  have HB3 := hide (below_then HB2.out hb3)
  have HX3 := hide (HX2.out.below hb3)
  clear hb3 HPI HPI2
  by_cases hP : pkE pk = 0
  case neg =>
    have hR : Hid (greedyR M n es f d pk = (false, [], pkE pk)) := by show _ = _; unfold greedyR; rw [if_neg (fun h => h hV), if_pos hP]
    have hq : (pkE pk != 0) = true := by simpa using hP
    clear hV
    go_wp2_with fail
    go_ret3
    rw [hR.out]
    exact RGrePost.none HB3.out
  obtain ⟨N, rfl, hT⟩ := tErr_ok hV
  have h12 := hT.n12
  have hdN := hT.len
  have hR : Hid (greedyR M N es f d pk = gRun N es pk M 0 (fun v => d.getD v 0) (fun _ => 0)) := by show _ = _; unfold greedyR; rw [if_neg (fun h => h hV), if_neg (fun h => h hP), Int.toNat_natCast]
  have hZ := pkE_zero hP
  have HPL : Hid (Calls Tryz.prog 56 #[.agg #[.int .i64 N, .slice oe es.length c], .slice od N cd, .slice op pk.length cp] w3 (PlayPost w3 N (greedyR M N es f d pk))) := by
    have h5 := rplayed_any hT.g (EOk.of hT.g hc2) h12 oe c F w3 (HS.out.below edgR_ok HB3.out) hc d od cd G (HD.out.below intR_ok HB3.out) (by omega) hdN (fun y hy => hT.dB y hy) pk op cp H (HPK.out.below intR_ok HB3.out) hpc ⟨hZ.2.1, hZ.1⟩ (fun x hx => hZ.2.2 x hx)
    rw [← HM.out, ← hR.out] at h5
    exact h5
  have y0 := HX3.out.cell 0
  have y1 := HX3.out.cell 1
  simp only [List.getElem?_cons_zero, List.getElem?_cons_succ] at y0 y1
  generalize greedyR M N es f d pk = R at *
  rw [hP]
  rw [hdN]
  clear hR hV hP hT hZ hU HM HK hdc hdl hdN
  go_wp2_with fail
  refine HPL.out.mono ?_
  rintro e w4 ⟨a, over, g, l, rfl, hrow, hl, hI, hr, hg, hb4⟩
  have HB4 := hide (below_then HB3.out hb4)
  have HRow := hide hrow
  have HL := hide hl
  have HI := hide hI
  have HR := hide hr
  clear hrow hl hI hr hb4
  have hN0 : l.length ≤ N := by have := HL.out; omega
  cases over
  · have hR2 : R = (a, l, 0) := HR.out
    have bz := Box.new w4 [.bool a, .slice (some ⟨g, 0, none⟩) N N, .bool false] 97
    have z0 := bz.cell 0
    have z1 := bz.cell 1
    simp only [List.getElem?_cons_zero, List.getElem?_cons_succ] at z0 z1
    have hrow2 := HRow.out.new (.cells #[.bool a, .slice (some ⟨g, 0, none⟩) N N, .bool false] 97)
    have HEND : Hid (∀ q, RGrePost w R (.returned (.tuple #[.bool a, .slice (some ⟨g, 0, none⟩) N N, .int .i64 0])) ((w4.alloc (.cells #[.bool a, .slice (some ⟨g, 0, none⟩) N N, .bool false] 97)).drewN q)) := fun q => by
      rw [hR2]
      exact ⟨some ⟨g, 0, none⟩, N, by rw [HL.out], hN0, (hrow2.ints HI.out trivial).below intR_ok (below_drewN (Below.refl _ _) q), below_drewN (HB4.out.alloc HB4.out.size _) q⟩
    clear bz hrow2 hR2
    go_wp2_with fail
    go_quiet (fail)
    go_wp2_with fail
    go_ret3
    exact HEND.out _
  · have hR2 : R = (false, [], 12) := HR.out
    go_wp2_with fail
    go_ret3
    rw [hR2]
    exact RGrePost.none (HB4.out.alloc HB4.out.size _)
end Go.Proofs.YtpgopmmobbemcaaGreat

set_option linter.unusedVariables false
set_option linter.unusedSimpArgs false
namespace Go.Proofs.YtpgopmmobbemcaaGreat
open Go.RowKit

theorem rfew18_any (n : Int) (es : List Edg) (oe : Option Addr) (c : Nat) (F : Foot) (w : World) (hs : SliceR edgR 3 F w oe es) (hc : es.length ≤ c) (hc2 : es.length ≤ 9223372036854775807) (d : List Int) (od : Option Addr) (cd : Nat) :
    Calls Tryz.prog 11 #[.agg #[.int .i64 n, .slice oe es.length c], .slice od d.length cd] w fun e w' => e = .returned (.bool (smB n es 6 9 && decide (d.length ≤ 24))) ∧ Below w.heap.size w w' := by
  have HBN : Hid (∀ A, Below w.heap.size w (w.alloc A)) := fun A => bnew (Below.refl _ _) A
  have HK : Hid (∀ u, Below w.heap.size w u → Calls Tryz.prog 41 #[.agg #[.int .i64 n, .slice oe es.length c]] u fun e w' => e = .returned (.bool (smB n es 6 9)) ∧ Below u.heap.size u w') := fun u hu => rfew_any n es oe c F u (hs.below edgR_ok hu) hc hc2
  obtain ⟨b, hb⟩ : ∃ b, b = smB n es 6 9 := ⟨_, rfl⟩
  rw [← hb] at HK ⊢
  clear hs hc hc2 hb
  cases b
  · go_enter Tryz.func11, Tryz.ntmps11
    go_wp2_with (go_at_call 41; refine (HK.out _ (HBN.out _)).mono ?_; rintro e w3 ⟨rfl, hb3⟩; have HB3 := hide ((HBN.out _).trans (hb3.mono (HBN.out _).size)); clear hb3)
    go_ret
    exact ⟨ret_bool (by simp), HB3.out⟩
  · go_enter Tryz.func11, Tryz.ntmps11
    go_wp2_with (first
      | (go_at_call 41; refine (HK.out _ (HBN.out _)).mono ?_; rintro e w3 ⟨rfl, hb3⟩; have HB3 := hide ((HBN.out _).trans (hb3.mono (HBN.out _).size)); clear hb3)
      | (go_at_call 22; refine (few17_any d od cd _).mono ?_; rintro e w4 ⟨rfl, hb4⟩; have HB4 := hide (HB3.out.trans (hb4.mono HB3.out.size)); clear hb4))
    go_ret
    exact ⟨ret_bool (by simp), HB4.out⟩
end Go.Proofs.YtpgopmmobbemcaaGreat

set_option linter.unusedVariables false
set_option linter.unusedSimpArgs false
set_option linter.unnecessarySimpa false
namespace Go.Proofs.YtpgopmmobbemcaaGreat
open Go.RowKit

def verifyR (n : Int) (es : List Edg) (f : List Nat) (d s : List Int) : Int × Int :=
  if tErr n es f d ≠ 0 then (0, tErr n es f d) else if fErr n es s ≠ 0 then (0, fErr n es s) else if 0 < oweS es d s then (0, 16) else (costS s, 0)
def Int2Post (w : World) (r : Int × Int) (e : Ending) (w' : World) : Prop := e = .returned (.tuple #[.int .i64 r.1, .int .i64 r.2]) ∧ Below w.heap.size w w'
end Go.Proofs.YtpgopmmobbemcaaGreat

set_option linter.unusedVariables false
set_option linter.unusedSimpArgs false
set_option linter.unnecessarySimpa false
namespace Go.Proofs.YtpgopmmobbemcaaGreat
open Go.RowKit

end Go.Proofs.YtpgopmmobbemcaaGreat

set_option linter.unusedVariables false
set_option linter.unusedSimpArgs false
namespace Go.Proofs.YtpgopmmobbemcaaGreat
open Go.RowKit

/-- The search of the reference. -/
def refF (N : Nat) (wins : List Int → Bool) : Nat → Nat → List Int × Int × Int
  | 0, _ => ([], 0, 12)
  | fuel + 1, n => match firstS wins N [] n with
    | some s => (s, n, 0)
    | none => refF N wins fuel (n + 1)
def refSolveR (n : Int) (es : List Edg) (f : List Nat) (d : List Int) (limit : Int) (b : Bool) : List Int × Int × Int :=
  if tErr n es f d ≠ 0 then ([], 0, tErr n es f d) else if limit < 0 ∨ 8 < limit then ([], 0, 2) else if b = false then ([], 0, 6) else refF n.toNat (fun s => paidL (movedL s es d)) (limit.toNat + 1) 0
end Go.Proofs.YtpgopmmobbemcaaGreat

set_option linter.unusedVariables false
set_option linter.unusedSimpArgs false
set_option linter.unnecessarySimpa false
namespace Go.Proofs.YtpgopmmobbemcaaGreat
open Go.RowKit

def FirstV (w : World) (v : Value) : Option (List Int) → Prop
  | none => v = .slice none 0 0
  | some s => ∃ b off c, v = .slice (some ⟨b, off, none⟩) s.length c ∧ s.length ≤ c ∧ SliceR intR 1 All w (some ⟨b, off, none⟩) s
theorem FirstV.below {w w' : World} {v : Value} (hb : Below w.heap.size w w') : ∀ {o : Option (List Int)}, FirstV w v o → FirstV w' v o
  | none, h => h
  | some s, ⟨b, off, c, h1, h2, h3⟩ => ⟨b, off, c, h1, h2, h3.below intR_ok hb⟩
def FirstPost (w : World) (o : Option (List Int)) (e : Ending) (w' : World) : Prop := ∃ v, e = .returned v ∧ FirstV w' v o ∧ Below w.heap.size w w'
theorem OwnS.into {w : World} {base : Nat} {v : Value} {xs : List Int} (h : OwnS intR 1 base 3 Non w v xs) : ∃ o c, v = .slice o xs.length c ∧ xs.length ≤ c ∧ SliceR intR 1 All w o xs := by
  obtain ⟨o, c, h1, h2, h3⟩ := h.slice intR_ok
  exact ⟨o, c, h1, h2, h3.all intR_ok (by decide)⟩
end Go.Proofs.YtpgopmmobbemcaaGreat

set_option linter.unusedVariables false
set_option linter.unusedSimpArgs false
set_option linter.unnecessarySimpa false
namespace Go.Proofs.YtpgopmmobbemcaaGreat
open Go.RowKit

theorem gRun_len (N : Nat) (es : List Edg) (pk : List Int) : ∀ (M i : Nat) (left s : Nat → Int), (gRun N es pk M i left s).2.1.length ≤ N
  | 0, i, left, s => by
    unfold gRun
    split
    · simp only [lst_len]; exact Nat.le_refl _
    · split
      · simp only [lst_len]; exact Nat.le_refl _
      · simp
  | M + 1, i, left, s => by
    unfold gRun
    split
    · simp only [lst_len]; exact Nat.le_refl _
    · split
      · simp only [lst_len]; exact Nat.le_refl _
      · exact gRun_len N es pk M _ _ _
theorem greedyR_len (M : Nat) (n : Int) (es : List Edg) (f : List Nat) (d pk : List Int) : (greedyR M n es f d pk).2.1.length ≤ 12 := by
  unfold greedyR
  split
  · simp
  · rename_i h
    split
    · simp
    · obtain ⟨N, rfl, hT⟩ := tErr_ok (by simpa using h)
      have := gRun_len N es pk M 0 (fun v => d.getD v 0) (fun _ => 0)
      have := hT.n12
      rw [Int.toNat_natCast]
      omega
set_option maxRecDepth 100000 in
set_option maxHeartbeats 4000000 in
theorem borrows_walk (w : World) (n : Int) (es : List Edg) (oe : Option Addr) (c : Nat) (hc : es.length ≤ c) (hc2 : es.length ≤ 9223372036854775807) (hs : SliceR edgR 3 All w oe es)
    (d : List Int) (od : Option Addr) (cd : Nat) (hdc : d.length ≤ cd) (hdl : d.length ≤ 9223372036854775807) (hd : SliceR intR 1 All w od d)
    (pk : List Int) (op : Option Addr) (cp : Nat) (hpc : pk.length ≤ cp) (hpl : pk.length ≤ 9223372036854775807) (hp : SliceR intR 1 All w op pk) :
    Calls Tryz.prog 4 #[.agg #[.int .i64 n, .slice oe es.length c], .slice od d.length cd, .slice op pk.length cp] w fun r w' => r = .returned (.bool true) ∧ Below w.heap.size w w' := by
  have HU : Hid (gErr n es = 0 → Uf (forest es) (eL es)) := forest_ok n es
  have hb0 := bnew (Below.refl w.heap.size w) (.cells #[.int .i64 n, .slice oe es.length c] 24)
  have bxx := Box.new w [.int .i64 n, .slice oe es.length c] 24
  have K1 := hide (rfew18_any n es oe c All _ (hs.below edgR_ok hb0) hc hc2 d od cd)
  have HD := hide hd
  have HS := hide hs
  have HP := hide hp
  have HB := hide hb0
  have HX := hide bxx
  have haw : ∀ W : World, Calls Tryz.prog 12 #[] W fun e w' => e = .returned (.bool true) ∧ Below W.heap.size W w' := fun W => awake43_any W
  have HAW := hide haw
  clear hs hd hp hb0 bxx haw
  go_enter Tryz.func4, Tryz.ntmps4
  go_wp2_with fail
  refine K1.out.mono ?_
  rintro e w2 ⟨rfl, hb2⟩
  have HB2 := hide (below_then HB.out hb2)
  have HX2 := hide (HX.out.below hb2)
  clear hb2
  rcases hf : (smB n es 6 9 && decide (d.length ≤ 24)) with _ | _
  · clear hf
    go_wp2_with fail
    refine (HAW.out _).mono ?_
    rintro e w6 ⟨rfl, hb6⟩
    have HB6 := hide (below_then HB2.out hb6)
    clear hb6
    go_wp2_with fail
    go_ret
    exact ⟨by first | rfl | trivial, HB6.out⟩
  have h40 : es.length ≤ 1000 := by
    simp only [Bool.and_eq_true, decide_eq_true_eq] at hf
    have h1 := hf.1
    unfold smB at h1
    split at h1
    · omega
    · cases h1
  clear hf
  go_wp2_with fail
  refine (fewP_any pk op cp w2).mono ?_
  rintro e w4 ⟨rfl, hb4⟩
  have HB4 := hide (below_then HB2.out hb4)
  have HX4 := hide (HX2.out.below hb4)
  clear hb4
  generalize fewP pk = bf at *
  cases bf
  · go_wp2_with fail
    refine (HAW.out _).mono ?_
    rintro e w6 ⟨rfl, hb6⟩
    have HB6 := hide (below_then HB4.out hb6)
    clear hb6
    go_wp2_with fail
    go_ret
    exact ⟨by first | rfl | trivial, HB6.out⟩
  have HG := hide (greedy_any n es oe c All w4 (HS.out.below edgR_ok HB4.out) hc h40 (forest es) HU d od cd All (HD.out.below intR_ok HB4.out) hdc hdl pk op cp All (HP.out.below intR_ok HB4.out) hpc hpl)
  have HG2 : Hid (∀ W, Below w.heap.size w W → Calls Tryz.prog 18 #[.agg #[.int .i64 n, .slice oe es.length c], .slice od d.length cd, .slice op pk.length cp] W (RGrePost W (greedyR 1048576 n es (forest es) d pk))) := fun W hW => rgreedy_any n es oe c All W (HS.out.below edgR_ok hW) hc h40 (forest es) HU d od cd All (HD.out.below intR_ok hW) hdc hdl pk op cp All (HP.out.below intR_ok hW) hpc hpl
  have hlen := greedyR_len 1048576 n es (forest es) d pk
  generalize greedyR 1048576 n es (forest es) d pk = R at *
  obtain ⟨a, l, er⟩ := R
  have y0 := HX4.out.cell 0
  have y1 := HX4.out.cell 1
  simp only [List.getElem?_cons_zero, List.getElem?_cons_succ] at y0 y1 hlen
  go_wp2_with fail
  refine HG.out.mono ?_
  rintro e w5 ⟨v5, rfl, ho5, hb5⟩
  have HB5 := hide (below_then HB4.out hb5)
  have HX5 := hide (HX4.out.below hb5)
  obtain ⟨o5, c5, hv5, hc5, hs5⟩ := OwnS.into ho5
  simp only at hv5 hc5 hs5
  subst hv5
  have HS5 := hide hs5
  clear ho5 hb5 hs5 y0 y1
  have y0 := HX5.out.cell 0
  have y1 := HX5.out.cell 1
  simp only [List.getElem?_cons_zero, List.getElem?_cons_succ] at y0 y1 ⊢
  go_wp2_with fail
  refine (HG2.out _ HB5.out).mono ?_
  rintro e w6 ⟨o6, c6, rfl, hc6, hs6, hb6⟩
  simp only at hc6 hs6
  have HB6 := hide (below_then HB5.out hb6)
  have HS56 := hide (HS5.out.below intR_ok hb6)
  have HS6 := hide hs6
  clear hs6 hb6
  have HSS : Hid (Calls Tryz.prog 15 #[.slice o5 l.length c5, .slice o6 l.length c6] w6 fun e w' => e = .returned (.bool true) ∧ Below w6.heap.size w6 w') := by
    have h5 := same_lit l l o5 o6 c5 c6 w6 hc5 (by omega) HS56.out HS6.out rfl rfl
    rw [decide_eq_true (rfl : l = l)] at h5
    exact h5
  simp only
  have qa : (a == a) = true := by simp
  have qe : (er == er) = true := by simp
  go_wp2_with fail
  refine HSS.out.mono ?_
  rintro e w7 ⟨rfl, hb7⟩
  have HB7 := hide (below_then HB6.out hb7)
  clear hb7
  go_wp2_with fail
  refine (HAW.out _).mono ?_
  rintro e w8 ⟨rfl, hb8⟩
  have HB8 := hide (below_then HB7.out hb8)
  clear hb8
  go_wp2_with fail
  go_ret
  exact ⟨by first | rfl | trivial, HB8.out⟩
end Go.Proofs.YtpgopmmobbemcaaGreat

set_option linter.unusedVariables false
namespace Go.Proofs.YtpgopmmobbemcaaGreat
open Go.RowKit Go.ChangeShapes Go.WideShapes Go.ChangeAt Go.Deep

set_option maxRecDepth 100000 in
theorem dollarBorrows_lifted (os : Os) (started : os.Started) (H : Type) (enc : TypeId × Value → H) :
    ReturnsInHanded {} Tryz.checked os 4 .any (Rows.dollarBorrowsSpec.pre6 enc Tryz.prog Tryz.f4 Rows.dollarBorrowsRow.domain false) (Rows.dollarBorrowsSpec.post enc Tryz.prog Tryz.f4 false true false false) := by
  refine returnsInHanded_of_change (C := Tryz.checked) own_knob started (by kernel_rfl) Tryz.func4
    (ChangeSpec.witness6 (enc := enc) (C := Tryz.checked) false ⟨#[], #[.agg #[.int .i64 0, .slice none 0 0], .slice none 0 0, .slice none 0 0], []⟩ 8 (by kernel_rfl) (by kernel_rfl) (by kernel_rfl) (by kernel_rfl)) ?_
  intro W base args ds gs before hval0 hW _ _
  have hval : ∀ (j : Nat) t v, Tryz.f4.params[j]? = some t → args[j]? = some v → Value.okWide Tryz.prog W .any base t v := hval0
  have hW' := hW
  obtain ⟨p, q, hA0, hV, rfl, _, _⟩ := hW
  have hA : DataW.TrodAll enc Tryz.prog W 0 (fun _ => true) true Tryz.f4.params.toList args.toList ds p := hA0
  rw [Tryz.params4] at hA hval
  obtain ⟨v0, v1, v2, d0, d1, d2, p0, p1, p2, rfl, rfl, rfl, h0, h1, h2⟩ := trodAll_three hA
  obtain ⟨rfl, rfl⟩ := trodVars_none hV
  have h0k := h0
  have h1k := h1
  have h2k := h2
  obtain ⟨n0, es0, oe0, c0, rfl, hc0, hl0, he0⟩ := open_graph (hval 0 24 v0 rfl rfl) h0
  obtain ⟨xs1, oa1, c1, rfl, hc1, hd1, hs1⟩ := open_div (hval 1 28 v1 rfl rfl) h1
  obtain ⟨xs2, oa2, c2, rfl, hc2, hd2, hs2⟩ := open_is (hval 2 25 v2 rfl rfl) h2
  clear hA0 hval0
  simp only [List.append_nil] at hW'
  have hlt0 : ∀ y ∈ p0, y.block < W.heap.size := fun y hy => by simpa using hW'.lt y (by simp [hy])
  have hlt1 : ∀ y ∈ p1, y.block < W.heap.size := fun y hy => by simpa using hW'.lt y (by simp [hy])
  have hlt2 : ∀ y ∈ p2, y.block < W.heap.size := fun y hy => by simpa using hW'.lt y (by simp [hy])
  refine (borrows_walk W n0 es0 oe0 c0 hc0 hl0 he0 xs1 oa1 c1 hc1 hd1 hs1 xs2 oa2 c2 hc2 hd2 hs2).mono fun e W' ⟨he, hn⟩ => ?_
  subst he
  exact ⟨_, rfl, _, _, _, [], _, [], hW', trodAll_mk1 (shut_bool Tryz.underlying4 true), trodAll_mk3 (Below.trod laid_out (by kernel_rfl) (of_decide_eq_true (by kernel_rfl)) h0k hn hlt0) (Below.trod laid_out (by kernel_rfl) (of_decide_eq_true (by kernel_rfl)) h1k hn hlt1) (Below.trod laid_out (by kernel_rfl) (of_decide_eq_true (by kernel_rfl)) h2k hn hlt2), rfl, hn.frame _, fun h => by cases h⟩

theorem dollarBorrows_holds : Rows.DollarBorrowsSaid :=
  OpenClaim.holds_of_wide 4 Tryz.f4 rfl rfl rfl rfl rfl rfl rfl ⟨rfl, rfl, rfl, rfl, rfl⟩ rfl rfl rfl rfl rfl (by kernel_rfl) Tryz.func4 (by kernel_rfl)
    (of_decide_eq_true (by kernel_rfl)) (by unfold Func.isWrapper; first | (rw [if_pos (by decide +kernel)]; kernel_rfl) | (rw [if_neg (by decide +kernel)]; exact ⟨rfl, rfl⟩))
    (fun os started H enc _ => dollarBorrows_lifted os started H enc)

#print axioms dollarBorrows_holds
end Go.Proofs.YtpgopmmobbemcaaGreat

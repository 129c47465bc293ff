/-
  The walk of RouteEarly.
-/
import Derived.Test.YtakiciemkecgfaaEarlyMath
import Derived.BigRegion
namespace Go.Proofs.Ytakiciemkecgfaa.Route
open Go.RowKit Go.Proofs Go.Proofs.Ytakiciemkecgfaa.AreaMath Go.Proofs.Ytakiciemkecgfaa.Area Go.Proofs.Ytakiciemkecgfaa.Load
set_option maxRecDepth 100000
set_option linter.unusedVariables false

set_option maxHeartbeats 4000000 in
theorem early_short (x : Wd) (q : Wp) (id early late : Int) (aS : Option Addr) (lS cS : Nat) (w : World) (h : largeB q lS = true ∨ (largeB q lS = false ∧ (early < 0 ∨ (0 ≤ early ∧ (late < 0 ∨ (0 ≤ late ∧ (1000000 < early ∨ (early ≤ 1000000 ∧ 1000000 < late)))))))) :
    Calls Try.prog 10 #[.agg (wcells x.n q), .agg #[.int .i64 id, .slice aS lS cS], .int .i64 early, .int .i64 late] w fun e w' => e = .returned (.bool true) ∧ Below w.heap.size w w' := by
  have HC := Lib.hid (fun w => large_any x.n q lS w)
  obtain ⟨L, hL⟩ : ∃ L, largeB q lS = L := ⟨_, rfl⟩
  rw [hL] at h HC
  clear hL
  have HB3 := Lib.hid (lbox_new w x.n q id (.slice aS lS cS))
  have HB : Hid (Below w.heap.size w ((w.alloc (.cells #[.int .i64 x.n, .slice q.aD q.lD q.cD, .slice q.aT q.lT q.cT, .slice q.aO q.lO q.cO, .slice q.aR q.lR q.cR] 40)).alloc (.cells #[.int .i64 id, .slice aS lS cS] 55))) := below_on (below_new _ _) (below_new _ _)
  unfold wcells at *
  rcases h with h | ⟨h0, h | ⟨h1, h | ⟨h2, h | ⟨h, h'⟩⟩⟩⟩
  all_goals
    try subst h
    try subst h0
    go_enter Try.func10, Try.ntmps10
    go_wp2_with fail
    refine (awake_route _).mono ?_; rintro _ w1 ⟨rfl, hw1⟩
    have H1 := Lib.hid (below_on HB.out hw1)
    have L1 := Lib.hid (HB3.out.on hw1)
    clear hw1
    obtain ⟨⟨b0, b1, b2, b3, b4⟩, s0, s1⟩ := L1.out
    go_wp2_with fail
    refine (HC.out _).mono ?_
    rintro _ w2 ⟨rfl, hw2⟩
    have H2 := Lib.hid (below_on H1.out hw2)
    clear hw2 b0 b1 b2 b3 b4 s0 s1
    go_wp2_with fail
    go_ret
    exact ⟨rfl, H2.out⟩

theorem small_len {w : World} {x : Wd} {q : Wp} (h : Lies w x q) {k : Int} (hl : largeB q k = false) : x.O.length ≤ 200 ∧ x.R.length ≤ 200 := by
  have := largeB_not hl
  exact ⟨by rw [h.lO]; omega, by rw [h.lR]; omega⟩
theorem zero_row {w : World} {base e size m : Nat} {a : Option Addr} {c : Nat} {xs : List Value} (h : w.ownsRow base e size (.slice a (0 + m) c) (0 + m) ((#[] : Array Value).toList ++ xs)) : w.ownsRow base e size (.slice a m c) m xs := by
  rw [Nat.zero_add] at h; exact h
set_option maxHeartbeats 8000000 in
theorem early_core (x : Wd) (q : Wp) (id early late : Int) (aS : Option Addr) (lS cS : Nat) (S : List Int) (w : World) (h : Lies w x q) (hn : Nums x) (hr : Rt w aS lS cS S) (hL : largeB q lS = false) (he : 0 ≤ early ∧ early ≤ 1000000) (hl : 0 ≤ late ∧ late ≤ 1000000) :
    Calls Try.prog 10 #[.agg (wcells x.n q), .agg #[.int .i64 id, .slice aS lS cS], .int .i64 early, .int .i64 late] w fun e w' => e = .returned (.bool true) ∧ Below w.heap.size w w' := by
  have hsm := small_of h hn hL
  have h100 : lS ≤ 100 := by have := largeB_not hL; omega
  have hR50 : q.lR ≤ 50 := by have := largeB_not hL; omega
  have HR1 := Lib.hid (run_to (id := id) h hsm hr (by omega))
  have HLAW : Hid (∀ tm, runR x id S = (tm, 0) → _) := fun tm ht => early_law (early := early) (late := late) ht he hl
  have HNON : Hid (∀ tm e, runR x id S = (tm, e) → e ≠ 0 → tm = noTrip) := fun tm e ht he => run_none ht he
  have HC : Hid (∀ w, Calls Try.prog 36 #[.agg (wcells x.n q), .int .i64 lS] w fun e w' => e = .returned (.bool false) ∧ Below w.heap.size w w') := fun w => by
    have := large_any x.n q lS w
    rw [hL] at this
    exact this
  have HTR : Hid (∀ w1, Below w.heap.size w w1 → Calls Try.prog 43 #[.agg (wcells x.n q), .int .i64 id] w1 fun e w' => e = .returned (.int .i64 (truckR x.R id)) ∧ Below w1.heap.size w1 w') := fun w1 hw1 => by
    refine (rtruck_any x q id w1 (h.below hw1) (by have := hsm.lR; omega)).mono ?_
    rintro _ w2 ⟨r, rfl, hf, hb⟩
    exact ⟨ret_i64 (hf.same (truckR_found x.R id)), hb⟩
  have HLI := Lib.hid h; have HLG := Lib.hid hL; have HNU := Lib.hid hn; have HRT := Lib.hid hr
  obtain ⟨r1, hr1⟩ : ∃ r, runR x id S = r := ⟨_, rfl⟩
  rw [hr1] at HR1 HLAW HNON
  clear hr1
  obtain ⟨⟨v1, k1, d1, g1⟩, e1⟩ := r1
  unfold RunTo at HR1
  dsimp only at HR1
  obtain ⟨n1, hn1⟩ : ∃ n, v1.length = n := ⟨_, rfl⟩
  rw [hn1] at HR1
  have HN1 := Lib.hid hn1
  have HB3 := Lib.hid (lbox_new w x.n q id (.slice aS lS cS))
  have HB0 : Hid (Below w.heap.size w ((w.alloc (.cells #[.int .i64 x.n, .slice q.aD q.lD q.cD, .slice q.aT q.lT q.cT, .slice q.aO q.lO q.cO, .slice q.aR q.lR q.cR] 40)).alloc (.cells #[.int .i64 id, .slice aS lS cS] 55))) := below_on (below_new _ _) (below_new _ _)
  clear h hn hr hL hn1 hsm
  unfold wcells at *
  have q1 : decide (early < 0) = false := decide_eq_false (by omega)
  have q2 : decide (late < 0) = false := decide_eq_false (by omega)
  have q3 : decide (1000000 < early) = false := decide_eq_false (by omega)
  have q4 : decide (1000000 < late) = false := decide_eq_false (by omega)
  have HE := Lib.hid he; have HLT := Lib.hid hl
  clear he hl
  go_enter Try.func10, Try.ntmps10
  go_wp2_with fail
  refine (awake_route _).mono ?_; rintro _ w1 ⟨rfl, hw1⟩
  have H1 := Lib.hid (below_on HB0.out hw1)
  have L1 := Lib.hid (HB3.out.on hw1)
  clear hw1 HB3 HB0
  obtain ⟨⟨b0, b1, b2, b3, b4⟩, s0, s1⟩ := L1.out
  go_wp2_with fail
  refine (HC.out _).mono ?_
  rintro _ w2 ⟨rfl, hw2⟩
  have H2 := Lib.hid (below_on H1.out hw2)
  have L2 := Lib.hid (L1.out.on hw2)
  clear hw2 b0 b1 b2 b3 b4 s0 s1
  obtain ⟨⟨b0, b1, b2, b3, b4⟩, s0, s1⟩ := L2.out
  go_wp2_with fail
  refine (HR1.out _ H2.out).mono ?_
  rintro _ w3 ⟨a1, c1, rfl, hv1, hw3, -⟩
  have H3 := Lib.hid (below_on H2.out hw3)
  have L3 := Lib.hid (L2.out.on hw3)
  have V1 := Lib.hid hv1
  clear hw3 b0 b1 b2 b3 b4 s0 s1 hv1
  have T4 := Lib.hid (tripBox_new w3 a1 n1 c1 k1 d1 g1)
  have H34 := Lib.hid (below_new w3 (.cells #[.slice a1 n1 c1, .int .i64 k1, .int .i64 d1, .int .i64 g1] 59))
  have L4 := Lib.hid (L3.out.on H34.out)
  obtain ⟨⟨b0, b1, b2, b3, b4⟩, s0, s1⟩ := L4.out
  go_wp2_with fail
  refine (HTR.out _ (below_on H3.out H34.out)).mono ?_
  rintro _ w5 ⟨rfl, hw5⟩
  have H45 := Lib.hid (below_on H34.out hw5)
  have L5 := Lib.hid (L4.out.on hw5)
  have T5 := Lib.hid (T4.out.on hw5)
  have V5 := Lib.hid (V1.out.below H45.out)
  have H5 := Lib.hid (below_on H3.out H45.out)
  clear hw5 b0 b1 b2 b3 b4 s0 s1 T4 H34 L4
  by_cases h1 : e1 = 0
  · subst h1
    obtain ⟨k, hkl, hkt, hto, hlen, um, hum, hul, hub, hud, huc, huv⟩ := HLAW.out _ rfl
    dsimp only at hlen hul hub hud huc huv
    have HKL := Lib.hid hkl; have HTO := Lib.hid hto; have HLEN := Lib.hid hlen; have HUM := Lib.hid hum; have HUL := Lib.hid hul; have HUB := Lib.hid hub; have HUD := Lib.hid hud; have HUC := Lib.hid huc; have HUV := Lib.hid huv
    rw [hkt]
    have hk2 : k < q.lR := by rw [← HLI.out.lR]; exact hkl
    clear hkl hkt hto hlen hum hul hub hud huc huv
    have hk0 : decide ((k : Int) < 0) = false := decide_eq_false (by omega)
    obtain ⟨rb, roff, hra, hrc⟩ := (HLI.out.below H5.out).R (by have := HKL.out; omega)
    obtain ⟨⟨b0, b1, b2, b3, b4⟩, s0, s1⟩ := L5.out
    rw [hra] at b4
    have HX := Lib.hid (FBox.new w5 x.n (.slice q.aD q.lD q.cD) (.slice q.aT q.lT q.cT) (.slice q.aO q.lO q.cO) (.slice (some ⟨rb, roff, none⟩) q.lR q.cR) 40)
    have HXB := Lib.hid (below_new w5 (.cells #[.int .i64 x.n, .slice q.aD q.lD q.cD, .slice q.aT q.lT q.cT, .slice q.aO q.lO q.cO, .slice (some ⟨rb, roff, none⟩) q.lR q.cR] 40))
    have HXS := Lib.hid (show Soft (w5.alloc (.cells #[.int .i64 x.n, .slice q.aD q.lD q.cD, .slice q.aT q.lT q.cT, .slice q.aO q.lO q.cO, .slice (some ⟨rb, roff, none⟩) q.lR q.cR] 40)) w5.heap.size from fun j => World.frozen?_alloc_new _ _ _ _)
    have HXL := Lib.hid (show (w5.alloc (.cells #[.int .i64 x.n, .slice q.aD q.lD q.cD, .slice q.aT q.lT q.cT, .slice q.aO q.lO q.cO, .slice (some ⟨rb, roff, none⟩) q.lR q.cR] 40)).heap.size = w5.heap.size + 1 from World.size_alloc _ _)
    have HRD := Lib.hid (show ReadsT w5 (some ⟨rb, roff, none⟩) x.R by rw [← hra]; exact (HLI.out.below H5.out).R)
    have x4a := cell_on HXB.out b4
    have x4b := cell_on (below_new _ (.cells #[] 42)) x4a
    obtain ⟨W5, hW5⟩ : ∃ W, w5.alloc (.cells #[.int .i64 x.n, .slice q.aD q.lD q.cD, .slice q.aT q.lT q.cT, .slice q.aO q.lO q.cO, .slice (some ⟨rb, roff, none⟩) q.lR q.cR] 40) = W := ⟨_, rfl⟩
    have EW5 := Lib.hid hW5
    have OWN := Lib.hid (World.ownsRow_lit (base := w5.heap.size + 1) (e := 42) (size := 7) W5 #[] 0 (by rw [← hW5, HXL.out]; exact Nat.le_refl _) (by unfold maxLen; omega) rfl)
    have HSZ := Lib.hid (show W5.heap.size = w5.heap.size + 1 by rw [← hW5]; exact HXL.out)
    have NEW := Lib.hid (newsT ((HRD.out.below HXB.out).below (below_new _ (.cells #[] 42))))
    have NLN := Lib.hid (show (cellsT x.R).length = q.lR * 7 by unfold cellsT; rw [flat_len (fun o : Trk => o.cells.toList) 7 (fun x => rfl), HLI.out.lR])
    have ONE := Lib.hid (cellsT_one x.R)
    rw [hW5] at NEW
    rw [HSZ.out] at OWN
    have HXW := Lib.hid (show FBox (W5.alloc (.cells #[] 42)) w5.heap.size x.n (.slice q.aD q.lD q.cD) (.slice q.aT q.lT q.cT) (.slice q.aO q.lO q.cO) (.slice (some ⟨rb, roff, none⟩) q.lR q.cR) by rw [← hW5]; exact HX.out.on (below_new _ _))
    have HBW := Lib.hid (show Below w5.heap.size w5 (W5.alloc (.cells #[] 42)) by rw [← hW5]; exact below_on HXB.out (below_new _ _))
    have HSW := Lib.hid (show Soft (W5.alloc (.cells #[] 42)) w5.heap.size by rw [← hW5]; exact HXS.out.on (by rw [HXL.out]; omega) (below_new _ _))
    have HBZ := Lib.hid (show w5.heap.size + 1 ≤ (W5.alloc (.cells #[] 42)).heap.size by rw [World.size_alloc, HSZ.out]; omega)
    have HSZ2 := Lib.hid (show (W5.alloc (.cells #[] 42)).heap.size = w5.heap.size + 1 + 1 by rw [World.size_alloc, HSZ.out])
    obtain ⟨i0, hi, hz0, hz1, hz2⟩ := info_parts info42
    have HI := Lib.hid hi; have HZ0 := Lib.hid hz0; have HZ1 := Lib.hid hz1; have HZ2 := Lib.hid hz2
    clear hi hz0 hz1 hz2 hW5 hrc
    go_wp2_with (at_builtin; rw [EW5.out]; refine Go.wpList_append_lies _ rfl _ _ 38 rfl (w5.heap.size + 1) 42 i0 _ 7 56 Try.underlying38 HI.out HZ0.out HZ1.out HZ2.out rfl (by decide) (.slice (some ⟨w5.heap.size + 1, 0, none⟩) 0 0) 0 _ (by rfl) OWN.out ⟨rb, roff, none⟩ q.lR q.cR (cellsT x.R) (by rfl) NLN.out NEW.out ONE.out (by omega) (by unfold maxLen; omega) (by omega) HBZ.out (w5.heap.size + 1 + 1) HSZ2.out ?_; intro g p1 w6 q1 q2 q3 q4; have q1 := zero_row q1; have n1x := ownR_ne OWN.out (show w5.heap.size < w5.heap.size + 1 by omega); have X6 := Lib.hid (HXW.out.far fun j x hx => grownR_cell q2 hx n1x); have x64 := X6.out.2.2.2.2; have xf6 : w6.frozen? ⟨w5.heap.size, 4, none⟩ = false := (q2.frozen_far _ (by show w5.heap.size < _; rw [HSZ2.out]; omega) n1x).trans (HSW.out 4); have Q1 := Lib.hid q1; have Q2 := Lib.hid q2;clear q1 q2 q3 q4 n1x)
    have XF6 := Lib.hid xf6
    clear x64 xf6 b0 b1 b2 b3 b4 s0 s1 x4a x4b
    have HGB := Lib.hid (Q1.out.lt g rfl)
    have R7 := Lib.hid (ownT_reads (ownsRow_setCell_below Q1.out (show w5.heap.size < w5.heap.size + 1 by omega) (a := ⟨w5.heap.size, 4, none⟩) (.slice (some ⟨g, 0, none⟩) q.lR p1)) HLI.out.lR)
    have X7 := Lib.hid (X6.out.set4 (.slice (some ⟨g, 0, none⟩) q.lR p1))
    have S7 := Lib.hid (show Soft (w6.setCell ⟨w5.heap.size, 4, none⟩ (.slice (some ⟨g, 0, none⟩) q.lR p1)) g from fun j => by rw [World.frozen?_setCell]; exact Q1.out.frozenAt j)
    have B7 := Lib.hid (show Below w5.heap.size w5 (w6.setCell ⟨w5.heap.size, 4, none⟩ (.slice (some ⟨g, 0, none⟩) q.lR p1)) from (HBW.out.grown Q2.out HBW.out.size (fun j hj => by have := (OWN.out.lt j hj).1; omega)).setCell (Nat.le_refl _) _)
    obtain ⟨w7, hw7⟩ : ∃ W, w6.setCell ⟨w5.heap.size, 4, none⟩ (.slice (some ⟨g, 0, none⟩) q.lR p1) = W := ⟨_, rfl⟩
    rw [hw7] at R7 X7 S7 B7 ⊢
    clear hw7
    obtain ⟨_, _, hg, hgc⟩ := R7.out (by have := HKL.out; omega)
    cases hg
    have c3 : w7.cell? ⟨g, 0 + k * 7 + 3, none⟩ = some (.int .i64 (trkAt x.R k).start) := hgc k HKL.out 3 _ rfl
    have c4 : w7.cell? ⟨g, 0 + k * 7 + 4, none⟩ = some (.int .i64 (trkAt x.R k).stop) := hgc k HKL.out 4 _ rfl
    rw [Nat.zero_add] at c3 c4
    clear hgc
    obtain ⟨tr, htr⟩ : ∃ t, trkAt x.R k = t := ⟨_, rfl⟩
    rw [htr] at c3 c4 HTO
    have HTRK := Lib.hid htr
    clear htr
    have y4 := X7.out.2.2.2.2
    have f3 := S7.out (k * 7 + 3)
    have f4 := S7.out (k * 7 + 4)
    have hb1 := HTO.out.1
    have hb2 := HE.out
    have hb3 := HLT.out
    have w1r : IntKind.i64.wrap (tr.start - early) = tr.start - early := IntWalk.i64_in _ (by omega)
    have w2r : IntKind.i64.wrap (tr.stop + late) = tr.stop + late := IntWalk.i64_in _ (by omega)
    go_region
    obtain ⟨sv, hsv⟩ : ∃ s, (if tr.start - early < 0 then 0 else tr.start - early) = s := ⟨_, rfl⟩
    rw [hsv]
    have HSV := Lib.hid (show max (tr.start - early) 0 = sv by rw [← hsv]; split <;> omega)
    clear hsv
    have hgX : g ≠ w5.heap.size := by have := HGB.out.1; omega
    have d4 : (w7.setCell ⟨g, k * 7 + 3, none⟩ (.int .i64 sv)).drew.cell? ⟨g, k * 7 + 4, none⟩ = some (.int .i64 tr.stop) := cell_set_other c4 (by omega)
    have d5 : (w7.setCell ⟨g, k * 7 + 3, none⟩ (.int .i64 sv)).drew.cell? ⟨w5.heap.size, 4, none⟩ = some (.slice (some ⟨g, 0, none⟩) q.lR p1) := setR_far hgX y4
    have d6 : (w7.setCell ⟨g, k * 7 + 3, none⟩ (.int .i64 sv)).drew.frozen? ⟨g, k * 7 + 4, none⟩ = false := by
      show (w7.setCell ⟨g, k * 7 + 3, none⟩ (.int .i64 sv)).frozen? _ = false
      rw [World.frozen?_setCell]; exact f4
    obtain ⟨w8, hw8⟩ : ∃ W, (w7.setCell ⟨g, k * 7 + 3, none⟩ (.int .i64 sv)).drew = W := ⟨_, rfl⟩
    rw [hw8] at d4 d5 d6 ⊢
    have EW8 := Lib.hid hw8
    clear hw8 c3 c4 y4 f3 f4
    go_wp2_with fail
    go_region
    obtain ⟨ev, hev⟩ : ∃ s, (if 1000000 < tr.stop + late then 1000000 else tr.stop + late) = s := ⟨_, rfl⟩
    rw [hev]
    have HEV := Lib.hid (show min (tr.stop + late) 1000000 = ev by rw [← hev]; split <;> omega)
    clear hev d4 d5 d6 w1r w2r
    have hRS := readsT_set R7.out HKL.out sv ev
    have hTE : (⟨(trkAt x.R k).id, (trkAt x.R k).weight, (trkAt x.R k).volume, sv, ev, (trkAt x.R k).fixed, (trkAt x.R k).rate⟩ : Trk) = trkEL (trkAt x.R k) early late := by
      unfold trkEL
      rw [HTRK.out, HSV.out, HEV.out]
    rw [hTE] at hRS
    have hBS : Below w5.heap.size w5 ((w7.setCell ⟨g, k * 7 + 3, none⟩ (.int .i64 sv)).setCell ⟨g, k * 7 + 4, none⟩ (.int .i64 ev)) := (B7.out.setCell (by show w5.heap.size ≤ g; have := HGB.out.1; omega) _).setCell (by show w5.heap.size ≤ g; have := HGB.out.1; omega) _
    have hXS : FBox ((w7.setCell ⟨g, k * 7 + 3, none⟩ (.int .i64 sv)).setCell ⟨g, k * 7 + 4, none⟩ (.int .i64 ev)) w5.heap.size x.n (.slice q.aD q.lD q.cD) (.slice q.aT q.lT q.cT) (.slice q.aO q.lO q.cO) (.slice (some ⟨g, 0, none⟩) q.lR p1) := X7.out.far fun _ _ hx => setR_far hgX (setR_far hgX hx)
    obtain ⟨w9, hw9⟩ : ∃ W, (w8.setCell ⟨g, k * 7 + 4, none⟩ (.int .i64 ev)).drew = W := ⟨_, rfl⟩
    have hh : ∀ W, ((w7.setCell ⟨g, k * 7 + 3, none⟩ (.int .i64 sv)).setCell ⟨g, k * 7 + 4, none⟩ (.int .i64 ev)).drew.drew = W → (ReadsT W (some ⟨g, 0, none⟩) (x.R.set k (trkEL (trkAt x.R k) early late)) ∧ Below w5.heap.size w5 W ∧ FBox W w5.heap.size x.n (.slice q.aD q.lD q.cD) (.slice q.aT q.lT q.cT) (.slice q.aO q.lO q.cO) (.slice (some ⟨g, 0, none⟩) q.lR p1)) := fun W e => by
      subst e; exact ⟨hRS, hBS.drew.drew, hXS⟩
    have h99 := hh w9 (by rw [← hw9, ← EW8.out]; rfl)
    have R9 := Lib.hid h99.1
    have B9 := Lib.hid h99.2.1
    have X9 := Lib.hid h99.2.2
    rw [hw9]
    clear hw9 hRS hBS hXS hh h99 hTE
    have L9 := Lib.hid (L5.out.on B9.out)
    have T9 := Lib.hid (T5.out.on B9.out)
    have V9 := Lib.hid (V5.out.below B9.out)
    have H9 := Lib.hid (below_on H5.out B9.out)
    have LI9 := Lib.hid (show Lies w9 (wdEL x k early late) ⟨q.aD, q.lD, q.cD, q.aT, q.lT, q.cT, q.aO, q.lO, q.cO, some ⟨g, 0, none⟩, q.lR, p1⟩ from
      ⟨HLI.out.lD, HLI.out.lT, HLI.out.lO, by unfold wdEL; dsimp only; rw [List.length_set]; exact HLI.out.lR, (HLI.out.below H9.out).D, (HLI.out.below H9.out).T, (HLI.out.below H9.out).O, R9.out⟩)
    have hsv1 := HSV.out
    have hev1 := HEV.out
    have SM9 := Lib.hid (show Small (wdEL x k early late) from ⟨by have := small_len HLI.out HLG.out; exact this.1, by unfold wdEL; dsimp only; rw [List.length_set]; exact (small_len HLI.out HLG.out).2, HNU.out.1, fun t ht => by
      rcases List.mem_or_eq_of_mem_set ht with h1 | h1
      · exact HNU.out.2 t h1
      · have hwf := HNU.out.2 (trkAt x.R k) (by rw [trkAt_get _ _ HKL.out]; exact List.getElem_mem _)
        rw [h1]
        obtain ⟨a1, a2, a3, a4, a5, a6, a7⟩ := hwf
        have hq1 : max ((trkAt x.R k).start - early) 0 = sv := by rw [HTRK.out]; exact hsv1
        have hq2 : min ((trkAt x.R k).stop + late) 1000000 = ev := by rw [HTRK.out]; exact hev1
        refine ⟨a1, a2, a3, ?_, ?_, a6, a7⟩
        · show NumWf (max ((trkAt x.R k).start - early) 0)
          rw [hq1]; exact ⟨by omega, by omega⟩
        · show NumWf (min ((trkAt x.R k).stop + late) 1000000)
          rw [hq2]; exact ⟨by omega, by omega⟩⟩)
    have HR9 := Lib.hid (run_to (id := id) LI9.out SM9.out (⟨HRT.out.len, HRT.out.rd.below H9.out, HRT.out.cap, HRT.out.wf⟩ : Rt w9 aS lS cS S) (by omega))
    rw [HUM.out] at HR9
    unfold RunTo wcells at HR9
    dsimp only at HR9
    have hnx : (wdEL x k early late).n = x.n := rfl
    rw [hnx] at HR9
    obtain ⟨v2, k2, d2, g2⟩ := um
    have hul := HUL.out
    have hub := HUB.out
    have hud := HUD.out
    have huc := HUC.out
    dsimp only at hul hub hud huc HR9
    rw [hul, HN1.out] at HR9
    have HV2 := Lib.hid (hul.trans HN1.out)
    subst hud
    subst huc
    have hbk : decide (k1 < k2) = false := decide_eq_false (by omega)
    clear hul hub hnx hsv1 hev1
    obtain ⟨x0, x1, x2, x3, x4⟩ := X9.out
    obtain ⟨s0, s1⟩ := L9.out.2
    go_wp2_with fail
    refine (HR9.out _ (Below.refl _ _)).mono ?_
    rintro _ w10 ⟨a2, c2, rfl, hv2, hw10, -⟩
    have VV := Lib.hid hv2
    have H910 := Lib.hid hw10
    clear x0 x1 x2 x3 x4 s0 s1 hv2 hw10
    have T2 := Lib.hid (tripBox_new w10 a2 n1 c2 k2 d2 g2)
    have HNW := Lib.hid (below_new w10 (.cells #[.slice a2 n1 c2, .int .i64 k2, .int .i64 d2, .int .i64 g2] 59))
    have T1 := Lib.hid ((T9.out.on H910.out).on HNW.out)
    have VA := Lib.hid ((V9.out.below H910.out).below HNW.out)
    have VB := Lib.hid (VV.out.below HNW.out)
    have HB6 := Lib.hid (below_on (below_on H9.out H910.out) HNW.out)
    obtain ⟨t0, t1, t2, t3⟩ := T1.out
    obtain ⟨r0, r1, r2, r3⟩ := T2.out
    go_wp2_with fail
    clear t0 t1 t2 t3 r0 r1 r2 r3
    obtain ⟨W6, hW6⟩ : ∃ W, w10.alloc (.cells #[.slice a2 n1 c2, .int .i64 k2, .int .i64 d2, .int .i64 g2] 59) = W := ⟨_, rfl⟩
    rw [hW6] at T1 T2 VA VB HB6 ⊢
    clear hW6
    have HBR := Lib.hid (Below.refl W6.heap.size W6)
    have hn1b : n1 ≤ 100 := by rw [← HN1.out, HLEN.out, HRT.out.len]; exact h100
    go_loopw [140] (fun i wr => ∃ j : Nat, j ≤ n1 ∧ i = .int .i64 j ∧ Below W6.heap.size W6 wr) (fun i wr => n1 - (intOf i).toNat)
    case atStart => exact ⟨0, by omega, rfl, HBR.out⟩
    case round =>
      obtain ⟨j, hj, rfl, hb⟩ := hrel
      have HBJ := Lib.hid hb; clear hb
      by_cases hlt : j < n1
      · obtain ⟨b2, o2, ha2, hc2⟩ := (VB.out.below HBJ.out) (by rw [HV2.out]; omega)
        obtain ⟨e0, e1, e2, e3⟩ := visCells_at (hc2 j (by rw [HV2.out]; exact hlt))
        obtain ⟨b1, o1, ha1, hc1⟩ := (VA.out.below HBJ.out) (by rw [HN1.out]; omega)
        obtain ⟨f0, f1, f2, f3⟩ := visCells_at (hc1 j (by rw [HN1.out]; omega))
        obtain ⟨hA, hB, hC⟩ := HUV.out j (by rw [HN1.out]; exact hlt)
        obtain ⟨u, hu⟩ : ∃ v, visAt v2 j = v := ⟨_, rfl⟩
        obtain ⟨v, hv⟩ : ∃ v, visAt v1 j = v := ⟨_, rfl⟩
        rw [hu] at e0 e1 e2 e3 hA hB hC
        rw [hv] at f0 f1 f2 f3 hA hB hC
        have dA : decide (v.arrive < u.arrive) = false := decide_eq_false (by omega)
        have dB : decide (v.start < u.start) = false := decide_eq_false (by omega)
        have dC : decide (v.leave < u.leave) = false := decide_eq_false (by omega)
        obtain ⟨r0, r1, r2, r3⟩ := T1.out.on HBJ.out
        subst ha1
        subst ha2
        have HNV := Lib.hid (below_new wr (.cells #[.int .i64 u.order, .int .i64 u.arrive, .int .i64 u.start, .int .i64 u.leave] 72))
        have g0 := cell_on HNV.out r0
        have i1 := cell_on HNV.out f1; have i2 := cell_on HNV.out f2; have i3 := cell_on HNV.out f3
        have m1 := box_cell wr #[.int .i64 u.order, .int .i64 u.arrive, .int .i64 u.start, .int .i64 u.leave] 72 1 _ rfl
        have m2 := box_cell wr #[.int .i64 u.order, .int .i64 u.arrive, .int .i64 u.start, .int .i64 u.leave] 72 2 _ rfl
        have m3 := box_cell wr #[.int .i64 u.order, .int .i64 u.arrive, .int .i64 u.start, .int .i64 u.leave] 72 3 _ rfl
        clear hc1 hc2 hv hu r0 r1 r2 r3 f0 f1 f2 f3 hA hB hC
        go_wp2_with fail
        go_region_held_law (fun w' => (w'.cell? ⟨wr.heap.size, 1, none⟩ = some (.int .i64 u.arrive) ∧ w'.cell? ⟨wr.heap.size, 2, none⟩ = some (.int .i64 u.start) ∧ w'.cell? ⟨wr.heap.size, 3, none⟩ = some (.int .i64 u.leave)) ∧ w'.cell? ⟨w3.heap.size, 0, none⟩ = some (.slice (some ⟨b1, o1, none⟩) n1 c1) ∧ (w'.cell? ⟨b1, o1 + j * 4 + 1, none⟩ = some (.int .i64 v.arrive) ∧ w'.cell? ⟨b1, o1 + j * 4 + 2, none⟩ = some (.int .i64 v.start) ∧ w'.cell? ⟨b1, o1 + j * 4 + 3, none⟩ = some (.int .i64 v.leave)))
          (first | exact ⟨⟨m1, m2, m3⟩, g0, ⟨i1, i2, i3⟩⟩ | go_keep)
          (first | fail)
        go_wp2_with fail
        go_roundw
        case rel => exact ⟨j + 1, by omega, by go_num, (below_on HBJ.out HNV.out).drew⟩
        case measure => simp [intOf]; omega
      · obtain rfl : j = n1 := by omega
        go_wp2_with fail
        go_ret
        exact ⟨rfl, below_on HB6.out HBJ.out⟩
  · have hnt := HNON.out _ _ rfl h1
    have h0 : n1 = 0 := by
      rw [← HN1.out]
      have := congrArg TripM.vs hnt
      dsimp only [noTrip] at this
      rw [this]; rfl
    have hg : g1 = 0 := congrArg TripM.cost hnt
    subst h0
    subst hg
    have hb : (e1 != 0) = true := bne_iff_ne.2 h1
    obtain ⟨t0, t1, t2, t3⟩ := T5.out
    clear h1 hnt
    go_wp2_with fail
    go_ret
    exact ⟨rfl, H5.out⟩

theorem early_any (x : Wd) (q : Wp) (id early late : Int) (aS : Option Addr) (lS cS : Nat) (S : List Int) (w : World) (h : Lies w x q) (hn : Nums x) (hr : Rt w aS lS cS S) :
    Calls Try.prog 10 #[.agg (wcells x.n q), .agg #[.int .i64 id, .slice aS lS cS], .int .i64 early, .int .i64 late] w fun e w' => e = .returned (.bool true) ∧ Below w.heap.size w w' := by
  cases hL : largeB q lS with
  | true => exact early_short x q id early late aS lS cS w (.inl hL)
  | false =>
    by_cases h1 : early < 0
    · exact early_short x q id early late aS lS cS w (.inr ⟨hL, .inl h1⟩)
    by_cases h2 : late < 0
    · exact early_short x q id early late aS lS cS w (.inr ⟨hL, .inr ⟨by omega, .inl h2⟩⟩)
    by_cases h3 : 1000000 < early
    · exact early_short x q id early late aS lS cS w (.inr ⟨hL, .inr ⟨by omega, .inr ⟨by omega, .inl h3⟩⟩⟩)
    by_cases h4 : 1000000 < late
    · exact early_short x q id early late aS lS cS w (.inr ⟨hL, .inr ⟨by omega, .inr ⟨by omega, .inr ⟨by omega, h4⟩⟩⟩⟩)
    exact early_core x q id early late aS lS cS S w h hn hr hL (by omega) (by omega)
end Go.Proofs.Ytakiciemkecgfaa.Route

/-
  The law AreaTells: the area's layer answers as the reference does.
-/
import Derived.Test.YtakiciemkecgfaaRefNear
import Derived.Deep.RegionHeldLaw
namespace Go.Proofs.Ytakiciemkecgfaa.Area
open Go.RowKit Go.Proofs Go.Proofs.Ytakiciemkecgfaa.AreaMath
set_option maxRecDepth 100000
set_option linter.unusedVariables false

set_option maxHeartbeats 2000000 in
theorem tells_short (n x y : Int) (aD aT aL : Option Addr) (lD lT lL cD cT cL : Nat) (w : World) (h : 200 < lL ∨ (lL ≤ 200 ∧ (400 < lD ∨ (lD ≤ 400 ∧ 400 < lT)))) :
    Calls Try.prog 3 #[.agg #[.int .i64 n, .slice aD lD cD, .slice aT lT cT], .int .i64 x, .int .i64 y, .slice aL lL cL] w fun e w' => e = .returned (.bool true) ∧ Below w.heap.size w w' := by
  have HB : Hid (Below w.heap.size w (w.alloc (.cells #[.int .i64 n, .slice aD lD cD, .slice aT lT cT] 24))) := (Below.refl _ _).alloc (Nat.le_refl _) _
  rcases h with h | ⟨h1, h | ⟨h2, h⟩⟩
  all_goals
    go_enter Try.func3, Try.ntmps3
    go_wp2_with fail
    refine (awake_any _).mono ?_; rintro _ w1 ⟨rfl, hw1⟩
    have hB3 : Below (w.heap.size + 1) (w.alloc (.cells #[.int .i64 n, .slice aD lD cD, .slice aT lT cT] 24)) w1 := hw1.mono (by simp)
    have hbox1 := box_on (k := 1) rfl hB3
    have hbox2 := box_on (k := 2) rfl hB3
    have HBW := Lib.hid (below_on HB.out hw1)
    clear hB3 hw1
    go_wp2_with fail
    go_ret
    exact ⟨rfl, HBW.out⟩

set_option maxHeartbeats 4000000 in
theorem tells_law (n x y : Int) (aD aT aL : Option Addr) (D T L : List Int) (lD lT lL cD cT cL : Nat) (w : World) (lD1 : D.length = lD) (lT1 : T.length = lT) (lL1 : L.length = lL) (hD : ReadsI w aD D) (hT : ReadsI w aT T) (hL : ReadsI w aL L) (hm : lL ≤ 200) (hm1 : lD ≤ 400) (hm2 : lT ≤ 400) :
    Calls Try.prog 3 #[.agg #[.int .i64 n, .slice aD lD cD, .slice aT lT cT], .int .i64 x, .int .i64 y, .slice aL lL cL] w fun e w' => e = .returned (.bool true) ∧ Below w.heap.size w w' := by
  have HB : Hid (Below w.heap.size w (w.alloc (.cells #[.int .i64 n, .slice aD lD cD, .slice aT lT cT] 24))) := (Below.refl _ _).alloc (Nat.le_refl _) _
  have HX : Hid (BoxS w.heap.size n (.slice aD lD cD) (.slice aT lT cT) (w.alloc (.cells #[.int .i64 n, .slice aD lD cD, .slice aT lT cT] 24))) := ⟨box_cell w _ _ 0 _ rfl, box_cell w _ _ 1 _ rfl, box_cell w _ _ 2 _ rfl⟩
  have HD := Lib.hid (hD.below HB.out); have HT := Lib.hid (hT.below HB.out); have HL := Lib.hid (hL.below HB.out)
  have LD := Lib.hid lD1; have LT := Lib.hid lT1; have LL := Lib.hid lL1
  clear hD hT hL lD1 lT1 lL1
  go_enter Try.func3, Try.ntmps3
  go_wp2_with fail
  obtain ⟨W, hW⟩ : ∃ W, w.alloc (.cells #[.int .i64 n, .slice aD lD cD, .slice aT lT cT] 24) = W := ⟨_, rfl⟩
  rw [hW] at HB HX HD HT HL ⊢
  clear hW
  refine (awake_any _).mono ?_; rintro _ w1 ⟨rfl, hw1⟩
  obtain ⟨b0, b1, b2⟩ := HX.out.on hw1
  have H1 := Lib.hid hw1
  clear hw1
  go_wp2_with fail
  refine (leg_any n x y aD aT D T lD lT cD cT w1 LD.out LT.out (HD.out.below H1.out) (HT.out.below H1.out)).mono ?_
  rintro _ w2 ⟨rfl, hw2⟩
  have H2 := Lib.hid (below_on H1.out hw2)
  clear b0 b1 b2 hw2 H1
  obtain ⟨b0, b1, b2⟩ := HX.out.on H2.out
  go_wp2_with fail
  refine (rleg_any n x y aD aT D T lD lT cD cT w2 LD.out LT.out (HD.out.below H2.out) (HT.out.below H2.out)).mono ?_
  rintro _ w3 ⟨rfl, hw3⟩
  have H3 := Lib.hid (below_on H2.out hw3)
  clear b0 b1 b2 hw3 H2
  obtain ⟨b0, b1, b2⟩ := HX.out.on H3.out
  obtain ⟨p1, hp1⟩ : ∃ p, legV n D T D x y = p := ⟨_, rfl⟩
  obtain ⟨p2, hp2⟩ : ∃ p, legV n D T T x y = p := ⟨_, rfl⟩
  obtain ⟨p3, hp3⟩ : ∃ p, legE n D T x y = p := ⟨_, rfl⟩
  rw [hp1, hp2, hp3]
  clear hp1 hp2 hp3
  go_wp2_with fail
  refine (tour_any n aD aT aL D T L lD lT lL cD cT cL w3 LD.out LT.out LL.out (HD.out.below H3.out) (HT.out.below H3.out) (HL.out.below H3.out) (by omega)).mono ?_
  rintro _ w4 ⟨rfl, hw4⟩
  have H4 := Lib.hid (below_on H3.out hw4)
  clear b0 b1 b2 hw4 H3
  obtain ⟨b0, b1, b2⟩ := HX.out.on H4.out
  go_wp2_with fail
  refine (rtour_any n aD aT aL D T L lD lT lL cD cT cL w4 LD.out LT.out LL.out (HD.out.below H4.out) (HT.out.below H4.out) (HL.out.below H4.out) (by omega)).mono ?_
  rintro _ w5 ⟨rfl, hw5⟩
  have H5 := Lib.hid (below_on H4.out hw5)
  clear b0 b1 b2 hw5 H4
  obtain ⟨b0, b1, b2⟩ := HX.out.on H5.out
  obtain ⟨q1, hq1⟩ : ∃ p, tourV n D T L D = p := ⟨_, rfl⟩
  obtain ⟨q2, hq2⟩ : ∃ p, tourV n D T L T = p := ⟨_, rfl⟩
  obtain ⟨q3, hq3⟩ : ∃ p, tourE n D T L = p := ⟨_, rfl⟩
  rw [hq1, hq2, hq3]
  clear hq1 hq2 hq3
  go_wp2_with fail
  refine (near_any n y aD aT aL D T L lD lT lL cD cT cL w5 LD.out LT.out LL.out (HD.out.below H5.out) (HT.out.below H5.out) (HL.out.below H5.out) (by omega)).mono ?_
  rintro _ w6 ⟨rfl, hw6⟩
  have H6 := Lib.hid (below_on H5.out hw6)
  clear b0 b1 b2 hw6 H5
  obtain ⟨b0, b1, b2⟩ := HX.out.on H6.out
  go_wp2_with fail
  refine (rnear_any n y aD aT aL D T L lD lT lL cD cT cL w6 LD.out LT.out LL.out (HD.out.below H6.out) (HT.out.below H6.out) (HL.out.below H6.out) (by omega)).mono ?_
  rintro _ w7 ⟨rfl, hw7⟩
  have H7 := Lib.hid (below_on H6.out hw7)
  clear b0 b1 b2 hw7 H6
  obtain ⟨b0, b1, b2⟩ := HX.out.on H7.out
  obtain ⟨r1, hr1⟩ : ∃ p, nearV n D T L y = p := ⟨_, rfl⟩
  obtain ⟨r2, hr2⟩ : ∃ p, nearE n D T L y = p := ⟨_, rfl⟩
  rw [hr1, hr2]
  clear hr1 hr2
  have C20 := Lib.hid (show ∀ wr, Below W.heap.size W wr → Calls Try.prog 20 #[.agg #[.int .i64 n, .slice aD lD cD, .slice aT lT cT]] wr fun e w' => e = .returned (.int .i64 (errC n D T)) ∧ Below W.heap.size W w' from fun wr hb =>
    (check_any n aD aT D T lD lT cD cT wr LD.out LT.out (HD.out.below hb) (HT.out.below hb)).mono fun e w' ⟨he, hw⟩ => ⟨he, below_on hb hw⟩)
  have C21 := Lib.hid (show ∀ wr, Below W.heap.size W wr → Calls Try.prog 21 #[.agg #[.int .i64 n, .slice aD lD cD, .slice aT lT cT]] wr fun e w' => e = .returned (.int .i64 (errC n D T)) ∧ Below W.heap.size W w' from fun wr hb =>
    (rcheck_any n aD aT D T lD lT cD cT wr LD.out LT.out (HD.out.below hb) (HT.out.below hb)).mono fun e w' ⟨he, hw⟩ => ⟨he, below_on hb hw⟩)
  obtain ⟨e0, he0⟩ : ∃ p, errC n D T = p := ⟨_, rfl⟩
  rw [he0] at C20 C21
  clear he0
  go_wp2_with fail
  go_region_held_law (fun w' => w'.cell? ⟨w.heap.size, 0, none⟩ = some (.int .i64 n) ∧ w'.cell? ⟨w.heap.size, 1, none⟩ = some (.slice aD lD cD) ∧ w'.cell? ⟨w.heap.size, 2, none⟩ = some (.slice aT lT cT))
    (first | exact ⟨b0, b1, b2⟩ | exact HX.out.on h8)
    (first
      | (go_at_call 20; refine (C20.out _ ?_).mono ?_; (first | assumption | exact H7.out.drew); rintro _ w8 ⟨rfl, h8⟩)
      | (go_at_call 21; refine (C21.out _ ?_).mono ?_; (first | assumption | exact H7.out.drew); rintro _ w8 ⟨rfl, h8⟩))
  all_goals
    go_wp2_with fail
    go_ret
    exact ⟨rfl, below_on HB.out h8⟩
end Go.Proofs.Ytakiciemkecgfaa.Area

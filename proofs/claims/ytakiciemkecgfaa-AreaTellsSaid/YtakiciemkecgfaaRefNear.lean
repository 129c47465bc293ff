/-
  The walk of the reference's Near for areas.
-/
import Derived.Test.YtakiciemkecgfaaRefTour
namespace Go.Proofs.Ytakiciemkecgfaa.Area
open Go.RowKit Go.Proofs Go.Proofs.Ytakiciemkecgfaa.AreaMath Go.Proofs.Ytakiciemkecgfaa.Append
set_option maxRecDepth 100000
set_option linter.unusedVariables false

/-- what the reference holds for least -/
def nr (u : Int) : Int := if 1000000 < u then -1 else u
theorem near_nonneg {n : Int} {D : List Int} (h : listB n D = true) (hl : (D.length : Int) = n * n) {y b : Int} (hy : nodeB n y = true) (hb : 0 ≤ b) {l : List Int} (hn : nodesB n l = true) : 0 ≤ near n D y b l := by
  induction l generalizing b with
  | nil => exact hb
  | cons x l ih =>
    simp only [nodesB, List.all_cons, Bool.and_eq_true] at hn
    simp only [near]
    have := leg_range h hl hn.1 hy
    refine ih ?_ hn.2
    split
    · exact hb
    · omega
theorem rnear_four {n y : Int} {D T L : List Int} : nearE n D T L y = if errC n D T = 0 then (if nodesB n L = true then (if nodesB n [y] = true then (if 100 < L.length then 4 else if 1000000 < near n D y 1000001 L then 2 else 0) else 5) else 5) else 1 := by
  unfold nearE allE errC
  have e : nodesB n (y :: L) = (nodesB n [y] && nodesB n L) := by simp [nodesB]
  rw [e]
  cases validB n D T <;> cases nodesB n [y] <;> cases nodesB n L <;> simp

set_option maxHeartbeats 2000000 in
theorem rnear_short (n y : Int) (aD aT aL : Option Addr) (D T L : List Int) (lD lT lL cD cT cL : Nat) (w : World) (lD1 : D.length = lD) (lT1 : T.length = lT) (lL1 : L.length = lL) (hD : ReadsI w aD D) (hT : ReadsI w aT T) (hL : ReadsI w aL L) (hm : lL ≤ 9223372036854775807) (hno : ¬ (errC n D T = 0 ∧ nodesB n L = true ∧ nodesB n [y] = true ∧ L.length ≤ 100)) :
    Calls Try.prog 19 #[.agg #[.int .i64 n, .slice aD lD cD, .slice aT lT cT], .int .i64 y, .slice aL lL cL] w fun e w' => e = .returned (.tuple #[.int .i64 (nearV n D T L y), .int .i64 (nearE n D T L y)]) ∧ Below w.heap.size w w' := by
  have HB : Hid (Below w.heap.size w (w.alloc (.cells #[.int .i64 n, .slice aD lD cD, .slice aT lT cT] 24))) := (Below.refl _ _).alloc (Nat.le_refl _) _
  have HX : Hid (BoxS w.heap.size n (.slice aD lD cD) (.slice aT lT cT) (w.alloc (.cells #[.int .i64 n, .slice aD lD cD, .slice aT lT cT] 24))) := ⟨box_cell w _ _ 0 _ rfl, box_cell w _ _ 1 _ rfl, box_cell w _ _ 2 _ rfl⟩
  have HC := Lib.hid (rcheck_any n aD aT D T lD lT cD cT _ lD1 lT1 (hD.below HB.out) (hT.below HB.out))
  have HL := Lib.hid hL; have LL := Lib.hid lL1
  have hne : nearE n D T L y ≠ 0 := by
    intro h0
    rw [rnear_four] at h0
    by_cases c1 : errC n D T = 0
    · rw [if_pos c1] at h0
      by_cases c2 : nodesB n L = true
      · rw [if_pos c2] at h0
        by_cases c3 : nodesB n [y] = true
        · rw [if_pos c3] at h0
          by_cases c4 : 100 < L.length
          · rw [if_pos c4] at h0; cases h0
          · exact hno ⟨c1, c2, c3, by omega⟩
        · rw [if_neg c3] at h0; cases h0
      · rw [if_neg c2] at h0; cases h0
    · rw [if_neg c1] at h0; cases h0
  have F1 := Lib.hid (show (0 : Int) = nearV n D T L y by unfold nearV; rw [if_neg hne])
  have E := Lib.hid (rnear_four (n := n) (y := y) (D := D) (T := T) (L := L))
  clear hD hT hL lD1 lT1 lL1 hne
  by_cases hc : errC n D T = 0
  · rw [hc] at HC
    rw [if_pos hc] at E
    go_enter Try.func19, Try.ntmps19
    go_wp2_with fail
    refine HC.out.mono ?_; rintro _ w1 ⟨rfl, hw1⟩
    obtain ⟨b0, b1, b2⟩ := HX.out.on hw1
    have HB1 := Lib.hid (below_on HB.out hw1)
    have HX1 := Lib.hid (HX.out.on hw1)
    clear hw1 HC
    go_wp2_with fail
    refine (in_any n aD aT aL L lD lT lL cD cT cL _ LL.out (HL.out.below HB1.out) hm).mono ?_
    rintro _ w2 ⟨rfl, hw2⟩
    have HB2 := Lib.hid (below_on HB1.out hw2)
    clear b0 b1 b2
    obtain ⟨b0, b1, b2⟩ := HX1.out.on hw2
    clear hw2
    by_cases hn : nodesB n L = true
    · rw [if_pos hn] at E
      rw [hn]
      go_wp2_with fail
      refine (in_any n aD aT _ [y] lD lT 1 cD cT 1 _ rfl (reads_lit w2 #[.int .i64 y] [y] 3 rfl) (by omega)).mono ?_
      rintro _ w3 ⟨rfl, hw3⟩
      have HB3 := Lib.hid (below_on (HB2.out.alloc HB2.out.size (.cells #[.int .i64 y] 3)) hw3)
      clear hw3 b0 b1 b2
      by_cases hy : nodesB n [y] = true
      · rw [if_pos hy] at E
        have hgt : 100 < L.length := by
          by_cases h : 100 < L.length
          · exact h
          · exact absurd ⟨hc, hn, hy, by omega⟩ hno
        rw [if_pos hgt] at E
        have hgt2 : 100 < (lL : Int) := by have := LL.out; omega
        rw [hy]
        clear hn hno hgt hc hy
        go_wp2_with fail
        go_ret2
        exact ⟨two_ret F1.out E.out.symm, HB3.out⟩
      · rw [if_neg hy] at E
        rw [Bool.eq_false_iff.2 hy]
        clear hn hno hc hy
        go_wp2_with fail
        go_ret2
        exact ⟨two_ret F1.out E.out.symm, HB3.out⟩
    · rw [if_neg hn] at E
      rw [Bool.eq_false_iff.2 hn]
      clear hn hno hc
      go_wp2_with fail
      go_ret2
      exact ⟨two_ret F1.out E.out.symm, HB2.out⟩
  · rw [if_neg hc] at E
    have hcb : (errC n D T != 0) = true := bne_iff_ne.2 hc
    clear hc hno
    go_enter Try.func19, Try.ntmps19
    go_wp2_with fail
    refine HC.out.mono ?_; rintro _ w1 ⟨rfl, hw1⟩
    go_wp2_with fail
    go_ret2
    exact ⟨two_ret F1.out E.out.symm, below_on HB.out hw1⟩

set_option maxHeartbeats 4000000 in
theorem rnear_loop (n y : Int) (aD aT aL : Option Addr) (D T L : List Int) (lD lT lL cD cT cL : Nat) (w : World) (lD1 : D.length = lD) (lT1 : T.length = lT) (lL1 : L.length = lL) (hD : ReadsI w aD D) (hT : ReadsI w aT T) (hL : ReadsI w aL L) (hc : errC n D T = 0) (hn : nodesB n L = true) (hy : nodesB n [y] = true) (hle : L.length ≤ 100) :
    Calls Try.prog 19 #[.agg #[.int .i64 n, .slice aD lD cD, .slice aT lT cT], .int .i64 y, .slice aL lL cL] w fun e w' => e = .returned (.tuple #[.int .i64 (nearV n D T L y), .int .i64 (nearE n D T L y)]) ∧ Below w.heap.size w w' := by
  have HB : Hid (Below w.heap.size w (w.alloc (.cells #[.int .i64 n, .slice aD lD cD, .slice aT lT cT] 24))) := (Below.refl _ _).alloc (Nat.le_refl _) _
  have HX : Hid (BoxS w.heap.size n (.slice aD lD cD) (.slice aT lT cT) (w.alloc (.cells #[.int .i64 n, .slice aD lD cD, .slice aT lT cT] 24))) := ⟨box_cell w _ _ 0 _ rfl, box_cell w _ _ 1 _ rfl, box_cell w _ _ 2 _ rfl⟩
  have hv : validB n D T = true := by
    unfold errC at hc
    cases hv : validB n D T with
    | true => rfl
    | false => rw [hv] at hc; cases hc
  have hleL : lL ≤ 100 := by omega
  have HV := Lib.hid (validB_iff.1 hv)
  have HN := Lib.hid hn
  have HY : Hid (nodeB n y = true) := by show nodeB n y = true; simpa [nodesB] using hy
  have HLE := Lib.hid (show ∀ x y, nodeB n x = true → nodeB n y = true → legE n D T x y = 0 from fun x y h1 h2 => legE_zero.2 ⟨hv, h1, h2⟩)
  have HE := Lib.hid (show nearE n D T L y = if 1000000 < near n D y 1000001 L then 2 else 0 by rw [rnear_four, if_pos hc, if_pos hn, if_pos hy, if_neg (by omega)])
  have HC := Lib.hid (rcheck_any n aD aT D T lD lT cD cT _ lD1 lT1 (hD.below HB.out) (hT.below HB.out))
  have HI2 := Lib.hid (show ∀ w1, Below w.heap.size w w1 → Calls Try.prog 46 #[.agg #[.int .i64 n, .slice aD lD cD, .slice aT lT cT], .slice aL lL cL] w1 fun e w' => e = .returned (.bool true) ∧ Below w1.heap.size w1 w' from fun w1 hb => by
    have := in_any n aD aT aL L lD lT lL cD cT cL w1 lL1 (hL.below hb) (by omega)
    rw [hn] at this; exact this)
  have HI3 := Lib.hid (show ∀ w1 : World, Calls Try.prog 46 #[.agg #[.int .i64 n, .slice aD lD cD, .slice aT lT cT], .slice (some ⟨w1.heap.size, 0, none⟩) 1 1] (w1.alloc (.cells #[.int .i64 y] 3)) fun e w' => e = .returned (.bool true) ∧ Below w1.heap.size w1 w' from fun w1 => by
    have := in_any n aD aT _ [y] lD lT 1 cD cT 1 _ rfl (reads_lit w1 #[.int .i64 y] [y] 3 rfl) (by omega)
    rw [hy] at this
    refine this.mono ?_
    rintro e w' ⟨he, hb⟩
    exact ⟨he, ((Below.refl _ w1).alloc (Nat.le_refl _) _).trans (hb.mono (by simp))⟩)
  rw [hc] at HC
  have HD := Lib.hid (hD.below HB.out); have HT := Lib.hid (hT.below HB.out); have HL := Lib.hid (hL.below HB.out)
  have LD := Lib.hid lD1; have LT := Lib.hid lT1; have LL := Lib.hid lL1
  clear hD hT hL lD1 lT1 lL1 hc hn hy hv hle
  go_enter Try.func19, Try.ntmps19
  go_wp2_with fail
  refine HC.out.mono ?_; rintro _ w1 ⟨rfl, hw1⟩
  obtain ⟨W, hW⟩ : ∃ W, w.alloc (.cells #[.int .i64 n, .slice aD lD cD, .slice aT lT cT] 24) = W := ⟨_, rfl⟩
  rw [hW] at HB HX HD HT HL hw1
  clear HC hW
  obtain ⟨b0, b1, b2⟩ := HX.out.on hw1
  have H1 := Lib.hid hw1
  clear hw1
  go_wp2_with fail
  refine (HI2.out w1 (below_on HB.out H1.out)).mono ?_
  rintro _ w2 ⟨rfl, hw2⟩
  have H2 := Lib.hid (below_on H1.out hw2)
  clear b0 b1 b2 hw2 H1 HI2
  obtain ⟨b0, b1, b2⟩ := HX.out.on H2.out
  go_wp2_with fail
  refine (HI3.out w2).mono ?_
  rintro _ w3 ⟨rfl, hw3⟩
  have H3 := Lib.hid (below_on H2.out hw3)
  clear b0 b1 b2 hw3 H2 HI3
  go_wp2_with fail
  go_loopw [9, 8] (fun i s wr => ∃ k : Nat, k ≤ lL ∧ i = .int .i64 k ∧ s = .int .i64 (nr (near n D y 1000001 (L.take k))) ∧ Below W.heap.size W wr) (fun i s wr => lL - (intOf i).toNat)
  case atStart => exact ⟨0, by omega, rfl, rfl, H3.out⟩
  case round =>
    obtain ⟨k, hk, rfl, rfl, hb⟩ := hrel
    have HR := Lib.hid hb; clear hb
    by_cases hlt : k < lL
    · have hkl : k < L.length := by rw [LL.out]; exact hlt
      have hki : (k : Int) < (lL : Int) := by omega
      obtain ⟨bL, offL, haL, hcL⟩ := (HL.out.below HR.out) (by omega)
      subst haL
      have c1 := hcL k hkl
      have hnx := nodesB_at HN.out k hkl
      have HT1 := Lib.hid (near_snoc n D y 1000001 (L.take k) (at_ L k))
      rw [← take_snoc L k hkl] at HT1
      have hu0 := near_nonneg HV.out.2.2.2.2.1 HV.out.2.2.1 HY.out (b := 1000001) (by omega) (nodesB_take HN.out k)
      obtain ⟨x, hx⟩ : ∃ x, at_ L k = x := ⟨_, rfl⟩
      rw [hx] at c1 hnx HT1
      have gD := leg_range HV.out.2.2.2.2.1 HV.out.2.2.1 hnx HY.out
      have he := HLE.out x y hnx HY.out
      have HC := Lib.hid (rleg_any n x y aD aT D T lD lT cD cT wr.drew LD.out LT.out ((HD.out.below HR.out).below (Below.refl _ _).drew) ((HT.out.below HR.out).below (Below.refl _ _).drew))
      have v1 : legV n D T D x y = leg n D x y := by unfold legV; rw [if_pos he]
      rw [v1, he] at HC
      obtain ⟨u, hu⟩ : ∃ u, near n D y 1000001 (L.take k) = u := ⟨_, rfl⟩
      obtain ⟨v, hv⟩ : ∃ v, leg n D x y = v := ⟨_, rfl⟩
      rw [hv] at HC HT1 gD; rw [hu] at HT1 hu0 ⊢
      obtain ⟨g0, g1⟩ := gD
      obtain ⟨b0, b1, b2⟩ := HX.out.on HR.out
      clear hx hv hu hkl hnx hcL v1 he
      obtain ⟨s, hs⟩ : ∃ s, nr u = s := ⟨_, rfl⟩
      have HS := Lib.hid hs
      rw [hs]
      clear hs
      go_wp2_with fail
      go_region_held_law (fun w' => (w'.cell? ⟨w.heap.size, 0, none⟩ = some (.int .i64 n) ∧ w'.cell? ⟨w.heap.size, 1, none⟩ = some (.slice aD lD cD) ∧ w'.cell? ⟨w.heap.size, 2, none⟩ = some (.slice aT lT cT)) ∧ w'.cell? ⟨bL, offL + k, none⟩ = some (.int .i64 x))
        (first | exact ⟨⟨b0, b1, b2⟩, c1⟩ | exact HS6.out)
        (first | (go_at_call 15; refine HC.out.mono ?_; rintro _ w6 ⟨rfl, hw6⟩; have HS6 := Lib.hid (And.intro (And.intro (cell_on hw6 b0) (And.intro (cell_on hw6 b1) (cell_on hw6 b2))) (cell_on hw6 c1)); have H6 := Lib.hid ((HR.out.drew).trans (hw6.mono HR.out.size)); clear hw6))
      have d1 := HS6.out.2
      clear b0 b1 b2 c1 HC HS6
      by_cases hxy : x = y
      · have hxb : (x != y) = false := by rw [hxy]; simp
        rw [if_pos hxy] at HT1
        clear hxy
        go_wp2_with fail
        go_roundw
        case rel => exact ⟨k + 1, by omega, by go_num, by rw [HT1.out, HS.out], H6.out⟩
        case measure => simp [intOf]; omega
      · have hxb : (x != y) = true := bne_iff_ne.2 hxy
        rw [if_neg hxy] at HT1
        clear hxy
        by_cases hbig : 1000000 < u
        · have hs : s = -1 := by rw [← HS.out]; exact if_pos hbig
          subst hs
          have HW := Lib.hid (show v = nr (min u v) by rw [show min u v = v by omega]; unfold nr; rw [if_neg (by omega)])
          go_wp2_with fail
          go_roundw
          case rel => exact ⟨k + 1, by omega, by go_num, by rw [HT1.out, ← HW.out], H6.out⟩
          case measure => simp [intOf]; omega
        · have hs : s = u := by rw [← HS.out]; exact if_neg hbig
          subst hs
          by_cases hlv : v < s
          · have HW := Lib.hid (show v = nr (min s v) by rw [show min s v = v by omega]; unfold nr; rw [if_neg (by omega)])
            go_wp2_with fail
            go_roundw
            case rel => exact ⟨k + 1, by omega, by go_num, by rw [HT1.out, ← HW.out], H6.out⟩
            case measure => simp [intOf]; omega
          · have HW := Lib.hid (show s = nr (min s v) by rw [show min s v = s by omega]; unfold nr; rw [if_neg (by omega)])
            go_wp2_with fail
            go_roundw
            case rel => exact ⟨k + 1, by omega, by go_num, by rw [HT1.out, ← HW.out], H6.out⟩
            case measure => simp [intOf]; omega
    · obtain rfl : k = lL := by omega
      have hu0 := near_nonneg HV.out.2.2.2.2.1 HV.out.2.2.1 HY.out (b := 1000001) (by omega) HN.out
      have hU : near n D y 1000001 (L.take k) = near n D y 1000001 L := by rw [← LL.out, List.take_length]
      rw [hU]
      obtain ⟨u, hu⟩ : ∃ u, near n D y 1000001 L = u := ⟨_, rfl⟩
      rw [hu] at HE hu0 ⊢
      by_cases hg : 1000000 < u
      · rw [if_pos hg] at HE
        have F1 := Lib.hid (show (0 : Int) = nearV n D T L y by unfold nearV; rw [if_neg (by rw [HE.out]; decide)])
        rw [show nr u = -1 from if_pos hg]
        clear hU hu
        go_wp2_with fail
        go_ret2
        exact ⟨two_ret F1.out HE.out.symm, below_on HB.out HR.out⟩
      · rw [if_neg hg] at HE
        have F1 := Lib.hid (show u = nearV n D T L y by unfold nearV; rw [if_pos HE.out, hu])
        rw [show nr u = u from if_neg hg]
        clear hU hu
        go_wp2_with fail
        go_ret2
        exact ⟨two_ret F1.out HE.out.symm, below_on HB.out HR.out⟩

theorem rnear_any (n y : Int) (aD aT aL : Option Addr) (D T L : List Int) (lD lT lL cD cT cL : Nat) (w : World) (lD1 : D.length = lD) (lT1 : T.length = lT) (lL1 : L.length = lL) (hD : ReadsI w aD D) (hT : ReadsI w aT T) (hL : ReadsI w aL L) (hm : lL ≤ 9223372036854775807) :
    Calls Try.prog 19 #[.agg #[.int .i64 n, .slice aD lD cD, .slice aT lT cT], .int .i64 y, .slice aL lL cL] w fun e w' => e = .returned (.tuple #[.int .i64 (nearV n D T L y), .int .i64 (nearE n D T L y)]) ∧ Below w.heap.size w w' := by
  by_cases h : errC n D T = 0 ∧ nodesB n L = true ∧ nodesB n [y] = true ∧ L.length ≤ 100
  · exact rnear_loop n y aD aT aL D T L lD lT lL cD cT cL w lD1 lT1 lL1 hD hT hL h.1 h.2.1 h.2.2.1 h.2.2.2
  · exact rnear_short n y aD aT aL D T L lD lT lL cD cT cL w lD1 lT1 lL1 hD hT hL hm h
end Go.Proofs.Ytakiciemkecgfaa.Area

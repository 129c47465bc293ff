/-
  The walk of the reference's Tour for areas.
-/
import Derived.Test.YtakiciemkecgfaaRefLeg
import Derived.Test.YtakiciemkecgfaaAreaParts
namespace Go.Proofs.Ytakiciemkecgfaa.Area
open Go.RowKit Go.Proofs Go.Proofs.Ytakiciemkecgfaa.AreaMath Go.Proofs.Ytakiciemkecgfaa.Append
set_option maxRecDepth 100000
set_option linter.unusedVariables false

/-- the sum of the first k legs of a round -/
def psum (n : Int) (D R : List Int) : Nat → Int
  | 0 => 0
  | k + 1 => psum n D R k + leg n D (at_ R k) (at_ R (k + 1))
theorem psum_cons (n : Int) (D : List Int) (x : Int) (R : List Int) (k : Nat) : psum n D (x :: R) (k + 1) = leg n D x (at_ R 0) + psum n D R k := by
  induction k with
  | zero => simp [psum, at_]
  | succ k ih =>
    have e : psum n D (x :: R) (k + 1 + 1) = psum n D (x :: R) (k + 1) + leg n D (at_ (x :: R) (k + 1)) (at_ (x :: R) (k + 1 + 1)) := rfl
    have e1 : at_ (x :: R) (k + 1) = at_ R k := by simp [at_]
    have e2 : at_ (x :: R) (k + 1 + 1) = at_ R (k + 1) := by simp [at_]
    rw [e, ih, e1, e2]
    simp only [psum]; omega
theorem psum_tour (n : Int) (D : List Int) (x : Int) (L : List Int) : psum n D (x :: (L ++ [0])) (L.length + 1) = tour n D x L := by
  induction L generalizing x with
  | nil => simp [psum, tour, at_]
  | cons y L ih =>
    rw [psum_cons, List.length_cons, List.cons_append, ih]
    simp [tour, at_]
theorem psum_range {n : Int} {D R : List Int} (h : listB n D = true) (hl : (D.length : Int) = n * n) (hR : nodesB n R = true) (k : Nat) (hk : k < R.length) : 0 ≤ psum n D R k ∧ psum n D R k ≤ 1000000 * (k : Int) := by
  induction k with
  | zero => simp [psum]
  | succ k ih =>
    have := ih (by omega)
    have := leg_range h hl (nodesB_at hR k (by omega)) (nodesB_at hR (k + 1) hk)
    simp only [psum]; omega

/-- what the reference's Tour answers, by its three tests -/
theorem rtour_three {n : Int} {D T L : List Int} : tourE n D T L = if errC n D T = 0 then (if nodesB n L = true then (if 100 < L.length then 4 else 0) else 5) else 1 := by
  unfold tourE allE errC
  cases validB n D T <;> cases nodesB n L <;> simp

set_option maxHeartbeats 1000000 in
theorem rtour_short (n : Int) (aD aT aL : Option Addr) (D T L : List Int) (lD lT lL cD cT cL : Nat) (w : World) (lD1 : D.length = lD) (lT1 : T.length = lT) (lL1 : L.length = lL) (hD : ReadsI w aD D) (hT : ReadsI w aT T) (hL : ReadsI w aL L) (hm : lL ≤ 9223372036854775807) (hno : tourE n D T L ≠ 0) :
    Calls Try.prog 17 #[.agg #[.int .i64 n, .slice aD lD cD, .slice aT lT cT], .slice aL lL cL] w fun e w' => e = .returned (.tuple #[.int .i64 (tourV n D T L D), .int .i64 (tourV n D T L T), .int .i64 (tourE n D T L)]) ∧ Below w.heap.size w w' := by
  have HB : Hid (Below w.heap.size w (w.alloc (.cells #[.int .i64 n, .slice aD lD cD, .slice aT lT cT] 24))) := (Below.refl _ _).alloc (Nat.le_refl _) _
  have HC := Lib.hid (rcheck_any n aD aT D T lD lT cD cT _ lD1 lT1 (hD.below HB.out) (hT.below HB.out))
  have HL := Lib.hid hL; have LL := Lib.hid lL1
  have F1 := Lib.hid (show (0 : Int) = tourV n D T L D by unfold tourV; rw [if_neg hno])
  have F2 := Lib.hid (show (0 : Int) = tourV n D T L T by unfold tourV; rw [if_neg hno])
  rw [rtour_three] at hno
  have E := Lib.hid (rtour_three (n := n) (D := D) (T := T) (L := L))
  clear hD hT hL lD1 lT1 lL1
  by_cases hc : errC n D T = 0
  · rw [hc] at HC
    rw [if_pos hc] at hno E
    go_enter Try.func17, Try.ntmps17
    go_wp2_with fail
    refine HC.out.mono ?_; rintro _ w1 ⟨rfl, hw1⟩
    have hB3 : Below (w.heap.size + 1) (w.alloc (.cells #[.int .i64 n, .slice aD lD cD, .slice aT lT cT] 24)) w1 := hw1.mono (by simp)
    have hbox0 := box_on (k := 0) rfl hB3
    have hbox1 := box_on (k := 1) rfl hB3
    have hbox2 := box_on (k := 2) rfl hB3
    have HB1 := Lib.hid (below_on HB.out hw1)
    clear hw1 hB3 HC
    go_wp2_with fail
    refine (in_any n aD aT aL L lD lT lL cD cT cL _ LL.out (HL.out.below HB1.out) hm).mono ?_
    rintro _ w2 ⟨rfl, hw2⟩
    have HB2 := Lib.hid (below_on HB1.out hw2)
    clear hbox0 hbox1 hbox2 hw2
    by_cases hn : nodesB n L = true
    · rw [if_pos hn] at hno E
      have hgt : 100 < L.length := by
        by_cases h : 100 < L.length
        · exact h
        · rw [if_neg h] at hno; exact absurd rfl hno
      rw [if_pos hgt] at E
      have hgt2 : 100 < (lL : Int) := by have := LL.out; omega
      rw [hn]
      clear hn hno hgt hc
      go_wp2_with fail
      go_ret3
      exact ⟨three_ret F1.out F2.out E.out.symm, HB2.out⟩
    · rw [if_neg hn] at E
      rw [Bool.eq_false_iff.2 hn]
      clear hn hno hc
      go_wp2_with fail
      go_ret3
      exact ⟨three_ret F1.out F2.out E.out.symm, HB2.out⟩
  · rw [if_neg hc] at E
    have hcb : (errC n D T != 0) = true := bne_iff_ne.2 hc
    clear hc hno
    go_enter Try.func17, Try.ntmps17
    go_wp2_with fail
    refine HC.out.mono ?_; rintro _ w1 ⟨rfl, hw1⟩
    go_wp2_with fail
    go_ret3
    exact ⟨three_ret F1.out F2.out E.out.symm, below_on HB.out hw1⟩

set_option maxHeartbeats 4000000 in
theorem rtour_loop (n : Int) (aD aT aL : Option Addr) (D T L : List Int) (lD lT lL cD cT cL : Nat) (w : World) (lD1 : D.length = lD) (lT1 : T.length = lT) (lL1 : L.length = lL) (hD : ReadsI w aD D) (hT : ReadsI w aT T) (hL : ReadsI w aL L) (hok : tourE n D T L = 0) :
    Calls Try.prog 17 #[.agg #[.int .i64 n, .slice aD lD cD, .slice aT lT cT], .slice aL lL cL] w fun e w' => e = .returned (.tuple #[.int .i64 (tour n D 0 L), .int .i64 (tour n T 0 L), .int .i64 0]) ∧ Below w.heap.size w w' := by
  have HB : Hid (Below w.heap.size w (w.alloc (.cells #[.int .i64 n, .slice aD lD cD, .slice aT lT cT] 24))) := (Below.refl _ _).alloc (Nat.le_refl _) _
  have HX : Hid (BoxS w.heap.size n (.slice aD lD cD) (.slice aT lT cT) (w.alloc (.cells #[.int .i64 n, .slice aD lD cD, .slice aT lT cT] 24))) := ⟨box_cell w _ _ 0 _ rfl, box_cell w _ _ 1 _ rfl, box_cell w _ _ 2 _ rfl⟩
  have hc : errC n D T = 0 := by
    by_cases h : errC n D T = 0
    · exact h
    · rw [rtour_three, if_neg h] at hok; cases hok
  rw [rtour_three, if_pos hc] at hok
  have hn : nodesB n L = true := by
    by_cases h : nodesB n L = true
    · exact h
    · rw [if_neg h] at hok; cases hok
  rw [if_pos hn] at hok
  have hle : L.length ≤ 100 := by
    by_cases h : 100 < L.length
    · rw [if_pos h] at hok; cases hok
    · omega
  have hv : validB n D T = true := by
    unfold errC at hc
    cases hv : validB n D T with
    | true => rfl
    | false => rw [hv] at hc; cases hc
  have hleL : lL ≤ 100 := by omega
  have HV := Lib.hid (validB_iff.1 hv)
  have h00 : nodeB n 0 = true := nodeB_iff.2 ⟨by omega, by have := HV.out.1; omega⟩
  have HNR : Hid (nodesB n (0 :: (L ++ [0])) = true) := by
    show nodesB n (0 :: (L ++ [0])) = true
    unfold nodesB at hn ⊢
    simp [h00, hn]
  have HLE := Lib.hid (show ∀ x y, nodeB n x = true → nodeB n y = true → legE n D T x y = 0 from fun x y h1 h2 => legE_zero.2 ⟨hv, h1, h2⟩)
  have HC := Lib.hid (rcheck_any n aD aT D T lD lT cD cT _ lD1 lT1 (hD.below HB.out) (hT.below HB.out))
  have HI2 := Lib.hid (show ∀ w1, Below w.heap.size w w1 → Calls Try.prog 46 #[.agg #[.int .i64 n, .slice aD lD cD, .slice aT lT cT], .slice aL lL cL] w1 fun e w' => e = .returned (.bool true) ∧ Below w1.heap.size w1 w' from fun w1 hb => by
    have := in_any n aD aT aL L lD lT lL cD cT cL w1 lL1 (hL.below hb) (by omega)
    rw [hn] at this; exact this)
  rw [hc] at HC
  have HD := Lib.hid (hD.below HB.out); have HT := Lib.hid (hT.below HB.out); have HL := Lib.hid (hL.below HB.out)
  have LD := Lib.hid lD1; have LT := Lib.hid lT1; have LL := Lib.hid lL1
  clear hD hT hL lD1 lT1 lL1 hok hc hn hv h00 hle
  obtain ⟨i0, hi, hz0, hz1, hz2⟩ := info_parts info3
  have HI := Lib.hid hi; have HZ0 := Lib.hid hz0; have HZ1 := Lib.hid hz1; have HZ2 := Lib.hid hz2
  clear hi hz0 hz1 hz2
  go_enter Try.func17, Try.ntmps17
  go_wp2_with fail
  refine HC.out.mono ?_; rintro _ w1 ⟨rfl, hw1⟩
  obtain ⟨W, hW⟩ : ∃ W, w.alloc (.cells #[.int .i64 n, .slice aD lD cD, .slice aT lT cT] 24) = W := ⟨_, rfl⟩
  rw [hW] at HB HX HD HT HL hw1
  clear HC hW
  obtain ⟨b0, b1, b2⟩ := HX.out.on hw1
  have H1 := Lib.hid hw1
  clear hw1
  go_wp2_with fail
  refine (HI2.out w1 (below_on HB.out H1.out)).mono ?_
  rintro _ w3 ⟨rfl, hw3⟩
  have H3 := Lib.hid (below_on H1.out hw3)
  clear b0 b1 b2 hw3 H1 HI2
  obtain ⟨nR, hnR⟩ : ∃ nR, lL + 1 + 1 = nR := ⟨_, rfl⟩
  have NR := Lib.hid hnR; clear hnR
  have A1 := hid_alloc H3 (.cells #[.int .i64 0] 3)
  have A2 := Lib.hid (World.ownsRow_lit (base := W.heap.size) (e := 3) (size := 1) w3 #[.int .i64 0] 1 H3.out.size (by decide) rfl)
  have A3 := Lib.hid (reads_news (HL.out.below A1.out) LL.out)
  have A4 := Lib.hid (show (intsV L).length = lL * 1 by simp [intsV, LL.out])
  have A5 := Lib.hid (show (#[.int .i64 0] : Array Value).toList ++ intsV L = intsV (0 :: L) by simp [intsV])
  have A6 := Lib.hid (show intsV (0 :: L) ++ [.int .i64 0] = intsV (0 :: (L ++ [0])) by simp [intsV])
  go_wp2_with (first
    | (at_builtin; refine wpList_append_any _ rfl _ _ 25 rfl W.heap.size 3 i0 (.int .i64 0) 1 8 Try.underlying25 HI.out HZ0.out HZ1.out HZ2.out rfl (by decide) w3.heap.size 1 1 _ rfl A2.out aL lL cL (intsV L) rfl A4.out A3.out (intsV_one L) (by unfold maxLen; omega) (by omega) A1.out.size (lL + 1) (Nat.add_comm _ _) (intsV (0 :: L)) A5.out ?_; intro g1 p1 w4 o1 k1; have H4 := hid_trans A1 k1; have H4a := hid_alloc H4 (.cells #[.int .i64 0] 3); have O2 := Lib.hid (o1.alloc (.cells #[.int .i64 0] 3)); clear o1 k1)
    | (at_builtin; refine wpList_append_any _ rfl _ _ 25 rfl W.heap.size 3 i0 (.int .i64 0) 1 8 Try.underlying25 HI.out HZ0.out HZ1.out HZ2.out rfl (by decide) g1 (lL + 1) p1 _ rfl O2.out (some ⟨w4.heap.size, 0, none⟩) 1 1 [.int .i64 0] rfl rfl (one_news w4 0 3) (intsV_one [0]) (by unfold maxLen; omega) (by omega) H4a.out.size nR NR.out (intsV (0 :: (L ++ [0]))) A6.out ?_; intro g p w5 o2 k2; have H5 := hid_trans H4a k2; have O3 := Lib.hid o2; clear o2 k2))
  have RR := Lib.hid (reads_own O3.out (by rw [← NR.out]; simp [LL.out]))
  have LR := Lib.hid (show (0 :: (L ++ [0])).length = nR by rw [← NR.out]; simp [LL.out])
  have PD := Lib.hid (psum_tour n D 0 L)
  have PT := Lib.hid (psum_tour n T 0 L)
  rw [LL.out] at PD PT
  obtain ⟨R, hR⟩ : ∃ R, 0 :: (L ++ [0]) = R := ⟨_, rfl⟩
  rw [hR] at RR LR PD PT HNR
  clear A1 A2 A3 A4 A5 A6 O2 O3 H3 H4 H4a HI HZ0 HZ1 HZ2 hR
  go_wp2_with fail
  go_loopw [10, 8, 9] (fun i d t wr => ∃ k : Nat, k ≤ lL + 1 ∧ i = .int .i64 ((k : Int) + 1) ∧ d = .int .i64 (psum n D R k) ∧ t = .int .i64 (psum n T R k) ∧ Below w5.heap.size w5 wr) (fun i d t wr => nR - (intOf i).toNat)
  case atStart => exact ⟨0, by omega, rfl, rfl, rfl, Below.refl _ _⟩
  case round =>
    obtain ⟨k, hk, rfl, rfl, rfl, hb⟩ := hrel
    have HR := Lib.hid hb; clear hb
    by_cases hlt : k < lL + 1
    · have nk : k + 1 < nR := by have := NR.out; omega
      have nk3 : (nR : Int) ≤ 102 := by have := NR.out; omega
      have kR : k < R.length := by rw [LR.out]; omega
      have kR1 : k + 1 < R.length := by rw [LR.out]; omega
      obtain ⟨_, _, eg, hcR⟩ := RR.out (by omega)
      cases eg
      have c1 := cell_on HR.out (hcR k kR)
      have c2 := cell_on HR.out (hcR (k + 1) kR1)
      rw [Nat.zero_add] at c1 c2
      have hnx := nodesB_at HNR.out k kR
      have hny := nodesB_at HNR.out (k + 1) kR1
      have PD1 := Lib.hid (show psum n D R (k + 1) = psum n D R k + leg n D (at_ R k) (at_ R (k + 1)) from rfl)
      have PT1 := Lib.hid (show psum n T R (k + 1) = psum n T R k + leg n T (at_ R k) (at_ R (k + 1)) from rfl)
      have rD := psum_range HV.out.2.2.2.2.1 HV.out.2.2.1 HNR.out k kR
      have rT := psum_range HV.out.2.2.2.2.2 HV.out.2.2.2.1 HNR.out k kR
      obtain ⟨x, hx⟩ : ∃ x, at_ R k = x := ⟨_, rfl⟩
      obtain ⟨y, hy⟩ : ∃ y, at_ R (k + 1) = y := ⟨_, rfl⟩
      rw [hx] at c1 hnx PD1 PT1; rw [hy] at c2 hny PD1 PT1
      have gD := leg_range HV.out.2.2.2.2.1 HV.out.2.2.1 hnx hny
      have gT := leg_range HV.out.2.2.2.2.2 HV.out.2.2.2.1 hnx hny
      have he := HLE.out x y hnx hny
      have HW := Lib.hid (H5.out.trans (HR.out.mono H5.out.size))
      have HC := Lib.hid (rleg_any n x y aD aT D T lD lT cD cT wr.drew LD.out LT.out ((HD.out.below HW.out).below (Below.refl _ _).drew) ((HT.out.below HW.out).below (Below.refl _ _).drew))
      have v1 : legV n D T D x y = leg n D x y := by unfold legV; rw [if_pos he]
      have v2 : legV n D T T x y = leg n T x y := by unfold legV; rw [if_pos he]
      rw [v1, v2, he] at HC
      obtain ⟨uD, huD⟩ : ∃ u, psum n D R k = u := ⟨_, rfl⟩
      obtain ⟨uT, huT⟩ : ∃ u, psum n T R k = u := ⟨_, rfl⟩
      obtain ⟨vD, hvD⟩ : ∃ u, leg n D x y = u := ⟨_, rfl⟩
      obtain ⟨vT, hvT⟩ : ∃ u, leg n T x y = u := ⟨_, rfl⟩
      rw [huD, hvD] at PD1; rw [huT, hvT] at PT1
      rw [hvD, hvT] at HC
      rw [huD] at rD ⊢; rw [huT] at rT ⊢; rw [hvD] at gD; rw [hvT] at gT
      obtain ⟨rD0, rD1⟩ := rD; obtain ⟨rT0, rT1⟩ := rT; obtain ⟨gD0, gD1⟩ := gD; obtain ⟨gT0, gT1⟩ := gT
      have rD2 : uD ≤ 101000000 := by omega
      have rT2 : uT ≤ 101000000 := by omega
      obtain ⟨b0, b1, b2⟩ := HX.out.on HW.out
      obtain ⟨q, hq⟩ : ∃ q : Int, (k : Int) + 1 = q := ⟨_, rfl⟩
      obtain ⟨r, hr⟩ : ∃ r : Int, IntKind.i64.wrap (q - 1) = r := ⟨_, rfl⟩
      have hrk : r = (k : Int) := by rw [← hr, IntWalk.i64_in _ (by omega)]; omega
      have e1 : r.toNat = k := by omega
      have e2 : q.toNat = k + 1 := by omega
      rw [← e1] at c1; rw [← e2] at c2
      have i1 : 0 ≤ r := by omega
      have i2 : r < (nR : Int) := by omega
      have i3 : 0 ≤ q := by omega
      have i4 : q < (nR : Int) := by omega
      have EQ := Lib.hid hq
      rw [hq]
      clear hx hy huD huT hvD hvT v1 v2 he hnx hny hcR kR kR1 rD1 rT1 e1 e2 hq hrk
      go_wp2_with fail
      go_region_held_law (fun w' => (w'.cell? ⟨w.heap.size, 0, none⟩ = some (.int .i64 n) ∧ w'.cell? ⟨w.heap.size, 1, none⟩ = some (.slice aD lD cD) ∧ w'.cell? ⟨w.heap.size, 2, none⟩ = some (.slice aT lT cT)) ∧ w'.cell? ⟨g, r.toNat, none⟩ = some (.int .i64 x) ∧ w'.cell? ⟨g, q.toNat, none⟩ = some (.int .i64 y))
        (first | exact ⟨⟨b0, b1, b2⟩, c1, c2⟩ | exact HS6.out)
        (first | (go_at_call 15; refine HC.out.mono ?_; rintro _ w6 ⟨rfl, hw6⟩; have HS6 := Lib.hid (And.intro (And.intro (cell_on hw6 b0) (And.intro (cell_on hw6 b1) (cell_on hw6 b2))) (And.intro (cell_on hw6 c1) (cell_on hw6 c2))); have H6 := Lib.hid ((HR.out.drew).trans (hw6.mono HR.out.size)); clear hw6))
      clear b0 b1 b2 c1 c2 HC HS6
      go_wp2_with fail
      go_roundw
      case rel => exact ⟨k + 1, by omega, by rw [← EQ.out]; rfl, by rw [PD1.out], by rw [PT1.out], H6.out⟩
      case measure => have := NR.out; have := EQ.out; simp [intOf]; omega
    · obtain rfl : k = lL + 1 := by omega
      have nk3 : ¬ ((lL + 1 : Nat) : Int) + 1 < (nR : Int) := by have := NR.out; omega
      have nk4 : (nR : Int) ≤ 102 := by have := NR.out; omega
      have nk5 : (nR : Int) = (lL : Int) + 2 := by have := NR.out; omega
      rw [PD.out, PT.out]
      clear PD PT
      have HF := Lib.hid (H5.out.trans (HR.out.mono H5.out.size))
      go_wp2_with fail
      go_ret3
      exact ⟨rfl, below_on HB.out HF.out⟩

theorem rtour_any (n : Int) (aD aT aL : Option Addr) (D T L : List Int) (lD lT lL cD cT cL : Nat) (w : World) (lD1 : D.length = lD) (lT1 : T.length = lT) (lL1 : L.length = lL) (hD : ReadsI w aD D) (hT : ReadsI w aT T) (hL : ReadsI w aL L) (hm : lL ≤ 9223372036854775807) :
    Calls Try.prog 17 #[.agg #[.int .i64 n, .slice aD lD cD, .slice aT lT cT], .slice aL lL cL] w fun e w' => e = .returned (.tuple #[.int .i64 (tourV n D T L D), .int .i64 (tourV n D T L T), .int .i64 (tourE n D T L)]) ∧ Below w.heap.size w w' := by
  by_cases h : tourE n D T L = 0
  · refine (rtour_loop n aD aT aL D T L lD lT lL cD cT cL w lD1 lT1 lL1 hD hT hL h).mono ?_
    rintro _ w' ⟨rfl, hw⟩
    refine ⟨three_ret ?_ ?_ h.symm, hw⟩
    · unfold tourV; rw [if_pos h]
    · unfold tourV; rw [if_pos h]
  · exact rtour_short n aD aT aL D T L lD lT lL cD cT cL w lD1 lT1 lL1 hD hT hL hm h
end Go.Proofs.Ytakiciemkecgfaa.Area

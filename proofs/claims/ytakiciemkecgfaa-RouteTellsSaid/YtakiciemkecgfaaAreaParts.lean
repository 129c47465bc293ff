/-
  The law AreaParts: a tour in two parts, by way of the depot, is the sum of both; a tour of none is nothing.
-/
import Derived.Test.YtakiciemkecgfaaAwakeA
import Derived.Test.YtakiciemkecgfaaAppend
namespace Go.Proofs.Ytakiciemkecgfaa.Area
open Go.RowKit Go.Proofs Go.Proofs.Ytakiciemkecgfaa.AreaMath Go.Proofs.Ytakiciemkecgfaa.Append
set_option maxRecDepth 100000
set_option linter.unusedVariables false

/-! the plain law -/
theorem nodesB_append (n : Int) (l m : List Int) : nodesB n (l ++ m) = (nodesB n l && nodesB n m) := by simp [nodesB]
/-- what is compared -/
structure PartsOk (n : Int) (D T L M : List Int) : Prop where
  bad : tourE n D T L ≠ 0 ∨ tourE n D T M ≠ 0 → tourE n D T (L ++ 0 :: M) = tourE n D T L ∨ tourE n D T (L ++ 0 :: M) = tourE n D T M
  good : tourE n D T L = 0 → tourE n D T M = 0 → tourE n D T (L ++ 0 :: M) = 0 ∧ tourV n D T (L ++ 0 :: M) D = tourV n D T L D + tourV n D T M D ∧ tourV n D T (L ++ 0 :: M) T = tourV n D T L T + tourV n D T M T ∧
    tourE n D T [] = 0 ∧ tourV n D T [] D = 0 ∧ tourV n D T [] T = 0
theorem tourE_short {n : Int} {D T L : List Int} (h : L.length ≤ 100) : tourE n D T L = allE n D T L := by
  unfold tourE
  by_cases h0 : allE n D T L = 0
  · rw [if_pos h0, if_neg (by omega), h0]
  · rw [if_neg h0]
theorem parts_ok {n : Int} {D T L M : List Int} (h : L.length + M.length ≤ 90) : PartsOk n D T L M := by
  have e1 := tourE_short (n := n) (D := D) (T := T) (L := L) (by omega)
  have e2 := tourE_short (n := n) (D := D) (T := T) (L := M) (by omega)
  have e3 := tourE_short (n := n) (D := D) (T := T) (L := L ++ 0 :: M) (by simp; omega)
  have e4 := tourE_short (n := n) (D := D) (T := T) (L := []) (by simp)
  constructor
  · intro hb
    rw [e1, e2, e3]
    rw [e1, e2] at hb
    unfold allE at *
    cases hv : validB n D T with
    | false => simp
    | true =>
      have h0 : nodeB n 0 = true := by
        have := validB_iff.1 hv
        exact nodeB_iff.2 ⟨by omega, by omega⟩
      rw [hv] at hb
      have hz : nodesB n (L ++ 0 :: M) = (nodesB n L && nodesB n M) := by
        rw [nodesB_append]; unfold nodesB; rw [List.all_cons, h0, Bool.true_and]
      rw [hz]
      cases hL : nodesB n L <;> cases hM : nodesB n M <;> simp_all
  · intro h1 h2
    rw [e1] at h1; rw [e2] at h2
    have z1 := allE_zero.1 h1
    have z2 := allE_zero.1 h2
    have hv := validB_iff.1 z1.1
    have h0 : nodeB n 0 = true := nodeB_iff.2 ⟨by omega, by omega⟩
    have hz : allE n D T (L ++ 0 :: M) = 0 := allE_zero.2 ⟨z1.1, by
      rw [nodesB_append, z1.2]
      have := z2.2
      unfold nodesB at this ⊢
      rw [List.all_cons, h0, this]; rfl⟩
    have hn : allE n D T [] = 0 := allE_zero.2 ⟨z1.1, rfl⟩
    obtain ⟨_, _, v3, v4, v5, v6⟩ := hv
    refine ⟨by rw [e3, hz], ?_, ?_, by rw [e4, hn], ?_, ?_⟩
    · unfold tourV; rw [if_pos (by rw [e3, hz]), if_pos (by rw [e1, h1]), if_pos (by rw [e2, h2]), tour_parts]
    · unfold tourV; rw [if_pos (by rw [e3, hz]), if_pos (by rw [e1, h1]), if_pos (by rw [e2, h2]), tour_parts]
    · unfold tourV; rw [if_pos (by rw [e4, hn])]; exact leg_self v5 v3 h0
    · unfold tourV; rw [if_pos (by rw [e4, hn])]; exact leg_self v6 v4 h0
theorem tourV_range {n : Int} {D T L l : List Int} (hl : l = D ∨ l = T) (h : L.length ≤ 100) : 0 ≤ tourV n D T L l ∧ tourV n D T L l ≤ 101000000 := by
  unfold tourV
  by_cases h0 : tourE n D T L = 0
  · rw [if_pos h0]
    rw [tourE_short h] at h0
    have z := allE_zero.1 h0
    obtain ⟨v1, v2, v3, v4, v5, v6⟩ := validB_iff.1 z.1
    have hd : nodeB n 0 = true := nodeB_iff.2 ⟨by omega, by omega⟩
    have hq : listB n l = true ∧ (l.length : Int) = n * n := by rcases hl with rfl | rfl; exact ⟨v5, v3⟩; exact ⟨v6, v4⟩
    rw [tour_path]
    have r1 := path_range hq.1 hq.2 hd z.2
    have r2 := leg_range hq.1 hq.2 (nodeB_lastN hd z.2) hd
    omega
  · rw [if_neg h0]; omega

/-! the walk -/
theorem reads_news {w : World} {aL : Option Addr} {L : List Int} {lL : Nat} (h : ReadsI w aL L) (hl : L.length = lL) : 0 < lL → ∃ ad, aL = some ad ∧ ∀ j u, (intsV L)[j]? = some u → w.cell? (ad.add j) = some u := by
  intro h0
  obtain ⟨b, off, ha, _⟩ := h (by omega)
  subst ha
  exact ⟨_, rfl, news_of h⟩
theorem hid_trans {w0 w w' : World} (h : Hid (Below w0.heap.size w0 w)) (k : Below w0.heap.size w w') : Hid (Below w0.heap.size w0 w') := h.out.trans k
theorem one_news (w : World) (x : Int) (t : TypeId) : 0 < 1 → ∃ ad, some (⟨w.heap.size, 0, none⟩ : Addr) = some ad ∧ ∀ j u, ([.int .i64 x] : List Value)[j]? = some u → (w.alloc (.cells #[.int .i64 x] t)).cell? (ad.add j) = some u :=
  fun _ => ⟨_, rfl, news_of (reads_lit w #[.int .i64 x] [x] t rfl)⟩

set_option maxHeartbeats 2000000 in
theorem parts_short (n : Int) (aD aT aL aM : Option Addr) (lD lT lL lM cD cT cL cM : Nat) (w : World) (hs : lL + lM ≤ 9223372036854775807) (h : 90 < lL + lM ∨ (lL + lM ≤ 90 ∧ (400 < lD ∨ (lD ≤ 400 ∧ 400 < lT)))) :
    Calls Try.prog 4 #[.agg #[.int .i64 n, .slice aD lD cD, .slice aT lT cT], .slice aL lL cL, .slice aM lM cM] w fun e w' => e = .returned (.bool true) ∧ Below w.heap.size w w' := by
  have HB : Hid (Below w.heap.size w (w.alloc (.cells #[.int .i64 n, .slice aD lD cD, .slice aT lT cT] 24))) := (Below.refl _ _).alloc (Nat.le_refl _) _
  rcases h with h | ⟨h1, h | ⟨h2, h⟩⟩
  all_goals
    go_enter Try.func4, Try.ntmps4
    go_wp2_with fail
    refine (awake_any _).mono ?_; rintro _ w1 ⟨rfl, hw1⟩
    have hB3 : Below (w.heap.size + 1) (w.alloc (.cells #[.int .i64 n, .slice aD lD cD, .slice aT lT cT] 24)) w1 := hw1.mono (by simp)
    have hbox1 := box_on (k := 1) rfl hB3
    have hbox2 := box_on (k := 2) rfl hB3
    have HBW := Lib.hid (below_on HB.out hw1)
    clear hB3 hw1
    go_wp2_with fail
    go_ret
    exact ⟨rfl, HBW.out⟩

set_option maxHeartbeats 4000000 in
theorem parts_law (n : Int) (aD aT aL aM : Option Addr) (D T L M : List Int) (lD lT lL lM cD cT cL cM : Nat) (w : World) (lD1 : D.length = lD) (lT1 : T.length = lT) (lL1 : L.length = lL) (lM1 : M.length = lM) (hD : ReadsI w aD D) (hT : ReadsI w aT T) (hL : ReadsI w aL L) (hM : ReadsI w aM M) (hm : lL + lM ≤ 90) (hm1 : lD ≤ 400) (hm2 : lT ≤ 400) :
    Calls Try.prog 4 #[.agg #[.int .i64 n, .slice aD lD cD, .slice aT lT cT], .slice aL lL cL, .slice aM lM cM] w fun e w' => e = .returned (.bool true) ∧ Below w.heap.size w w' := by
  have HB : Hid (Below w.heap.size w (w.alloc (.cells #[.int .i64 n, .slice aD lD cD, .slice aT lT cT] 24))) := (Below.refl _ _).alloc (Nat.le_refl _) _
  have HX : Hid (BoxS w.heap.size n (.slice aD lD cD) (.slice aT lT cT) (w.alloc (.cells #[.int .i64 n, .slice aD lD cD, .slice aT lT cT] 24))) := ⟨box_cell w _ _ 0 _ rfl, box_cell w _ _ 1 _ rfl, box_cell w _ _ 2 _ rfl⟩
  have HD := Lib.hid (hD.below HB.out); have HT := Lib.hid (hT.below HB.out); have HL := Lib.hid (hL.below HB.out); have HM := Lib.hid (hM.below HB.out)
  have LD := Lib.hid lD1; have LT := Lib.hid lT1; have LL := Lib.hid lL1; have LM := Lib.hid lM1
  have OK := Lib.hid (parts_ok (n := n) (D := D) (T := T) (L := L) (M := M) (by omega))
  have RL1 := Lib.hid (tourV_range (n := n) (D := D) (T := T) (L := L) (l := D) (.inl rfl) (by omega))
  have RL2 := Lib.hid (tourV_range (n := n) (D := D) (T := T) (L := L) (l := T) (.inr rfl) (by omega))
  have RM1 := Lib.hid (tourV_range (n := n) (D := D) (T := T) (L := M) (l := D) (.inl rfl) (by omega))
  have RM2 := Lib.hid (tourV_range (n := n) (D := D) (T := T) (L := M) (l := T) (.inr rfl) (by omega))
  clear hD hT hL hM lD1 lT1 lL1 lM1
  obtain ⟨i0, hi, hz0, hz1, hz2⟩ := info_parts info3
  have HI := Lib.hid hi; have HZ0 := Lib.hid hz0; have HZ1 := Lib.hid hz1; have HZ2 := Lib.hid hz2
  clear hi hz0 hz1 hz2
  go_enter Try.func4, Try.ntmps4
  go_wp2_with fail
  obtain ⟨W, hW⟩ : ∃ W, w.alloc (.cells #[.int .i64 n, .slice aD lD cD, .slice aT lT cT] 24) = W := ⟨_, rfl⟩
  rw [hW] at HB HX HD HT HL HM ⊢
  clear hW
  refine (awake_any _).mono ?_; rintro _ w1 ⟨rfl, hw1⟩
  obtain ⟨b0, b1, b2⟩ := HX.out.on hw1
  have H1 := Lib.hid hw1
  clear hw1
  go_wp2_with fail
  refine (tour_any n aD aT aL D T L lD lT lL cD cT cL w1 LD.out LT.out LL.out (HD.out.below H1.out) (HT.out.below H1.out) (HL.out.below H1.out) (by omega)).mono ?_
  rintro _ w2 ⟨rfl, hw2⟩
  have H2 := Lib.hid (below_on H1.out hw2)
  clear b0 b1 b2 hw2 H1
  obtain ⟨b0, b1, b2⟩ := HX.out.on H2.out
  go_wp2_with fail
  refine (tour_any n aD aT aM D T M lD lT lM cD cT cM w2 LD.out LT.out LM.out (HD.out.below H2.out) (HT.out.below H2.out) (HM.out.below H2.out) (by omega)).mono ?_
  rintro _ w3 ⟨rfl, hw3⟩
  have H3 := Lib.hid (below_on H2.out hw3)
  clear b0 b1 b2 hw3 H2
  -- the three appends
  have A1 := Lib.hid (hid_alloc H3 (.cells #[] 3))
  have A2 := Lib.hid (World.ownsRow_lit (base := W.heap.size) (e := 3) (size := 1) w3 #[] 0 H3.out.size (by decide) rfl)
  have A3 := Lib.hid (reads_news (HL.out.below A1.out.out) LL.out)
  have A4 := Lib.hid (show (intsV L).length = lL * 1 by simp [intsV, LL.out])
  have A5 := Lib.hid (show (#[] : Array Value).toList ++ intsV L = intsV L by simp)
  have A6 := Lib.hid (show intsV L ++ [.int .i64 0] = intsV (L ++ [0]) by simp [intsV])
  have A7 := Lib.hid (show intsV (L ++ [0]) ++ intsV M = intsV (L ++ 0 :: M) by simp [intsV])
  have A8 := Lib.hid (show (intsV M).length = lM * 1 by simp [intsV, LM.out])
  go_wp2_with (first
    | (at_builtin; refine wpList_append_any _ rfl _ _ 25 rfl W.heap.size 3 i0 (.int .i64 0) 1 8 Try.underlying25 HI.out HZ0.out HZ1.out HZ2.out rfl (by decide) w3.heap.size 0 0 _ rfl A2.out aL lL cL (intsV L) rfl A4.out A3.out (intsV_one L) (by unfold maxLen; omega) (by omega) A1.out.out.size lL (Nat.zero_add _) (intsV L) A5.out ?_; intro g1 p1 w4 o1 k1; have H4 := hid_trans A1.out k1; have H4a := hid_alloc H4 (.cells #[.int .i64 0] 3); have O2 := Lib.hid (o1.alloc (.cells #[.int .i64 0] 3)); clear o1 k1)
    | (at_builtin; refine wpList_append_any _ rfl _ _ 25 rfl W.heap.size 3 i0 (.int .i64 0) 1 8 Try.underlying25 HI.out HZ0.out HZ1.out HZ2.out rfl (by decide) g1 lL p1 _ rfl O2.out (some ⟨w4.heap.size, 0, none⟩) 1 1 [.int .i64 0] rfl rfl (one_news w4 0 3) (intsV_one [0]) (by unfold maxLen; omega) (by omega) H4a.out.size (lL + 1) rfl (intsV (L ++ [0])) A6.out ?_; intro g2 p2 w5 o2 k2; have H5 := hid_trans H4a k2; have O3 := Lib.hid o2; have N3 := Lib.hid (reads_news (HM.out.below H5.out) LM.out); clear o2 k2)
    | (at_builtin; refine wpList_append_any _ rfl _ _ 25 rfl W.heap.size 3 i0 (.int .i64 0) 1 8 Try.underlying25 HI.out HZ0.out HZ1.out HZ2.out rfl (by decide) g2 (lL + 1) p2 _ rfl O3.out aM lM cM (intsV M) rfl A8.out N3.out (intsV_one M) (by unfold maxLen; omega) (by omega) H5.out.size (lL + 1 + lM) rfl (intsV (L ++ 0 :: M)) A7.out ?_; intro g3 p3 w6 o3 k3; have H6 := hid_trans H5 k3; have O4 := Lib.hid o3; obtain ⟨b0, b1, b2⟩ := HX.out.on H6.out; clear o3 k3))
  clear A1 A2 A3 A4 A5 A6 A7 A8 O2 O3 N3 H4 H4a H5 HI HZ0 HZ1 HZ2
  refine (tour_any n aD aT _ D T (L ++ 0 :: M) lD lT (lL + 1 + lM) cD cT p3 w6 LD.out LT.out (by simp [LL.out, LM.out]; omega) (HD.out.below H6.out) (HT.out.below H6.out) (reads_own O4.out (by simp [LL.out, LM.out]; omega)) (by omega)).mono ?_
  rintro _ w7 ⟨rfl, hw7⟩
  have H7 := Lib.hid (below_on H6.out hw7)
  clear b0 b1 b2 hw7 H6
  obtain ⟨b0, b1, b2⟩ := HX.out.on H7.out
  go_wp2_with fail
  refine (tour_any n aD aT none D T [] lD lT 0 cD cT 0 w7 LD.out LT.out rfl (HD.out.below H7.out) (HT.out.below H7.out) (fun h => absurd h (by simp)) (by omega)).mono ?_
  rintro _ w8 ⟨rfl, hw8⟩
  have H8 := Lib.hid (below_on H7.out hw8)
  clear b0 b1 b2 hw8 H7 O4
  obtain ⟨bad, good⟩ := OK.out
  obtain ⟨d1, hd1⟩ : ∃ x, tourV n D T L D = x := ⟨_, rfl⟩
  obtain ⟨t1, ht1⟩ : ∃ x, tourV n D T L T = x := ⟨_, rfl⟩
  obtain ⟨d2, hd2⟩ : ∃ x, tourV n D T M D = x := ⟨_, rfl⟩
  obtain ⟨t2, ht2⟩ : ∃ x, tourV n D T M T = x := ⟨_, rfl⟩
  obtain ⟨d3, hd3⟩ : ∃ x, tourV n D T (L ++ 0 :: M) D = x := ⟨_, rfl⟩
  obtain ⟨t3, ht3⟩ : ∃ x, tourV n D T (L ++ 0 :: M) T = x := ⟨_, rfl⟩
  obtain ⟨e1, he1⟩ : ∃ x, tourE n D T L = x := ⟨_, rfl⟩
  obtain ⟨e2, he2⟩ : ∃ x, tourE n D T M = x := ⟨_, rfl⟩
  obtain ⟨e3, he3⟩ : ∃ x, tourE n D T (L ++ 0 :: M) = x := ⟨_, rfl⟩
  rw [hd1] at RL1 good ⊢
  rw [ht1] at RL2 good ⊢
  rw [hd2] at RM1 good ⊢
  rw [ht2] at RM2 good ⊢
  rw [hd3] at good ⊢
  rw [ht3] at good ⊢
  rw [he1] at bad good ⊢
  rw [he2] at bad good ⊢
  rw [he3] at bad good ⊢
  clear hd1 ht1 hd2 ht2 hd3 ht3 he1 he2 he3 OK
  by_cases h1 : e1 = 0
  · by_cases h2 : e2 = 0
    · obtain ⟨g1, g2, g3, g4, g5, g6⟩ := good h1 h2
      rw [g4, g5, g6]
      subst h1 h2 g1 g2 g3
      obtain ⟨r1, r2⟩ := RL1.out; obtain ⟨r3, r4⟩ := RL2.out; obtain ⟨r5, r6⟩ := RM1.out; obtain ⟨r7, r8⟩ := RM2.out
      clear bad good g4 g5 g6
      go_wp2_with fail
      go_ret
      exact ⟨rfl, below_on HB.out H8.out⟩
    · have hb := bad (.inr h2)
      have h2b : (e2 != 0) = true := bne_iff_ne.2 h2
      subst h1
      clear bad good
      rcases hb with rfl | rfl
      · go_wp2_with fail
        go_ret
        exact ⟨rfl, below_on HB.out H8.out⟩
      · have h2c : (e3 == 0) = false := beq_eq_false_iff_ne.2 h2
        go_wp2_with fail
        go_ret
        exact ⟨rfl, below_on HB.out H8.out⟩
  · have hb := bad (.inl h1)
    have h1b : (e1 != 0) = true := bne_iff_ne.2 h1
    clear bad good
    rcases hb with rfl | rfl
    · go_wp2_with fail
      go_ret
      exact ⟨rfl, below_on HB.out H8.out⟩
    · cases hq : (e3 == e1) with
      | true =>
        go_wp2_with fail
        go_ret
        exact ⟨rfl, below_on HB.out H8.out⟩
      | false =>
        go_wp2_with fail
        go_ret
        exact ⟨rfl, below_on HB.out H8.out⟩

theorem parts_all (n : Int) (aD aT aL aM : Option Addr) (D T L M : List Int) (lD lT lL lM cD cT cL cM : Nat) (w : World) (lD1 : D.length = lD) (lT1 : T.length = lT) (lL1 : L.length = lL) (lM1 : M.length = lM) (hD : ReadsI w aD D) (hT : ReadsI w aT T) (hL : ReadsI w aL L) (hM : ReadsI w aM M) (hs : lL + lM ≤ 9223372036854775807) :
    Calls Try.prog 4 #[.agg #[.int .i64 n, .slice aD lD cD, .slice aT lT cT], .slice aL lL cL, .slice aM lM cM] w fun e w' => e = .returned (.bool true) ∧ Below w.heap.size w w' := by
  by_cases h1 : 90 < lL + lM
  · exact parts_short n aD aT aL aM lD lT lL lM cD cT cL cM w hs (.inl h1)
  by_cases h2 : 400 < lD
  · exact parts_short n aD aT aL aM lD lT lL lM cD cT cL cM w hs (.inr ⟨by omega, .inl h2⟩)
  by_cases h3 : 400 < lT
  · exact parts_short n aD aT aL aM lD lT lL lM cD cT cL cM w hs (.inr ⟨by omega, .inr ⟨by omega, h3⟩⟩)
  exact parts_law n aD aT aL aM D T L M lD lT lL lM cD cT cL cM w lD1 lT1 lL1 lM1 hD hT hL hM (by omega) (by omega) (by omega)
end Go.Proofs.Ytakiciemkecgfaa.Area

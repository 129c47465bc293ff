/-
  The law AreaNear: none of the legs is less than Near tells; one is what it tells.
-/
import Derived.Test.YtakiciemkecgfaaAwakeA
namespace Go.Proofs.Ytakiciemkecgfaa.Area
open Go.RowKit Go.Proofs Go.Proofs.Ytakiciemkecgfaa.AreaMath
set_option maxRecDepth 100000
set_option linter.unusedVariables false

/-- is a leg of these just u? -/
def hitB (n : Int) (D : List Int) (y u : Int) (l : List Int) : Bool := l.any fun x => !(x == y) && leg n D x y == u
theorem hitB_snoc (n : Int) (D : List Int) (y u : Int) (l : List Int) (x : Int) : hitB n D y u (l ++ [x]) = (hitB n D y u l || (!(x == y) && leg n D x y == u)) := by
  unfold hitB; simp
theorem near_le (n : Int) (D : List Int) (y b : Int) (l : List Int) : near n D y b l ≤ b := by
  induction l generalizing b with
  | nil => exact Int.le_refl _
  | cons x l ih =>
    simp only [near]
    refine Int.le_trans (ih _) ?_
    split
    · exact Int.le_refl _
    · exact Int.min_le_left _ _
theorem near_mem (n : Int) (D : List Int) (y b : Int) (l : List Int) (x : Int) (hx : x ∈ l) (hn : x ≠ y) : near n D y b l ≤ leg n D x y := by
  induction l generalizing b with
  | nil => cases hx
  | cons z l ih =>
    simp only [near]
    rcases List.mem_cons.1 hx with rfl | h
    · rw [if_neg hn]; exact Int.le_trans (near_le _ _ _ _ _) (Int.min_le_right _ _)
    · exact ih _ h
theorem near_hit (n : Int) (D : List Int) (y b : Int) (l : List Int) : near n D y b l = b ∨ hitB n D y (near n D y b l) l = true := by
  induction l generalizing b with
  | nil => exact .inl rfl
  | cons x l ih =>
    simp only [near, hitB, List.any_cons]
    by_cases hx : x = y
    · rw [if_pos hx]
      rcases ih b with h | h
      · exact .inl h
      · right; unfold hitB at h; rw [h]; simp
    · rw [if_neg hx]
      have hmin : min b (leg n D x y) = b ∨ min b (leg n D x y) = leg n D x y := by omega
      rcases ih (min b (leg n D x y)) with h | h
      · rcases hmin with e | e
        · left; rw [h, e]
        · right; rw [h, e]; simp [hx]
      · right; unfold hitB at h; rw [h]; simp

/-- the legs' answers in a valid area -/
def LegsOk (n : Int) (D T L : List Int) (y u : Int) : Prop := ∀ x, x ∈ L → legE n D T x y = 0 ∧ legV n D T D x y = leg n D x y ∧ (x ≠ y → u ≤ leg n D x y)
theorem legs_ok {n y : Int} {D T L : List Int} (h : nearE n D T L y = 0) : LegsOk n D T L y (nearV n D T L y) ∧ hitB n D y (nearV n D T L y) L = true := by
  have hv : nearV n D T L y = near n D y 1000001 L := by unfold nearV; rw [if_pos h]
  have hall : allE n D T (y :: L) = 0 := by
    unfold nearE at h
    by_cases hc : allE n D T (y :: L) = 0
    · exact hc
    · rw [if_neg hc] at h; exact absurd h hc
  have hz := allE_zero.1 hall
  have hzn := hz.2
  simp only [nodesB, List.all_cons, Bool.and_eq_true] at hzn
  have hu : ¬ 1000000 < near n D y 1000001 L := by
    intro hg
    unfold nearE at h
    rw [if_pos hall] at h
    split at h
    · cases h
    · cases h
  refine ⟨fun x hx => ?_, ?_⟩
  · have hxn : nodeB n x = true := by
      obtain ⟨k, hk, rfl⟩ := mem_at hx
      exact nodesB_at hzn.2 k hk
    have he : legE n D T x y = 0 := legE_zero.2 ⟨hz.1, hxn, hzn.1⟩
    refine ⟨he, by unfold legV; rw [if_pos he], fun hne => ?_⟩
    rw [hv]; exact near_mem _ _ _ _ _ _ hx hne
  · rw [hv]
    rcases near_hit n D y 1000001 L with h1 | h1
    · rw [h1] at hu; omega
    · exact h1

set_option maxHeartbeats 2000000 in
theorem near_short (n y : Int) (aD aT aL : Option Addr) (lD lT lL cD cT cL : Nat) (w : World) (h : 90 < lL ∨ (lL ≤ 90 ∧ (400 < lD ∨ (lD ≤ 400 ∧ 400 < lT)))) :
    Calls Try.prog 5 #[.agg #[.int .i64 n, .slice aD lD cD, .slice aT lT cT], .int .i64 y, .slice aL lL cL] w fun e w' => e = .returned (.bool true) ∧ Below w.heap.size w w' := by
  have HB : Hid (Below w.heap.size w (w.alloc (.cells #[.int .i64 n, .slice aD lD cD, .slice aT lT cT] 24))) := (Below.refl _ _).alloc (Nat.le_refl _) _
  have HBX : Hid (Below (w.heap.size + 1) (w.alloc (.cells #[.int .i64 n, .slice aD lD cD, .slice aT lT cT] 24)) (w.alloc (.cells #[.int .i64 n, .slice aD lD cD, .slice aT lT cT] 24))) := Below.refl _ _
  rcases h with h | ⟨h1, h | ⟨h2, h⟩⟩
  all_goals
    go_enter Try.func5, Try.ntmps5
    go_wp2_with fail
    refine (awake_any _).mono ?_; rintro _ w1 ⟨rfl, hw1⟩
    have hB3 : Below (w.heap.size + 1) (w.alloc (.cells #[.int .i64 n, .slice aD lD cD, .slice aT lT cT] 24)) w1 := hw1.mono (by simp)
    have hbox1 := box_on (k := 1) rfl hB3
    have hbox2 := box_on (k := 2) rfl hB3
    have HBW := Lib.hid (below_on HB.out hw1)
    clear hB3 hw1
    go_wp2_with fail
    go_ret
    exact ⟨rfl, HBW.out⟩

set_option maxHeartbeats 4000000 in
theorem near_law (n y : Int) (aD aT aL : Option Addr) (D T L : List Int) (lD lT lL cD cT cL : Nat) (w : World) (lD1 : D.length = lD) (lT1 : T.length = lT) (lL1 : L.length = lL) (hD : ReadsI w aD D) (hT : ReadsI w aT T) (hL : ReadsI w aL L) (hm : lL ≤ 90) (hm1 : lD ≤ 400) (hm2 : lT ≤ 400) :
    Calls Try.prog 5 #[.agg #[.int .i64 n, .slice aD lD cD, .slice aT lT cT], .int .i64 y, .slice aL lL cL] w fun e w' => e = .returned (.bool true) ∧ Below w.heap.size w w' := by
  have HB : Hid (Below w.heap.size w (w.alloc (.cells #[.int .i64 n, .slice aD lD cD, .slice aT lT cT] 24))) := (Below.refl _ _).alloc (Nat.le_refl _) _
  have HX : Hid (BoxS w.heap.size n (.slice aD lD cD) (.slice aT lT cT) (w.alloc (.cells #[.int .i64 n, .slice aD lD cD, .slice aT lT cT] 24))) := ⟨box_cell w _ _ 0 _ rfl, box_cell w _ _ 1 _ rfl, box_cell w _ _ 2 _ rfl⟩
  have HD := Lib.hid (hD.below HB.out); have HT := Lib.hid (hT.below HB.out); have HL := Lib.hid (hL.below HB.out)
  have LD := Lib.hid lD1; have LT := Lib.hid lT1; have LL := Lib.hid lL1
  clear hD hT hL lD1 lT1 lL1
  go_enter Try.func5, Try.ntmps5
  go_wp2_with fail
  obtain ⟨W, hW⟩ : ∃ W, w.alloc (.cells #[.int .i64 n, .slice aD lD cD, .slice aT lT cT] 24) = W := ⟨_, rfl⟩
  rw [hW] at HB HX HD HT HL ⊢
  clear hW
  refine (awake_any _).mono ?_; rintro _ w1 ⟨rfl, hw1⟩
  obtain ⟨b0, b1, b2⟩ := HX.out.on hw1
  have H1 := Lib.hid hw1
  clear hw1
  go_wp2_with fail
  refine (near_any n y aD aT aL D T L lD lT lL cD cT cL w1 LD.out LT.out LL.out (HD.out.below H1.out) (HT.out.below H1.out) (HL.out.below H1.out) (by omega)).mono ?_
  rintro _ w2 ⟨rfl, hw2⟩
  have H2 := Lib.hid (below_on H1.out hw2)
  clear b0 b1 b2 hw2 H1
  by_cases he : nearE n D T L y = 0
  · have hok := legs_ok he
    have HOK := Lib.hid hok.1
    have HHIT := Lib.hid hok.2
    rw [he]
    obtain ⟨u, hu⟩ : ∃ u, nearV n D T L y = u := ⟨_, rfl⟩
    rw [hu] at HOK HHIT ⊢
    clear he hok hu
    go_wp2_with fail
    go_loopw [45, 9] (fun i s wr => ∃ k : Nat, k ≤ lL ∧ i = .int .i64 k ∧ s = .bool (hitB n D y u (L.take k)) ∧ Below W.heap.size W wr) (fun i s wr => lL - (intOf i).toNat)
    case atStart => exact ⟨0, by omega, rfl, rfl, H2.out⟩
    case round =>
      obtain ⟨k, hk, rfl, rfl, hb⟩ := hrel
      have HR := Lib.hid hb; clear hb
      by_cases hlt : k < lL
      · have hkl : k < L.length := by rw [LL.out]; exact hlt
        have hLr := HL.out.below HR.out
        obtain ⟨bL, offL, haL, hcL⟩ := hLr (by omega)
        subst haL
        have hcell := hcL k hkl
        obtain ⟨o1, o2, o3⟩ := HOK.out (at_ L k) (at_mem hkl)
        have HT1 := Lib.hid (hitB_snoc n D y u (L.take k) (at_ L k))
        rw [← take_snoc L k hkl] at HT1
        obtain ⟨x, hx⟩ : ∃ x, at_ L k = x := ⟨_, rfl⟩
        rw [hx] at hcell o1 o2 o3 HT1
        have HC := Lib.hid (leg_any n x y aD aT D T lD lT cD cT wr LD.out LT.out (HD.out.below HR.out) (HT.out.below HR.out))
        rw [o1, o2] at HC
        obtain ⟨v, hv⟩ : ∃ v, leg n D x y = v := ⟨_, rfl⟩
        rw [hv] at HC HT1 o3
        obtain ⟨hs, hhs⟩ : ∃ b, hitB n D y u (L.take k) = b := ⟨_, rfl⟩
        rw [hhs] at HT1 ⊢
        obtain ⟨b0, b1, b2⟩ := HX.out.on HR.out
        clear o1 o2 hx hv hhs hcL hkl hLr
        by_cases hxy : x = y
        · subst hxy
          have hnx : hitB n D x u (L.take (k + 1)) = hs := by rw [HT1.out]; simp
          have HNX := Lib.hid hnx
          clear hnx HT1 o3
          cases hs
          all_goals
            go_wp2_with fail
            refine HC.out.mono ?_; rintro _ w3 ⟨rfl, hw3⟩
            have H3 := Lib.hid (below_on HR.out hw3)
            clear hw3 b0 b1 b2 HC
            go_wp2_with fail
            go_roundw
            case rel => exact ⟨k + 1, by omega, by go_num, by rw [HNX.out], H3.out⟩
            case measure => simp [intOf]; omega
        · have hxb : (x != y) = true := bne_iff_ne.2 hxy
          have huv := o3 hxy
          have hnx : hitB n D y u (L.take (k + 1)) = (hs || v == u) := by rw [HT1.out, show (x == y) = false from beq_eq_false_iff_ne.2 hxy]; rfl
          have HNX := Lib.hid hnx
          clear hnx HT1 o3
          obtain ⟨q, hq⟩ : ∃ q, (v == u) = q := ⟨_, rfl⟩
          rw [hq] at HNX
          cases q
          all_goals
            cases hs
            all_goals
              go_wp2_with fail
              refine HC.out.mono ?_; rintro _ w3 ⟨rfl, hw3⟩
              have H3 := Lib.hid (below_on HR.out hw3)
              clear hw3 b0 b1 b2 HC
              go_wp2_with fail
              go_roundw
              case rel => exact ⟨k + 1, by omega, by go_num, by rw [HNX.out]; rfl, H3.out⟩
              case measure => simp [intOf]; omega
      · obtain rfl : k = lL := by omega
        have hfin : hitB n D y u (L.take k) = true := by rw [← LL.out, List.take_length]; exact HHIT.out
        rw [hfin]
        clear hfin
        go_wp2_with fail
        go_ret
        exact ⟨rfl, below_on HB.out HR.out⟩
  · have heb : (nearE n D T L y != 0) = true := bne_iff_ne.2 he
    have hv0 : nearV n D T L y = 0 := by unfold nearV; rw [if_neg he]
    rw [hv0]
    clear hv0 he
    go_wp2_with fail
    go_ret
    exact ⟨rfl, below_on HB.out H2.out⟩

theorem near_all (n y : Int) (aD aT aL : Option Addr) (D T L : List Int) (lD lT lL cD cT cL : Nat) (w : World) (lD1 : D.length = lD) (lT1 : T.length = lT) (lL1 : L.length = lL) (hD : ReadsI w aD D) (hT : ReadsI w aT T) (hL : ReadsI w aL L) :
    Calls Try.prog 5 #[.agg #[.int .i64 n, .slice aD lD cD, .slice aT lT cT], .int .i64 y, .slice aL lL cL] w fun e w' => e = .returned (.bool true) ∧ Below w.heap.size w w' := by
  by_cases h1 : 90 < lL
  · exact near_short n y aD aT aL lD lT lL cD cT cL w (.inl h1)
  by_cases h2 : 400 < lD
  · exact near_short n y aD aT aL lD lT lL cD cT cL w (.inr ⟨by omega, .inl h2⟩)
  by_cases h3 : 400 < lT
  · exact near_short n y aD aT aL lD lT lL cD cT cL w (.inr ⟨by omega, .inr ⟨by omega, h3⟩⟩)
  exact near_law n y aD aT aL D T L lD lT lL cD cT cL w lD1 lT1 lL1 hD hT hL (by omega) (by omega) (by omega)
end Go.Proofs.Ytakiciemkecgfaa.Area

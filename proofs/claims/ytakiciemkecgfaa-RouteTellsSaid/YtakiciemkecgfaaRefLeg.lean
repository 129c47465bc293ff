/-
  The walks of the reference's in and Leg for areas.
-/
import Derived.Test.YtakiciemkecgfaaRefCheck
namespace Go.Proofs.Ytakiciemkecgfaa.Area
open Go.RowKit Go.Proofs Go.Proofs.Ytakiciemkecgfaa.AreaMath
set_option maxRecDepth 100000
set_option linter.unusedVariables false

theorem rcheck_any (n : Int) (aD aT : Option Addr) (D T : List Int) (lD lT cD cT : Nat) (w : World) (lD1 : D.length = lD) (lT1 : T.length = lT) (hD : ReadsI w aD D) (hT : ReadsI w aT T) :
    Calls Try.prog 21 #[.agg #[.int .i64 n, .slice aD lD cD, .slice aT lT cT]] w fun e w' => e = .returned (.int .i64 (errC n D T)) ∧ Below w.heap.size w w' := by
  by_cases hok : 1 ≤ n ∧ n ≤ 16 ∧ (lD : Int) = n * n ∧ (lT : Int) = n * n
  · obtain ⟨h1, h2, h3, h4⟩ := hok
    obtain ⟨N, rfl⟩ : ∃ N : Nat, n = N := ⟨n.toNat, by omega⟩
    have b1 : 0 ≤ (N : Int) * N := Int.mul_nonneg (by omega) (by omega)
    have b2 : (N : Int) * N ≤ 256 := by have := Int.mul_le_mul h2 h2 (by omega) (by omega); omega
    have c : ((N * N : Nat) : Int) = (N : Int) * N := by push_cast; rfl
    exact rcheck_loops N aD aT D T lD lT cD cT w (by omega) (by omega) (by simpa using h3) (by simpa using h4) lD1 lT1 hD hT b1 b2 (by omega) (by omega)
  · have hb : n * n ≤ 9223372036854775807 ∨ ¬ (1 ≤ n ∧ n ≤ 16) := by
      by_cases hc : 1 ≤ n ∧ n ≤ 16
      · left
        have := Int.mul_le_mul hc.2 hc.2 (by omega) (by omega); omega
      · exact .inr hc
    have hh : n < 1 ∨ (1 ≤ n ∧ (16 < n ∨ (n ≤ 16 ∧ (((lD : Int) != n * n) = true ∨ (((lD : Int) != n * n) = false ∧ ((lT : Int) != n * n) = true))))) := by
      by_cases h1 : n < 1
      · exact .inl h1
      by_cases h2 : 16 < n
      · exact .inr ⟨by omega, .inl h2⟩
      refine .inr ⟨by omega, .inr ⟨by omega, ?_⟩⟩
      by_cases h3 : (lD : Int) = n * n
      · right
        refine ⟨by simpa using h3, bne_iff_ne.2 fun h4 => hok ⟨by omega, by omega, h3, h4⟩⟩
      · exact .inl (bne_iff_ne.2 h3)
    refine (rcheck_head n aD aT lD lT cD cT w hh hb).mono ?_
    rintro _ w' ⟨rfl, hw⟩
    refine ⟨ret_i64 ?_, hw⟩
    unfold errC
    have : validB n D T = false := by
      rw [← Bool.not_eq_true, validB_iff]
      rintro ⟨k1, k2, k3, k4, _⟩
      exact hok ⟨k1, k2, by rw [← lD1]; exact k3, by rw [← lT1]; exact k4⟩
    rw [this]; rfl

theorem ret_bool {a b : Bool} (h : a = b) : Ending.returned (.bool a) = .returned (.bool b) := by rw [h]

set_option maxHeartbeats 1000000 in
theorem in_any (n : Int) (aD aT aL : Option Addr) (L : List Int) (lD lT lL cD cT cL : Nat) (w : World) (lL1 : L.length = lL) (hL : ReadsI w aL L) (hm : lL ≤ 9223372036854775807) :
    Calls Try.prog 46 #[.agg #[.int .i64 n, .slice aD lD cD, .slice aT lT cT], .slice aL lL cL] w fun e w' => e = .returned (.bool (nodesB n L)) ∧ Below w.heap.size w w' := by
  have HB : Hid (Below w.heap.size w (w.alloc (.cells #[.int .i64 n, .slice aD lD cD, .slice aT lT cT] 24))) := (Below.refl _ _).alloc (Nat.le_refl _) _
  have HL := Lib.hid (hL.below HB.out)
  have LL := Lib.hid lL1
  clear hL lL1
  go_enter Try.func46, Try.ntmps46
  go_wp2_with fail
  go_loopw [5] (fun i wr => ∃ k m : Nat, k ≤ lL ∧ i = .int .i64 k ∧ (w.alloc (.cells #[.int .i64 n, .slice aD lD cD, .slice aT lT cT] 24)).drewN m = wr ∧ NodesTo n L k) (fun i wr => lL - (intOf i).toNat)
  case atStart => exact ⟨0, 0, by omega, rfl, rfl, NodesTo.zero _ _⟩
  case round =>
    obtain ⟨k, m, hk, rfl, rfl, hN⟩ := hrel
    have HN := Lib.hid hN; clear hN
    by_cases hlt : k < lL
    · have hkl : k < L.length := by rw [LL.out]; exact hlt
      obtain ⟨b, off, ha, hc⟩ := HL.out (by omega)
      subst ha
      have hcell := hc k hkl
      clear hc
      obtain ⟨x, hx⟩ : ∃ x, at_ L k = x := ⟨_, rfl⟩
      rw [hx] at hcell
      have HK := Lib.hid hkl; have HX := Lib.hid hx
      clear hkl hx
      rcases (by omega : x < 0 ∨ (0 ≤ x ∧ n ≤ x) ∨ (0 ≤ x ∧ x < n)) with g | ⟨g, g'⟩ | ⟨g, g'⟩
      · have d1 : decide (x < 0) = true := decide_eq_true g
        have hfin := Lib.hid (show false = nodesB n L by rw [nodesB_not HK.out (by rw [HX.out, ← Bool.not_eq_true, nodeB_iff]; omega)])
        go_wp2_with fail
        go_quiet (fail)
        go_wp2_with fail
        go_ret
        exact ⟨ret_bool hfin.out, below_drewN (below_drewN HB.out _) _⟩
      · have d1 : decide (x < 0) = false := decide_eq_false (by omega)
        have d2 : decide (n ≤ x) = true := decide_eq_true g'
        have hfin := Lib.hid (show false = nodesB n L by rw [nodesB_not HK.out (by rw [HX.out, ← Bool.not_eq_true, nodeB_iff]; omega)])
        go_wp2_with fail
        go_quiet (fail)
        go_wp2_with fail
        go_ret
        exact ⟨ret_bool hfin.out, below_drewN (below_drewN HB.out _) _⟩
      · have d1 : decide (x < 0) = false := decide_eq_false (by omega)
        have d2 : decide (n ≤ x) = false := decide_eq_false (by omega)
        have hok := Lib.hid (show nodeB n (at_ L k) = true by rw [HX.out, nodeB_iff]; exact ⟨g, g'⟩)
        go_wp2_with fail
        go_quiet (fail)
        go_wp2_with fail
        go_roundw
        case rel => exact ⟨k + 1, m + _, by omega, by go_num, rfl, HN.out.step hok.out⟩
        case measure => simp [intOf]; omega
    · obtain rfl : k = lL := by omega
      have hfin := Lib.hid (show true = nodesB n L by
        have := HN.out
        rw [← LL.out] at this
        rw [this.done])
      go_wp2_with fail
      go_ret
      exact ⟨ret_bool hfin.out, below_drewN HB.out _⟩

theorem rleg_zero {n : Int} {D T : List Int} {x y : Int} : legE n D T x y = if errC n D T = 0 then (if nodesB n [x, y] = true then 0 else 5) else 1 := by
  unfold legE allE errC
  cases validB n D T <;> cases nodesB n [x, y] <;> simp

set_option maxHeartbeats 1000000 in
theorem rleg_any (n x y : Int) (aD aT : Option Addr) (D T : List Int) (lD lT cD cT : Nat) (w : World) (lD1 : D.length = lD) (lT1 : T.length = lT) (hD : ReadsI w aD D) (hT : ReadsI w aT T) :
    Calls Try.prog 15 #[.agg #[.int .i64 n, .slice aD lD cD, .slice aT lT cT], .int .i64 x, .int .i64 y] w fun e w' => e = .returned (.tuple #[.int .i64 (legV n D T D x y), .int .i64 (legV n D T T x y), .int .i64 (legE n D T x y)]) ∧ Below w.heap.size w w' := by
  have HB : Hid (Below w.heap.size w (w.alloc (.cells #[.int .i64 n, .slice aD lD cD, .slice aT lT cT] 24))) := (Below.refl _ _).alloc (Nat.le_refl _) _
  have HX : Hid (w.alloc (.cells #[.int .i64 n, .slice aD lD cD, .slice aT lT cT] 24) = w.alloc (.cells #[.int .i64 n, .slice aD lD cD, .slice aT lT cT] 24)) := rfl
  have HC := Lib.hid (rcheck_any n aD aT D T lD lT cD cT _ lD1 lT1 (hD.below HB.out) (hT.below HB.out))
  have HD := Lib.hid hD; have HT := Lib.hid hT; have LD := Lib.hid lD1; have LT := Lib.hid lT1
  clear hD hT lD1 lT1 HX
  by_cases hc : errC n D T = 0
  · rw [hc] at HC
    go_enter Try.func15, Try.ntmps15
    go_wp2_with fail
    refine HC.out.mono ?_; rintro _ w1 ⟨rfl, hw1⟩
    have hB3 : Below (w.heap.size + 1) (w.alloc (.cells #[.int .i64 n, .slice aD lD cD, .slice aT lT cT] 24)) w1 := hw1.mono (by simp)
    have hbox0 := box_on (k := 0) rfl hB3
    have hbox1 := box_on (k := 1) rfl hB3
    have hbox2 := box_on (k := 2) rfl hB3
    have HB1 := Lib.hid (below_on HB.out hw1)
    have hsz : w.heap.size + 1 ≤ w1.heap.size := by have := hw1.size; simp at this; exact this
    clear hw1 hB3 HC
    go_wp2_with fail
    refine (in_any n aD aT _ [x, y] lD lT 2 cD cT 2 _ rfl (pair_reads w1 x y 3) (by omega)).mono ?_
    rintro _ w2 ⟨rfl, hw2⟩
    have hB4 : Below w1.heap.size w1 w2 := ((Below.refl _ w1).alloc (Nat.le_refl _) _).trans (hw2.mono (by simp))
    have HB2 := Lib.hid (HB1.out.trans (hB4.mono HB1.out.size))
    have h0 := cell_on hB4 hbox0
    have h1 := cell_on hB4 hbox1
    have h2 := cell_on hB4 hbox2
    clear hbox0 hbox1 hbox2 hw2 hB4 hsz
    by_cases hn : nodesB n [x, y] = true
    · have he : legE n D T x y = 0 := by rw [rleg_zero, if_pos hc, if_pos hn]
      have hz := legE_zero.1 he
      obtain ⟨v1, v2, v3, v4, v5, v6⟩ := validB_iff.1 hz.1
      have hx := nodeB_iff.1 hz.2.1
      have hy := nodeB_iff.1 hz.2.2
      have hpl := place_lt hz.2.1 hz.2.2
      have hb : n * n ≤ 256 := by have := Int.mul_le_mul v2 v2 (by omega) (by omega); omega
      have hxn0 : 0 ≤ x * n := Int.mul_nonneg hx.1 (by omega)
      have hxn1 : x * n ≤ 256 := by omega
      obtain ⟨b, off, ha, hcD⟩ := HD.out (by rw [LD.out]; rw [LD.out] at v3; omega)
      obtain ⟨b', off', ha', hcT⟩ := HT.out (by rw [LT.out]; rw [LT.out] at v4; omega)
      subst ha ha'
      have q1 : x * n + y < (lD : Int) := by rw [LD.out] at v3; omega
      have q2 : x * n + y < (lT : Int) := by rw [LT.out] at v4; omega
      have q0 : 0 ≤ x * n + y := hpl.1
      have hcD : w2.cell? ⟨b, off + (x * n + y).toNat, none⟩ = some (.int .i64 (leg n D x y)) := cell_on HB2.out (hcD (place n x y) (by rw [LD.out]; unfold place; omega))
      have hcT : w2.cell? ⟨b', off' + (x * n + y).toNat, none⟩ = some (.int .i64 (leg n T x y)) := cell_on HB2.out (hcT (place n x y) (by rw [LT.out]; unfold place; omega))
      have F1 := Lib.hid (show leg n D x y = legV n D T D x y by unfold legV; rw [if_pos he])
      have F2 := Lib.hid (show leg n T x y = legV n D T T x y by unfold legV; rw [if_pos he])
      have F3 := Lib.hid (show (0 : Int) = legE n D T x y from he.symm)
      obtain ⟨vD, hvD⟩ : ∃ vD, leg n D x y = vD := ⟨_, rfl⟩
      obtain ⟨vT, hvT⟩ : ∃ vT, leg n T x y = vT := ⟨_, rfl⟩
      rw [hvD] at hcD F1; rw [hvT] at hcT F2
      rw [hn]
      clear hvD hvT he hz v3 v4 v5 v6 hpl hc hn
      obtain ⟨hx0, hx1⟩ := hx
      obtain ⟨hy0, hy1⟩ := hy
      go_wp2_with fail
      go_quiet (fail)
      go_wp2_with fail
      go_ret3
      exact ⟨three_ret F1.out F2.out F3.out, below_drewN HB2.out _⟩
    · have he : legE n D T x y = 5 := by rw [rleg_zero, if_pos hc, if_neg hn]
      have F1 := Lib.hid (show (0 : Int) = legV n D T D x y by unfold legV; rw [if_neg (by rw [he]; decide)])
      have F2 := Lib.hid (show (0 : Int) = legV n D T T x y by unfold legV; rw [if_neg (by rw [he]; decide)])
      have F3 := Lib.hid (show (5 : Int) = legE n D T x y from he.symm)
      rw [Bool.eq_false_iff.2 hn]
      clear he hn hc
      go_wp2_with fail
      go_ret3
      exact ⟨three_ret F1.out F2.out F3.out, HB2.out⟩
  · have he : legE n D T x y = 1 := by rw [rleg_zero, if_neg hc]
    have F1 := Lib.hid (show (0 : Int) = legV n D T D x y by unfold legV; rw [if_neg (by rw [he]; decide)])
    have F2 := Lib.hid (show (0 : Int) = legV n D T T x y by unfold legV; rw [if_neg (by rw [he]; decide)])
    have F3 := Lib.hid (show (1 : Int) = legE n D T x y from he.symm)
    have hcb : (errC n D T != 0) = true := bne_iff_ne.2 hc
    clear he hc
    go_enter Try.func15, Try.ntmps15
    go_wp2_with fail
    refine HC.out.mono ?_; rintro _ w1 ⟨rfl, hw1⟩
    go_wp2_with fail
    go_ret3
    exact ⟨three_ret F1.out F2.out F3.out, below_on HB.out hw1⟩
end Go.Proofs.Ytakiciemkecgfaa.Area

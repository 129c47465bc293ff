/-
  The walks of the reference's Check, in and Leg for areas.
-/
import Derived.Test.YtakiciemkecgfaaLeg
namespace Go.Proofs.Ytakiciemkecgfaa.Area
open Go.RowKit Go.Proofs Go.Proofs.Ytakiciemkecgfaa.AreaMath
set_option maxRecDepth 100000
set_option linter.unusedVariables false

set_option maxHeartbeats 1000000 in
theorem rcheck_head (n : Int) (aD aT : Option Addr) (lD lT cD cT : Nat) (w : World) (h : n < 1 ∨ (1 ≤ n ∧ (16 < n ∨ (n ≤ 16 ∧ (((lD : Int) != n * n) = true ∨ (((lD : Int) != n * n) = false ∧ ((lT : Int) != n * n) = true)))))) (hw : n * n ≤ 9223372036854775807 ∨ ¬ (1 ≤ n ∧ n ≤ 16)) :
    Calls Try.prog 21 #[.agg #[.int .i64 n, .slice aD lD cD, .slice aT lT cT]] w fun e w' => e = .returned (.int .i64 1) ∧ Below w.heap.size w w' := by
  have hb : 1 ≤ n → n ≤ 16 → 0 ≤ n * n ∧ n * n ≤ 256 := fun h1 h2 => ⟨Int.mul_nonneg (by omega) (by omega), by
    have := Int.mul_le_mul h2 h2 (by omega) (by omega); omega⟩
  rcases h with h | ⟨h0, h | ⟨h1, h⟩⟩
  · clear hb hw
    go_enter Try.func21, Try.ntmps21
    go_wp2_with fail
    go_ret
    exact ⟨rfl, (Below.refl _ _).alloc (Nat.le_refl _) _⟩
  · clear hb hw
    go_enter Try.func21, Try.ntmps21
    go_wp2_with fail
    go_ret
    exact ⟨rfl, (Below.refl _ _).alloc (Nat.le_refl _) _⟩
  · obtain ⟨b1, b2⟩ := hb h0 h1
    clear hb hw
    rcases h with h | ⟨h, h'⟩
    all_goals
      go_enter Try.func21, Try.ntmps21
      go_wp2_with fail
      go_ret
      exact ⟨rfl, (Below.refl _ _).alloc (Nat.le_refl _) _⟩

theorem place_okB {N i j : Nat} {x : Int} (hj : j < N) : okB N (i * N + j) x = true ↔ 0 ≤ x ∧ x ≤ 1000000 ∧ (i = j → x = 0) := by
  rw [okB_iff]
  have e1 : ((i * N + j : Nat) : Int) / (N : Int) = i := by
    rw [← Int.natCast_ediv, Nat.mul_comm, Nat.mul_add_div (by omega), Nat.div_eq_of_lt hj]; simp
  have e2 : ((i * N + j : Nat) : Int) % (N : Int) = j := by
    rw [← Int.natCast_emod, Nat.mul_comm, Nat.mul_add_mod, Nat.mod_eq_of_lt hj]
  rw [e1, e2]
  constructor
  · rintro ⟨a, b, c⟩; exact ⟨a, b, fun e => c (by rw [e])⟩
  · rintro ⟨a, b, c⟩; exact ⟨a, b, fun e => c (by omega)⟩
theorem errC_bad {n : Int} {D T : List Int} {k : Nat} (h : (k < D.length ∧ okB n k (at_ D k) = false) ∨ (k < T.length ∧ okB n k (at_ T k) = false)) : (1 : Int) = errC n D T := by
  unfold errC
  have : validB n D T = false := by
    rw [← Bool.not_eq_true, validB_iff]
    rintro ⟨_, _, _, _, k1, k2⟩
    rcases h with ⟨hk, h⟩ | ⟨hk, h⟩
    · rw [listB_not hk h] at k1; cases k1
    · rw [listB_not hk h] at k2; cases k2
  rw [this]; rfl
theorem not_okB {N i j : Nat} {x : Int} (hj : j < N) (h : x < 0 ∨ 1000000 < x ∨ (i = j ∧ x ≠ 0)) : okB N (i * N + j) x = false := by
  rw [← Bool.not_eq_true, place_okB hj]
  rintro ⟨a, b, c⟩
  rcases h with h | h | ⟨h, h'⟩
  · omega
  · omega
  · exact h' (c h)

set_option maxHeartbeats 4000000 in
theorem rcheck_loops (N : Nat) (aD aT : Option Addr) (D T : List Int) (lD lT cD cT : Nat) (w : World) (h1 : 1 ≤ N) (h2 : N ≤ 16) (e1 : ((lD : Int) != (N : Int) * N) = false) (e2 : ((lT : Int) != (N : Int) * N) = false)
    (lD1 : D.length = lD) (lT1 : T.length = lT) (hD : ReadsI w aD D) (hT : ReadsI w aT T) (b1 : 0 ≤ (N : Int) * N) (b2 : (N : Int) * N ≤ 256) (m1 : lD = N * N) (m2 : lT = N * N) :
    Calls Try.prog 21 #[.agg #[.int .i64 N, .slice aD lD cD, .slice aT lT cT]] w fun e w' => e = .returned (.int .i64 (errC N D T)) ∧ Below w.heap.size w w' := by
  have d1 : ¬ (N : Int) < 1 := by omega
  have d2 : ¬ 16 < (N : Int) := by omega
  have HB : Hid (Below w.heap.size w (w.alloc (.cells #[.int .i64 N, .slice aD lD cD, .slice aT lT cT] 24))) := (Below.refl _ _).alloc (Nat.le_refl _) _
  have HD := Lib.hid (hD.below HB.out); have HT := Lib.hid (hT.below HB.out)
  have LD := Lib.hid lD1; have LT := Lib.hid lT1
  have M1 := Lib.hid m1; have M2 := Lib.hid m2
  clear hD hT lD1 lT1 m1 m2
  go_enter Try.func21, Try.ntmps21
  go_wp2_with fail
  clear e1 e2 d1 d2
  go_loop [3] (fun v => ∃ i : Nat, i ≤ N ∧ v = .int .i64 i ∧ UpTo N D (i * N) ∧ UpTo N T (i * N)) (fun v => N - (intOf v).toNat)
  case atStart => exact ⟨0, by omega, rfl, by rw [Nat.zero_mul]; exact UpTo.zero _ _, by rw [Nat.zero_mul]; exact UpTo.zero _ _⟩
  case round =>
    obtain ⟨i, hi, rfl, hU, hV⟩ := hrel
    have HU := Lib.hid hU; have HV := Lib.hid hV; clear hU hV
    by_cases hlt : i < N
    · have p0 : 0 ≤ (i : Int) * N := Int.mul_nonneg (by omega) (by omega)
      have pn : i * N + N ≤ N * N := by
        have : (i + 1) * N ≤ N * N := Nat.mul_le_mul_right _ (by omega)
        rw [Nat.add_mul] at this; omega
      have p1 : (i : Int) * N + N ≤ (N : Int) * N := by
        have : ((i * N + N : Nat) : Int) ≤ ((N * N : Nat) : Int) := by omega
        simpa using this
      have PN := Lib.hid pn; clear pn
      go_wp2_with fail
      go_loop [4] (fun v => ∃ j : Nat, j ≤ N ∧ v = .int .i64 j ∧ UpTo N D (i * N + j) ∧ UpTo N T (i * N + j)) (fun v => N - (intOf v).toNat)
      case atStart => exact ⟨0, by omega, rfl, HU.out, HV.out⟩
      case round =>
        obtain ⟨j, hj, rfl, hU2, hV2⟩ := hrel
        have HU2 := Lib.hid hU2; have HV2 := Lib.hid hV2; clear hU2 hV2
        by_cases hltj : j < N
        · have kD : i * N + j < D.length := by rw [LD.out, M1.out]; have := PN.out; omega
          have kT : i * N + j < T.length := by rw [LT.out, M2.out]; have := PN.out; omega
          obtain ⟨b, off, ha, hcD⟩ := HD.out (by omega)
          obtain ⟨b', off', ha', hcT⟩ := HT.out (by omega)
          subst ha ha'
          have hcD := hcD _ kD
          have hcT := hcT _ kT
          have ek : ((i : Int) * N + j).toNat = i * N + j := by
            have e : ((i * N + j : Nat) : Int) = (i : Int) * N + j := by push_cast; rfl
            rw [← e]; exact Int.toNat_natCast _
          have q1 : (i : Int) * N + j < (lD : Int) := by
            have : ((i * N + j : Nat) : Int) < (lD : Int) := by rw [← LD.out]; omega
            simpa using this
          have q2 : (i : Int) * N + j < (lT : Int) := by
            have : ((i * N + j : Nat) : Int) < (lT : Int) := by rw [← LT.out]; omega
            simpa using this
          have q0 : 0 ≤ (i : Int) * N + j := by omega
          obtain ⟨x, hx⟩ : ∃ x, at_ D (i * N + j) = x := ⟨_, rfl⟩
          obtain ⟨y, hy⟩ : ∃ y, at_ T (i * N + j) = y := ⟨_, rfl⟩
          rw [hx] at hcD; rw [hy] at hcT
          have hcD2 := hcD
          have hcT2 := hcT
          rw [← ek] at hcD2 hcT2
          have X := Lib.hid hx
          have Y := Lib.hid hy
          have KD := Lib.hid kD; have KT := Lib.hid kT; have HJ := Lib.hid hltj
          clear hx hy ek kD kT
          rcases (by omega : x < 0 ∨ (0 ≤ x ∧ y < 0) ∨ (0 ≤ x ∧ 0 ≤ y ∧ 1000000 < x) ∨ (0 ≤ x ∧ 0 ≤ y ∧ x ≤ 1000000 ∧ 1000000 < y) ∨ (0 ≤ x ∧ 0 ≤ y ∧ x ≤ 1000000 ∧ y ≤ 1000000)) with g | ⟨g1, g⟩ | ⟨g1, g2, g⟩ | ⟨g1, g2, g3, g⟩ | ⟨g1, g2, g3, g4⟩
          · have F := Lib.hid (errC_bad (T := T) (.inl ⟨KD.out, by rw [X.out]; exact not_okB HJ.out (.inl g)⟩))
            go_wp2_with fail
            go_ret
            exact ⟨ret_i64 F.out, HB.out⟩
          · have F := Lib.hid (errC_bad (D := D) (.inr ⟨KT.out, by rw [Y.out]; exact not_okB HJ.out (.inl g)⟩))
            go_wp2_with fail
            go_ret
            exact ⟨ret_i64 F.out, HB.out⟩
          · have F := Lib.hid (errC_bad (T := T) (.inl ⟨KD.out, by rw [X.out]; exact not_okB HJ.out (.inr (.inl g))⟩))
            go_wp2_with fail
            go_ret
            exact ⟨ret_i64 F.out, HB.out⟩
          · have F := Lib.hid (errC_bad (D := D) (.inr ⟨KT.out, by rw [Y.out]; exact not_okB HJ.out (.inr (.inl g))⟩))
            go_wp2_with fail
            go_ret
            exact ⟨ret_i64 F.out, HB.out⟩
          · by_cases hij : i = j
            · have hb : ((i : Int) == (j : Int)) = true := by rw [hij]; simp
              have HIJ := Lib.hid hij
              clear hij
              by_cases hx0 : x = 0
              · have hxb : (x != 0) = false := by rw [hx0]; rfl
                by_cases hy0 : y = 0
                · have hyb : (y != 0) = false := by rw [hy0]; rfl
                  have OKD := Lib.hid (show okB N (i * N + j) (at_ D (i * N + j)) = true by rw [X.out, place_okB HJ.out]; exact ⟨g1, g3, fun _ => hx0⟩)
                  have OKT := Lib.hid (show okB N (i * N + j) (at_ T (i * N + j)) = true by rw [Y.out, place_okB HJ.out]; exact ⟨g2, g4, fun _ => hy0⟩)
                  clear hx0 hy0
                  go_wp2_with fail
                  go_round
                  case rel => exact ⟨j + 1, by omega, by go_num, HU2.out.step OKD.out, HV2.out.step OKT.out⟩
                  case measure => simp [intOf]; omega
                · have hyb : (y != 0) = true := bne_iff_ne.2 hy0
                  have F := Lib.hid (errC_bad (D := D) (.inr ⟨KT.out, by rw [Y.out]; exact not_okB HJ.out (.inr (.inr ⟨HIJ.out, hy0⟩))⟩))
                  clear hx0 hy0
                  go_wp2_with fail
                  go_ret
                  exact ⟨ret_i64 F.out, HB.out⟩
              · have hxb : (x != 0) = true := bne_iff_ne.2 hx0
                have F := Lib.hid (errC_bad (T := T) (.inl ⟨KD.out, by rw [X.out]; exact not_okB HJ.out (.inr (.inr ⟨HIJ.out, hx0⟩))⟩))
                clear hx0
                go_wp2_with fail
                go_ret
                exact ⟨ret_i64 F.out, HB.out⟩
            · have hb : ((i : Int) == (j : Int)) = false := beq_eq_false_iff_ne.2 (by omega)
              have OKD := Lib.hid (show okB N (i * N + j) (at_ D (i * N + j)) = true by rw [X.out, place_okB HJ.out]; exact ⟨g1, g3, fun e => absurd e hij⟩)
              have OKT := Lib.hid (show okB N (i * N + j) (at_ T (i * N + j)) = true by rw [Y.out, place_okB HJ.out]; exact ⟨g2, g4, fun e => absurd e hij⟩)
              clear hij
              go_wp2_with fail
              go_round
              case rel => exact ⟨j + 1, by omega, by go_num, HU2.out.step OKD.out, HV2.out.step OKT.out⟩
              case measure => simp [intOf]; omega
        · obtain rfl : j = N := by omega
          have E1 := Lib.hid (show (i + 1) * j = i * j + j by rw [Nat.add_mul]; omega)
          go_wp2_with fail
          go_round
          case rel => exact ⟨i + 1, by omega, by go_num, by rw [E1.out]; exact HU2.out, by rw [E1.out]; exact HV2.out⟩
          case measure => simp [intOf]; omega
    · obtain rfl : i = N := by omega
      have F := Lib.hid (show (0 : Int) = errC i D T by
        have k1 := HU.out; have k2 := HV.out
        rw [← M1.out, ← LD.out] at k1
        rw [← M2.out, ← LT.out] at k2
        unfold errC
        rw [validB_iff.2 ⟨by omega, by omega, by rw [LD.out, M1.out]; simp, by rw [LT.out, M2.out]; simp, k1.done, k2.done⟩]; rfl)
      go_wp2_with fail
      go_ret
      exact ⟨ret_i64 F.out, HB.out⟩
end Go.Proofs.Ytakiciemkecgfaa.Area

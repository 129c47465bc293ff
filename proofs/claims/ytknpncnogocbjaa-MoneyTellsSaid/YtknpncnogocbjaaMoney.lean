/-
  The walks of money's functions: each comes to what MoneyMath says of its numbers, and changes nothing.
-/
import Derived.Test.YtknpncnogocbjaaProg
import Derived.Test.YtknpncnogocbjaaMoneyMath
import Derived.WalkKit
import Derived.WalkLawsBesides
import Derived.WalkSpells
import Derived.Lib.Hide
import Derived.Deep.QuietTactic
import Derived.BigQuiet
namespace Go.Proofs.Ytknpncnogocbjaa.Money
open Go.RowKit Go.Proofs Go.Proofs.Ytknpncnogocbjaa.MoneyMath
set_option maxRecDepth 100000

theorem may_any (a : Int) (w : World) : Calls Try.prog 26 #[.int .i64 a] w fun e w' => e = .returned (.bool (mayB a)) ∧ w = w' := by
  by_cases h : -4611686018427387903 ≤ a
  · by_cases h2 : a ≤ 4611686018427387903
    · have e : mayB a = true := by unfold mayB M; simp [h, h2]
      rw [e]
      go_enter Try.func26, Try.ntmps26
      go_wp2
      go_ret
      exact ⟨rfl, rfl⟩
    · have e : mayB a = false := by unfold mayB M; simp [h2]
      rw [e]
      go_enter Try.func26, Try.ntmps26
      go_wp2
      go_ret
      exact ⟨rfl, rfl⟩
  · have e : mayB a = false := by unfold mayB M; simp [h]
    rw [e]
    go_enter Try.func26, Try.ntmps26
    go_wp2
    go_ret
    exact ⟨rfl, rfl⟩

theorem may_yes {a : Int} (h : mayB a = true) (w : World) : Calls Try.prog 26 #[.int .i64 a] w fun e w' => e = .returned (.bool true) ∧ w = w' := by
  rw [← h]; exact may_any a w
theorem may_no {a : Int} (h : mayB a = false) (w : World) : Calls Try.prog 26 #[.int .i64 a] w fun e w' => e = .returned (.bool false) ∧ w = w' := by
  rw [← h]; exact may_any a w
theorem mayB_iff {a : Int} : mayB a = true ↔ -4611686018427387903 ≤ a ∧ a ≤ 4611686018427387903 := by
  unfold mayB M; rw [Bool.and_eq_true, decide_eq_true_eq, decide_eq_true_eq]
theorem two_ret {a b a' b' : Int} (h : a = a') (k : b = b') : Ending.returned (.tuple #[.int .i64 a, .int .i64 b]) = .returned (.tuple #[.int .i64 a', .int .i64 b']) := by rw [h, k]

theorem add_any (a b : Int) (w : World) : Calls Try.prog 18 #[.int .i64 a, .int .i64 b] w fun e w' => e = .returned (.tuple #[.int .i64 (addV a b), .int .i64 (addE a b)]) ∧ w = w' := by
  cases ha : mayB a with
  | false =>
    have H := Lib.hid ha; clear ha
    go_enter Try.func18, Try.ntmps18
    go_wp2_with (go_at_call 26; refine (may_no H.out _).mono ?_; rintro e w' ⟨rfl, rfl⟩)
    go_ret2
    exact ⟨two_ret (by simp [addV, H.out]) (by simp [addE, H.out]), rfl⟩
  | true =>
    have h1 := (mayB_iff.1 ha).1
    have h2 := (mayB_iff.1 ha).2
    have H := Lib.hid ha; clear ha
    cases hb : mayB b with
    | false =>
      have H' := Lib.hid hb; clear hb
      go_enter Try.func18, Try.ntmps18
      go_wp2_with fail
      refine (may_yes H.out _).mono ?_; rintro e w' ⟨rfl, rfl⟩
      go_wp2_with fail
      refine (may_no H'.out _).mono ?_; rintro e w' ⟨rfl, rfl⟩
      go_wp2_with fail
      go_ret2
      exact ⟨two_ret (by simp [addV, H.out, H'.out]) (by simp [addE, H.out, H'.out]), rfl⟩
    | true =>
      have h3 := (mayB_iff.1 hb).1
      have h4 := (mayB_iff.1 hb).2
      have H' := Lib.hid hb; clear hb
      cases hs : mayB (a + b) with
      | false =>
        have H2 := Lib.hid hs; clear hs
        go_enter Try.func18, Try.ntmps18
        go_wp2_with fail
        refine (may_yes H.out _).mono ?_; rintro e w' ⟨rfl, rfl⟩
        go_wp2_with fail
        refine (may_yes H'.out _).mono ?_; rintro e w' ⟨rfl, rfl⟩
        go_wp2_with fail
        refine (may_no H2.out _).mono ?_; rintro e w' ⟨rfl, rfl⟩
        go_wp2_with fail
        go_ret2
        exact ⟨two_ret (by simp [addV, H.out, H'.out, H2.out]) (by simp [addE, H.out, H'.out, H2.out]), rfl⟩
      | true =>
        have H2 := Lib.hid hs; clear hs
        go_enter Try.func18, Try.ntmps18
        go_wp2_with fail
        refine (may_yes H.out _).mono ?_; rintro e w' ⟨rfl, rfl⟩
        go_wp2_with fail
        refine (may_yes H'.out _).mono ?_; rintro e w' ⟨rfl, rfl⟩
        go_wp2_with fail
        refine (may_yes H2.out _).mono ?_; rintro e w' ⟨rfl, rfl⟩
        go_wp2_with fail
        go_ret2
        exact ⟨two_ret (by simp [addV, H.out, H'.out, H2.out]) (by simp [addE, H.out, H'.out, H2.out]), rfl⟩

theorem may_mul {a b x y : Int} (hx : x = a ∨ x = -a) (hy : y = b ∨ y = -b) (h0 : 0 ≤ x) (h1 : 0 < y) : mayB (a * b) = true ↔ x ≤ 4611686018427387903 / y := by
  rw [mayB_iff, Int.le_ediv_iff_mul_le h1]
  have hp : 0 ≤ x * y := Int.mul_nonneg h0 (by omega)
  rcases hx with rfl | rfl <;> rcases hy with rfl | rfl
  · omega
  · rw [Int.mul_neg] at hp ⊢; omega
  · rw [Int.neg_mul] at hp ⊢; omega
  · rw [Int.neg_mul_neg] at hp ⊢; omega

theorem mul_zero' {a b : Int} (ha : mayB a = true) (hb : mayB b = true) (h : a = 0 ∨ b = 0) : mulV a b = 0 ∧ mulE a b = 0 := by
  have e : a * b = 0 := by rcases h with rfl | rfl <;> simp
  have m0 : mayB 0 = true := by decide
  simp [mulV, mulE, ha, hb, e, m0]
theorem mul_yes {a b : Int} (ha : mayB a = true) (hb : mayB b = true) (h : mayB (a * b) = true) : mulV a b = a * b ∧ mulE a b = 0 := by
  simp [mulV, mulE, ha, hb, h]
theorem mul_no {a b : Int} (ha : mayB a = true) (hb : mayB b = true) (h : mayB (a * b) = false) : mulV a b = 0 ∧ mulE a b = 4 := by
  simp [mulV, mulE, ha, hb, h]

theorem mul_any (a b : Int) (w : World) : Calls Try.prog 20 #[.int .i64 a, .int .i64 b] w fun e w' => e = .returned (.tuple #[.int .i64 (mulV a b), .int .i64 (mulE a b)]) ∧ w = w' := by
  cases ha : mayB a with
  | false =>
    have H := Lib.hid ha; clear ha
    go_enter Try.func20, Try.ntmps20
    go_wp2_with (go_at_call 26; refine (may_no H.out _).mono ?_; rintro e w' ⟨rfl, rfl⟩)
    go_ret2
    exact ⟨two_ret (by simp [mulV, H.out]) (by simp [mulE, H.out]), rfl⟩
  | true =>
    have h1 := (mayB_iff.1 ha).1
    have h2 := (mayB_iff.1 ha).2
    have H := Lib.hid ha; clear ha
    cases hb : mayB b with
    | false =>
      have H' := Lib.hid hb; clear hb
      go_enter Try.func20, Try.ntmps20
      go_wp2_with fail
      refine (may_yes H.out _).mono ?_; rintro e w' ⟨rfl, rfl⟩
      go_wp2_with fail
      refine (may_no H'.out _).mono ?_; rintro e w' ⟨rfl, rfl⟩
      go_wp2_with fail
      go_ret2
      exact ⟨two_ret (by simp [mulV, H.out, H'.out]) (by simp [mulE, H.out, H'.out]), rfl⟩
    | true =>
      have h3 := (mayB_iff.1 hb).1
      have h4 := (mayB_iff.1 hb).2
      have H' := Lib.hid hb; clear hb
      by_cases ha0 : a = 0
      · obtain ⟨e1, e2⟩ := mul_zero' H.out H'.out (.inl ha0)
        have E1 := Lib.hid e1; have E2 := Lib.hid e2; clear e1 e2
        have hb0 : (a == 0) = true := beq_iff_eq.2 ha0
        clear ha0
        go_enter Try.func20, Try.ntmps20
        go_wp2_with fail
        refine (may_yes H.out _).mono ?_; rintro e w' ⟨rfl, rfl⟩
        go_wp2_with fail
        refine (may_yes H'.out _).mono ?_; rintro e w' ⟨rfl, rfl⟩
        go_wp2_with fail
        go_ret2
        exact ⟨two_ret E1.out.symm E2.out.symm, rfl⟩
      by_cases hb0 : b = 0
      · obtain ⟨e1, e2⟩ := mul_zero' H.out H'.out (.inr hb0)
        have E1 := Lib.hid e1; have E2 := Lib.hid e2; clear e1 e2
        have ha1 : (a == 0) = false := beq_eq_false_iff_ne.2 ha0
        have hb1 : (b == 0) = true := beq_iff_eq.2 hb0
        clear ha0 hb0
        go_enter Try.func20, Try.ntmps20
        go_wp2_with fail
        refine (may_yes H.out _).mono ?_; rintro e w' ⟨rfl, rfl⟩
        go_wp2_with fail
        refine (may_yes H'.out _).mono ?_; rintro e w' ⟨rfl, rfl⟩
        go_wp2_with fail
        go_ret2
        exact ⟨two_ret E1.out.symm E2.out.symm, rfl⟩
      have ha1 : (a == 0) = false := beq_eq_false_iff_ne.2 ha0
      have hb1 : (b == 0) = false := beq_eq_false_iff_ne.2 hb0
      obtain ⟨x, hx, hx0⟩ : ∃ x, (if a < -a then -a else a) = x ∧ ((x = a ∨ x = -a) ∧ 0 < x) := ⟨_, rfl, by split <;> omega⟩
      obtain ⟨y, hy, hy0⟩ : ∃ y, (if b < -b then -b else b) = y ∧ ((y = b ∨ y = -b) ∧ 0 < y) := ⟨_, rfl, by split <;> omega⟩
      obtain ⟨hx1, hx2⟩ := hx0
      obtain ⟨hy1, hy2⟩ := hy0
      have hmm := may_mul (a := a) (b := b) hx1 hy1 (by omega) hy2
      have q0 : 0 ≤ 4611686018427387903 / y := Int.ediv_nonneg (by omega) (by omega)
      have q1 : 4611686018427387903 / y ≤ 4611686018427387903 := Int.ediv_le_self _ (by omega)
      have hx3 : x ≤ 4611686018427387903 := by omega
      have hy3 : y ≤ 4611686018427387903 := by omega
      have X1 := Lib.hid hx1; have Y1 := Lib.hid hy1; clear hx1 hy1 ha0 hb0
      cases hm : mayB (a * b) with
      | true =>
        have hle : x ≤ 4611686018427387903 / y := hmm.1 hm
        have m1 := (mayB_iff.1 hm).1
        have m2 := (mayB_iff.1 hm).2
        obtain ⟨e1, e2⟩ := mul_yes H.out H'.out hm
        have E1 := Lib.hid e1; have E2 := Lib.hid e2; clear e1 e2 hm hmm
        go_enter Try.func20, Try.ntmps20
        go_wp2_with fail
        refine (may_yes H.out _).mono ?_; rintro e w' ⟨rfl, rfl⟩
        go_wp2_with fail
        refine (may_yes H'.out _).mono ?_; rintro e w' ⟨rfl, rfl⟩
        go_wp2_with fail
        go_ret2
        exact ⟨two_ret E1.out.symm E2.out.symm, rfl⟩
      | false =>
        have hgt : 4611686018427387903 / y < x := by
          apply Decidable.byContradiction; intro hc
          rw [hmm.2 (by omega)] at hm; cases hm
        obtain ⟨e1, e2⟩ := mul_no H.out H'.out hm
        have E1 := Lib.hid e1; have E2 := Lib.hid e2; clear e1 e2 hm hmm
        go_enter Try.func20, Try.ntmps20
        go_wp2_with fail
        refine (may_yes H.out _).mono ?_; rintro e w' ⟨rfl, rfl⟩
        go_wp2_with fail
        refine (may_yes H'.out _).mono ?_; rintro e w' ⟨rfl, rfl⟩
        go_wp2_with fail
        go_ret2
        exact ⟨two_ret E1.out.symm E2.out.symm, rfl⟩
end Go.Proofs.Ytknpncnogocbjaa.Money

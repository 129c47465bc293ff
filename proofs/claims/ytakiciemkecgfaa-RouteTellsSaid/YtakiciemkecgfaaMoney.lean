/-
  The walks of money's functions: each comes to what MoneyMath says of its numbers, and changes nothing.
-/
import Derived.Test.YtakiciemkecgfaaProg
import Derived.Test.YtakiciemkecgfaaMoneyMath
import Derived.WalkKit
import Derived.WalkLawsBesides
import Derived.WalkSpells
import Derived.Lib.Hide
import Derived.Deep.QuietTactic
import Derived.BigQuiet
namespace Go.Proofs.Ytakiciemkecgfaa.Money
open Go.RowKit Go.Proofs Go.Proofs.Ytakiciemkecgfaa.MoneyMath
set_option maxRecDepth 100000

theorem may_any (a : Int) (w : World) : Calls Try.prog 68 #[.int .i64 a] w fun e w' => e = .returned (.bool (mayB a)) ∧ w = w' := by
  by_cases h : -4611686018427387903 ≤ a
  · by_cases h2 : a ≤ 4611686018427387903
    · have e : mayB a = true := by unfold mayB M; simp [h, h2]
      rw [e]
      go_enter Try.func68, Try.ntmps68
      go_wp2
      go_ret
      exact ⟨rfl, rfl⟩
    · have e : mayB a = false := by unfold mayB M; simp [h2]
      rw [e]
      go_enter Try.func68, Try.ntmps68
      go_wp2
      go_ret
      exact ⟨rfl, rfl⟩
  · have e : mayB a = false := by unfold mayB M; simp [h]
    rw [e]
    go_enter Try.func68, Try.ntmps68
    go_wp2
    go_ret
    exact ⟨rfl, rfl⟩

theorem may_yes {a : Int} (h : mayB a = true) (w : World) : Calls Try.prog 68 #[.int .i64 a] w fun e w' => e = .returned (.bool true) ∧ w = w' := by
  rw [← h]; exact may_any a w
theorem may_no {a : Int} (h : mayB a = false) (w : World) : Calls Try.prog 68 #[.int .i64 a] w fun e w' => e = .returned (.bool false) ∧ w = w' := by
  rw [← h]; exact may_any a w
theorem mayB_iff {a : Int} : mayB a = true ↔ -4611686018427387903 ≤ a ∧ a ≤ 4611686018427387903 := by
  unfold mayB M; rw [Bool.and_eq_true, decide_eq_true_eq, decide_eq_true_eq]
theorem two_ret {a b a' b' : Int} (h : a = a') (k : b = b') : Ending.returned (.tuple #[.int .i64 a, .int .i64 b]) = .returned (.tuple #[.int .i64 a', .int .i64 b']) := by rw [h, k]

theorem add_any (a b : Int) (w : World) : Calls Try.prog 69 #[.int .i64 a, .int .i64 b] w fun e w' => e = .returned (.tuple #[.int .i64 (addV a b), .int .i64 (addE a b)]) ∧ w = w' := by
  cases ha : mayB a with
  | false =>
    have H := Lib.hid ha; clear ha
    go_enter Try.func69, Try.ntmps69
    go_wp2_with (go_at_call 68; refine (may_no H.out _).mono ?_; rintro e w' ⟨rfl, rfl⟩)
    go_ret2
    exact ⟨two_ret (by simp [addV, H.out]) (by simp [addE, H.out]), rfl⟩
  | true =>
    have h1 := (mayB_iff.1 ha).1
    have h2 := (mayB_iff.1 ha).2
    have H := Lib.hid ha; clear ha
    cases hb : mayB b with
    | false =>
      have H' := Lib.hid hb; clear hb
      go_enter Try.func69, Try.ntmps69
      go_wp2_with fail
      refine (may_yes H.out _).mono ?_; rintro e w' ⟨rfl, rfl⟩
      go_wp2_with fail
      refine (may_no H'.out _).mono ?_; rintro e w' ⟨rfl, rfl⟩
      go_wp2_with fail
      go_ret2
      exact ⟨two_ret (by simp [addV, H.out, H'.out]) (by simp [addE, H.out, H'.out]), rfl⟩
    | true =>
      have h3 := (mayB_iff.1 hb).1
      have h4 := (mayB_iff.1 hb).2
      have H' := Lib.hid hb; clear hb
      cases hs : mayB (a + b) with
      | false =>
        have H2 := Lib.hid hs; clear hs
        go_enter Try.func69, Try.ntmps69
        go_wp2_with fail
        refine (may_yes H.out _).mono ?_; rintro e w' ⟨rfl, rfl⟩
        go_wp2_with fail
        refine (may_yes H'.out _).mono ?_; rintro e w' ⟨rfl, rfl⟩
        go_wp2_with fail
        refine (may_no H2.out _).mono ?_; rintro e w' ⟨rfl, rfl⟩
        go_wp2_with fail
        go_ret2
        exact ⟨two_ret (by simp [addV, H.out, H'.out, H2.out]) (by simp [addE, H.out, H'.out, H2.out]), rfl⟩
      | true =>
        have H2 := Lib.hid hs; clear hs
        go_enter Try.func69, Try.ntmps69
        go_wp2_with fail
        refine (may_yes H.out _).mono ?_; rintro e w' ⟨rfl, rfl⟩
        go_wp2_with fail
        refine (may_yes H'.out _).mono ?_; rintro e w' ⟨rfl, rfl⟩
        go_wp2_with fail
        refine (may_yes H2.out _).mono ?_; rintro e w' ⟨rfl, rfl⟩
        go_wp2_with fail
        go_ret2
        exact ⟨two_ret (by simp [addV, H.out, H'.out, H2.out]) (by simp [addE, H.out, H'.out, H2.out]), rfl⟩

end Go.Proofs.Ytakiciemkecgfaa.Money

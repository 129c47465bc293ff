/-
  The walks of the document's May, Add and Mul: the same numbers as money's.
-/
import Derived.Test.YtknpncnogocbjaaBack
namespace Go.Proofs.Ytknpncnogocbjaa.Money
open Go.RowKit Go.Proofs Go.Proofs.Ytknpncnogocbjaa.MoneyMath
set_option maxRecDepth 100000
set_option linter.unusedVariables false

theorem rmay_any (a : Int) (w : World) : Calls Try.prog 27 #[.int .i64 a] w fun e w' => e = .returned (.bool (mayB a)) ∧ w = w' := by
  by_cases h : -4611686018427387903 ≤ a
  · by_cases h2 : a ≤ 4611686018427387903
    · have e : mayB a = true := by unfold mayB M; simp [h, h2]
      rw [e]
      go_enter Try.func27, Try.ntmps27
      go_wp2
      go_ret
      exact ⟨rfl, rfl⟩
    · have e : mayB a = false := by unfold mayB M; simp [h2]
      rw [e]
      go_enter Try.func27, Try.ntmps27
      go_wp2
      go_ret
      exact ⟨rfl, rfl⟩
  · have e : mayB a = false := by unfold mayB M; simp [h]
    rw [e]
    go_enter Try.func27, Try.ntmps27
    go_wp2
    go_ret
    exact ⟨rfl, rfl⟩
theorem rmay_yes {a : Int} (h : mayB a = true) (w : World) : Calls Try.prog 27 #[.int .i64 a] w fun e w' => e = .returned (.bool true) ∧ w = w' := by
  rw [← h]; exact rmay_any a w
theorem rmay_no {a : Int} (h : mayB a = false) (w : World) : Calls Try.prog 27 #[.int .i64 a] w fun e w' => e = .returned (.bool false) ∧ w = w' := by
  rw [← h]; exact rmay_any a w

theorem radd_any (a b : Int) (w : World) : Calls Try.prog 19 #[.int .i64 a, .int .i64 b] w fun e w' => e = .returned (.tuple #[.int .i64 (addV a b), .int .i64 (addE a b)]) ∧ w = w' := by
  cases ha : mayB a with
  | false =>
    have H := Lib.hid ha; clear ha
    go_enter Try.func19, Try.ntmps19
    go_wp2_with (go_at_call 27; refine (rmay_no H.out _).mono ?_; rintro e w' ⟨rfl, rfl⟩)
    go_ret2
    exact ⟨two_ret (by simp [addV, H.out]) (by simp [addE, H.out]), rfl⟩
  | true =>
    have h1 := (mayB_iff.1 ha).1
    have h2 := (mayB_iff.1 ha).2
    have H := Lib.hid ha; clear ha
    cases hb : mayB b with
    | false =>
      have H' := Lib.hid hb; clear hb
      go_enter Try.func19, Try.ntmps19
      go_wp2_with fail
      refine (rmay_yes H.out _).mono ?_; rintro e w' ⟨rfl, rfl⟩
      go_wp2_with fail
      refine (rmay_no H'.out _).mono ?_; rintro e w' ⟨rfl, rfl⟩
      go_wp2_with fail
      go_ret2
      exact ⟨two_ret (by simp [addV, H.out, H'.out]) (by simp [addE, H.out, H'.out]), rfl⟩
    | true =>
      have h3 := (mayB_iff.1 hb).1
      have h4 := (mayB_iff.1 hb).2
      have H' := Lib.hid hb; clear hb
      have H2 : Hid ((addV a b = if -4611686018427387903 ≤ a + b ∧ a + b ≤ 4611686018427387903 then a + b else 0) ∧ (addE a b = if -4611686018427387903 ≤ a + b ∧ a + b ≤ 4611686018427387903 then 0 else 4)) := by
        have hd : mayB (a + b) = decide (-4611686018427387903 ≤ a + b ∧ a + b ≤ 4611686018427387903) := by
          rw [Bool.eq_iff_iff, mayB_iff, decide_eq_true_eq]
        unfold addV addE
        rw [H.out, H'.out, hd]
        exact ⟨by simp, by simp⟩
      rcases (by omega : (0 < b ∧ 4611686018427387903 - b < a) ∨ (0 < b ∧ a ≤ 4611686018427387903 - b) ∨ (b < 0 ∧ a < -4611686018427387903 - b) ∨ (b < 0 ∧ -4611686018427387903 - b ≤ a) ∨ (b ≤ 0 ∧ 0 ≤ b)) with ⟨g1, g2⟩ | ⟨g1, g2⟩ | ⟨g1, g2⟩ | ⟨g1, g2⟩ | ⟨g1, g2⟩
      all_goals
        go_enter Try.func19, Try.ntmps19
        go_wp2_with fail
        refine (rmay_yes H.out _).mono ?_; rintro e w' ⟨rfl, rfl⟩
        go_wp2_with fail
        refine (rmay_yes H'.out _).mono ?_; rintro e w' ⟨rfl, rfl⟩
        go_wp2_with fail
        go_ret2
        first
          | exact ⟨two_ret (by rw [H2.out.1, if_pos (by omega)]) (by rw [H2.out.2, if_pos (by omega)]), rfl⟩
          | exact ⟨two_ret (by rw [H2.out.1, if_neg (by omega)]) (by rw [H2.out.2, if_neg (by omega)]), rfl⟩
end Go.Proofs.Ytknpncnogocbjaa.Money

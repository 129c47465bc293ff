/-
  The walk of the reference's Sum (layer 1), with May and Add.
-/
import Derived.Test.YtakiciemkecgfaaSum
namespace Go.Proofs.Ytakiciemkecgfaa.Money
open Go.RowKit Go.Proofs Go.Proofs.Ytakiciemkecgfaa.MoneyMath
set_option maxRecDepth 100000
set_option linter.unusedVariables false

theorem rmay_any (a : Int) (w : World) : Calls Try.prog 70 #[.int .i64 a] w fun e w' => e = .returned (.bool (mayB a)) ∧ w = w' := by
  by_cases h : -4611686018427387903 ≤ a
  · by_cases h2 : a ≤ 4611686018427387903
    · have e : mayB a = true := by unfold mayB M; simp [h, h2]
      rw [e]
      go_enter Try.func70, Try.ntmps70
      go_wp2
      go_ret
      exact ⟨rfl, rfl⟩
    · have e : mayB a = false := by unfold mayB M; simp [h2]
      rw [e]
      go_enter Try.func70, Try.ntmps70
      go_wp2
      go_ret
      exact ⟨rfl, rfl⟩
  · have e : mayB a = false := by unfold mayB M; simp [h]
    rw [e]
    go_enter Try.func70, Try.ntmps70
    go_wp2
    go_ret
    exact ⟨rfl, rfl⟩
theorem rmay_yes {a : Int} (h : mayB a = true) (w : World) : Calls Try.prog 70 #[.int .i64 a] w fun e w' => e = .returned (.bool true) ∧ w = w' := by
  rw [← h]; exact rmay_any a w
theorem rmay_no {a : Int} (h : mayB a = false) (w : World) : Calls Try.prog 70 #[.int .i64 a] w fun e w' => e = .returned (.bool false) ∧ w = w' := by
  rw [← h]; exact rmay_any a w

theorem radd_any (a b : Int) (w : World) : Calls Try.prog 71 #[.int .i64 a, .int .i64 b] w fun e w' => e = .returned (.tuple #[.int .i64 (addV a b), .int .i64 (addE a b)]) ∧ w = w' := by
  cases ha : mayB a with
  | false =>
    have H := Lib.hid ha; clear ha
    go_enter Try.func71, Try.ntmps71
    go_wp2_with (go_at_call 70; refine (rmay_no H.out _).mono ?_; rintro e w' ⟨rfl, rfl⟩)
    go_ret2
    exact ⟨two_ret (by simp [addV, H.out]) (by simp [addE, H.out]), rfl⟩
  | true =>
    have h1 := (mayB_iff.1 ha).1
    have h2 := (mayB_iff.1 ha).2
    have H := Lib.hid ha; clear ha
    cases hb : mayB b with
    | false =>
      have H' := Lib.hid hb; clear hb
      go_enter Try.func71, Try.ntmps71
      go_wp2_with fail
      refine (rmay_yes H.out _).mono ?_; rintro e w' ⟨rfl, rfl⟩
      go_wp2_with fail
      refine (rmay_no H'.out _).mono ?_; rintro e w' ⟨rfl, rfl⟩
      go_wp2_with fail
      go_ret2
      exact ⟨two_ret (by simp [addV, H.out, H'.out]) (by simp [addE, H.out, H'.out]), rfl⟩
    | true =>
      have h3 := (mayB_iff.1 hb).1
      have h4 := (mayB_iff.1 hb).2
      have H' := Lib.hid hb; clear hb
      have H2 : Hid ((addV a b = if -4611686018427387903 ≤ a + b ∧ a + b ≤ 4611686018427387903 then a + b else 0) ∧ (addE a b = if -4611686018427387903 ≤ a + b ∧ a + b ≤ 4611686018427387903 then 0 else 4)) := by
        have hd : mayB (a + b) = decide (-4611686018427387903 ≤ a + b ∧ a + b ≤ 4611686018427387903) := by
          rw [Bool.eq_iff_iff, mayB_iff, decide_eq_true_eq]
        unfold addV addE
        rw [H.out, H'.out, hd]
        exact ⟨by simp, by simp⟩
      rcases (by omega : (0 < b ∧ 4611686018427387903 - b < a) ∨ (0 < b ∧ a ≤ 4611686018427387903 - b) ∨ (b < 0 ∧ a < -4611686018427387903 - b) ∨ (b < 0 ∧ -4611686018427387903 - b ≤ a) ∨ (b ≤ 0 ∧ 0 ≤ b)) with ⟨g1, g2⟩ | ⟨g1, g2⟩ | ⟨g1, g2⟩ | ⟨g1, g2⟩ | ⟨g1, g2⟩
      all_goals
        go_enter Try.func71, Try.ntmps71
        go_wp2_with fail
        refine (rmay_yes H.out _).mono ?_; rintro e w' ⟨rfl, rfl⟩
        go_wp2_with fail
        refine (rmay_yes H'.out _).mono ?_; rintro e w' ⟨rfl, rfl⟩
        go_wp2_with fail
        go_ret2
        first
          | exact ⟨two_ret (by rw [H2.out.1, if_pos (by omega)]) (by rw [H2.out.2, if_pos (by omega)]), rfl⟩
          | exact ⟨two_ret (by rw [H2.out.1, if_neg (by omega)]) (by rw [H2.out.2, if_neg (by omega)]), rfl⟩

set_option maxHeartbeats 400000 in
theorem rsum_any (a : Option Addr) (cap : Nat) (l : List Int) (w : World) (hr : ReadsI w a l) (hl : l.length ≤ 9223372036854775807) :
    Calls Try.prog 50 #[.slice a l.length cap] w fun e w' => e = .returned (.tuple #[.int .i64 (sumP l).1, .int .i64 (sumP l).2]) ∧ w = w' := by
  have HR := Lib.hid hr; clear hr
  obtain ⟨n, hn⟩ : ∃ n, l.length = n := ⟨_, rfl⟩
  rw [hn] at hl ⊢
  have HN := Lib.hid hn; clear hn
  go_enter Try.func50, Try.ntmps50
  go_wp2_with fail
  go_loop [4] (fun i => ∃ (k : Nat), k ≤ n ∧ i = .int .i64 k ∧ AllMay l k) (fun i => n - (intOf i).toNat)
  case atStart => exact ⟨0, by omega, rfl, AllMay.zero l⟩
  case round =>
    obtain ⟨k, hk, rfl, hA⟩ := hrel
    have HA := Lib.hid hA; clear hA
    by_cases hlt : k < n
    · obtain ⟨b, off, ha, hc⟩ := HR.out (by rw [HN.out]; omega)
      subst ha
      have hcell := hc k (by rw [HN.out]; omega)
      clear hc
      cases hm : mayB (at_ l k) with
      | true =>
        have HM := Lib.hid hm; clear hm
        go_wp2_with fail
        refine (rmay_yes HM.out _).mono ?_; rintro e w' ⟨rfl, rfl⟩
        go_wp2_with fail
        go_round
        case rel => exact ⟨k + 1, by omega, by go_num, HA.out.step (by rw [HN.out]; omega) HM.out⟩
        case measure => simp [intOf]; omega
      | false =>
        have HM := Lib.hid hm; clear hm
        go_wp2_with fail
        refine (rmay_no HM.out _).mono ?_; rintro e w' ⟨rfl, rfl⟩
        go_wp2_with fail
        go_ret2
        exact ⟨pair_ret (AllMay.bad (by rw [HN.out]; omega) HM.out), rfl⟩
    · obtain rfl : k = n := by omega
      go_wp2_with fail
      go_loop [5, 6] (fun u i => ∃ (j : Nat) (acc : Int), j ≤ k ∧ i = .int .i64 j ∧ u = .int .i64 acc ∧ Folded l j acc) (fun _ i => k - (intOf i).toNat)
      case atStart => exact ⟨0, 0, by omega, rfl, rfl, Folded.start (by have := HA.out; rw [← HN.out] at this; exact this)⟩
      case round =>
        obtain ⟨j, acc, hj, rfl, rfl, hF⟩ := hrel
        have HF := Lib.hid hF; clear hF
        by_cases hlt2 : j < k
        · obtain ⟨b, off, ha, hc⟩ := HR.out (by rw [HN.out]; omega)
          subst ha
          have hcell := hc j (by rw [HN.out]; omega)
          clear hc
          by_cases he : addE acc (at_ l j) = 0
          · have hb : (addE acc (at_ l j) != 0) = false := by rw [he]; rfl
            have HE := Lib.hid he; clear he
            go_wp2_with fail
            refine (radd_any _ _ _).mono ?_; rintro e w' ⟨rfl, rfl⟩
            go_wp2_with fail
            go_round
            case rel => exact ⟨j + 1, _, by omega, by go_num, rfl, HF.out.step (by rw [HN.out]; omega) HE.out⟩
            case measure => simp [intOf]; omega
          · have hb : (addE acc (at_ l j) != 0) = true := bne_iff_ne.2 he
            have HE := Lib.hid he; clear he
            go_wp2_with fail
            refine (radd_any _ _ _).mono ?_; rintro e w' ⟨rfl, rfl⟩
            go_wp2_with fail
            go_ret2
            exact ⟨pair_ret (HF.out.bad (by rw [HN.out]; omega) HE.out), rfl⟩
        · obtain rfl : j = k := by omega
          go_wp2_with fail
          go_ret2
          exact ⟨pair_ret (Folded.done (by have := HF.out; rw [← HN.out] at this; exact this)), rfl⟩
end Go.Proofs.Ytakiciemkecgfaa.Money

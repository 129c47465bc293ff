/-
  The walk of money's Sum: what MoneyMath's sumP says of the list, nothing changed.
-/
import Derived.Test.YtakiciemkecgfaaMoney
namespace Go.Proofs.Ytakiciemkecgfaa.Money
open Go.RowKit Go.Proofs Go.Proofs.Ytakiciemkecgfaa.MoneyMath
set_option maxRecDepth 100000

/-- A slice of numbers that is read: nil, empty or not. -/
def ReadsI (w : World) (a : Option Addr) (l : List Int) : Prop :=
  0 < l.length → ∃ b off, a = some ⟨b, off, none⟩ ∧ ∀ k, k < l.length → w.cell? ⟨b, off + k, none⟩ = some (.int .i64 (at_ l k))

theorem pair_ret {p : Int × Int} {a b : Int} (h : p = (a, b)) : Ending.returned (.tuple #[.int .i64 a, .int .i64 b]) = .returned (.tuple #[.int .i64 p.1, .int .i64 p.2]) := by rw [h]

set_option maxHeartbeats 400000 in
theorem sum_any (a : Option Addr) (cap : Nat) (l : List Int) (w : World) (hr : ReadsI w a l) (hl : l.length ≤ 9223372036854775807) :
    Calls Try.prog 49 #[.slice a l.length cap] w fun e w' => e = .returned (.tuple #[.int .i64 (sumP l).1, .int .i64 (sumP l).2]) ∧ w = w' := by
  have HR := Lib.hid hr; clear hr
  obtain ⟨n, hn⟩ : ∃ n, l.length = n := ⟨_, rfl⟩
  rw [hn] at hl ⊢
  have HN := Lib.hid hn; clear hn
  go_enter Try.func49, Try.ntmps49
  go_wp2_with fail
  go_loop [13] (fun i => ∃ (k : Nat), k ≤ n ∧ i = .int .i64 k ∧ AllMay l k) (fun i => n - (intOf i).toNat)
  case atStart => exact ⟨0, by omega, rfl, AllMay.zero l⟩
  case round =>
    obtain ⟨k, hk, rfl, hA⟩ := hrel
    have HA := Lib.hid hA; clear hA
    by_cases hlt : k < n
    · obtain ⟨b, off, ha, hc⟩ := HR.out (by rw [HN.out]; omega)
      subst ha
      have hcell := hc k (by rw [HN.out]; omega)
      clear hc
      cases hm : mayB (at_ l k) with
      | true =>
        have HM := Lib.hid hm; clear hm
        go_wp2_with fail
        refine (may_yes HM.out _).mono ?_; rintro e w' ⟨rfl, rfl⟩
        go_wp2_with fail
        go_round
        case rel => exact ⟨k + 1, by omega, by go_num, HA.out.step (by rw [HN.out]; omega) HM.out⟩
        case measure => simp [intOf]; omega
      | false =>
        have HM := Lib.hid hm; clear hm
        go_wp2_with fail
        refine (may_no HM.out _).mono ?_; rintro e w' ⟨rfl, rfl⟩
        go_wp2_with fail
        go_ret2
        exact ⟨pair_ret (AllMay.bad (by rw [HN.out]; omega) HM.out), rfl⟩
    · obtain rfl : k = n := by omega
      go_wp2_with fail
      go_loop [6, 23] (fun u i => ∃ (j : Nat) (acc : Int), j ≤ k ∧ i = .int .i64 j ∧ u = .int .i64 acc ∧ Folded l j acc) (fun _ i => k - (intOf i).toNat)
      case atStart => exact ⟨0, 0, by omega, rfl, rfl, Folded.start (by have := HA.out; rw [← HN.out] at this; exact this)⟩
      case round =>
        obtain ⟨j, acc, hj, rfl, rfl, hF⟩ := hrel
        have HF := Lib.hid hF; clear hF
        by_cases hlt2 : j < k
        · obtain ⟨b, off, ha, hc⟩ := HR.out (by rw [HN.out]; omega)
          subst ha
          have hcell := hc j (by rw [HN.out]; omega)
          clear hc
          by_cases he : addE acc (at_ l j) = 0
          · have hb : (addE acc (at_ l j) != 0) = false := by rw [he]; rfl
            have HE := Lib.hid he; clear he
            go_wp2_with fail
            refine (add_any _ _ _).mono ?_; rintro e w' ⟨rfl, rfl⟩
            go_wp2_with fail
            go_round
            case rel => exact ⟨j + 1, _, by omega, by go_num, rfl, HF.out.step (by rw [HN.out]; omega) HE.out⟩
            case measure => simp [intOf]; omega
          · have hb : (addE acc (at_ l j) != 0) = true := bne_iff_ne.2 he
            have HE := Lib.hid he; clear he
            go_wp2_with fail
            refine (add_any _ _ _).mono ?_; rintro e w' ⟨rfl, rfl⟩
            go_wp2_with fail
            go_ret2
            exact ⟨pair_ret (HF.out.bad (by rw [HN.out]; omega) HE.out), rfl⟩
        · obtain rfl : j = k := by omega
          go_wp2_with fail
          go_ret2
          exact ⟨pair_ret (Folded.done (by have := HF.out; rw [← HN.out] at this; exact this)), rfl⟩
end Go.Proofs.Ytakiciemkecgfaa.Money

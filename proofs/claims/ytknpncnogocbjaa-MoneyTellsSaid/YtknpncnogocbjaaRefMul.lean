/-
  The walk of the document's Mul: the same product, or the same error, as money's.
-/
import Derived.Test.YtknpncnogocbjaaRefMoney
namespace Go.Proofs.Ytknpncnogocbjaa.Money
open Go.RowKit Go.Proofs Go.Proofs.Ytknpncnogocbjaa.MoneyMath
set_option maxRecDepth 100000
set_option linter.unusedVariables false

/-- What the loop keeps: the sum so far and what is still to be added are the product, or both are too great. -/
def Sat (P n x y : Int) : Prop := n + x * y = P ∨ (4611686018427387903 < n + x * y ∧ 4611686018427387903 < P)
theorem Sat.done {P n x : Int} (h : Sat P n x 0) (hn : n ≤ 4611686018427387903) : n = P := by
  unfold Sat at h; rw [Int.mul_zero] at h; omega
theorem Sat.over {P n x y : Int} (h : Sat P n x y) (hn : 0 ≤ n) (hx : 0 ≤ x) (hy : 0 < y) (h2 : 4611686018427387903 < n + x) : 4611686018427387903 < P := by
  have : x * 1 ≤ x * y := Int.mul_le_mul_of_nonneg_left (by omega) hx
  unfold Sat at h; omega
theorem Sat.odd {P n x y : Int} (h : Sat P n x y) (ho : y % 2 = 1) : Sat P (n + x) (2 * x) (y / 2) := by
  have e : x * y = x + 2 * x * (y / 2) := by
    have hy : y = 1 + 2 * (y / 2) := by omega
    conv => lhs; rw [hy]
    rw [Int.mul_add, Int.mul_one, Int.mul_comm 2 x, Int.mul_assoc]
  unfold Sat at *; rw [e] at h; omega
theorem Sat.even {P n x y : Int} (h : Sat P n x y) (ho : ¬ y % 2 = 1) : Sat P n (2 * x) (y / 2) := by
  have e : x * y = 2 * x * (y / 2) := by
    have hy : y = 2 * (y / 2) := by omega
    conv => lhs; rw [hy]
    rw [Int.mul_comm 2 x, Int.mul_assoc]
  unfold Sat at *; rw [e] at h; omega
theorem Sat.cut {P n x y : Int} (h : Sat P n x y) (hn : 0 ≤ n) (hy : 0 < y) (hx : 4611686018427387904 ≤ x) : Sat P n 4611686018427387904 y := by
  have hp := h.over hn (by omega) hy (by omega)
  have : (4611686018427387904 : Int) * 1 ≤ 4611686018427387904 * y := Int.mul_le_mul_of_nonneg_left (by omega) (by omega)
  unfold Sat; omega
theorem Sat.nil {P n x x' : Int} (h : Sat P n x 0) : Sat P n x' 0 := by
  unfold Sat at *; rw [Int.mul_zero] at *; exact h
theorem Sat.zero {P n y y' : Int} (h : Sat P n 0 y) : Sat P n 0 y' := by
  unfold Sat at *; rw [Int.zero_mul] at *; exact h

theorem Sat.noX {P n x y : Int} (h : Sat P n (2 * x) y) (h0 : 0 ≤ x) (h1 : ¬ 0 < x) : Sat P n x y := by
  have e : x = 0 := by omega
  rw [e] at h ⊢; exact h
theorem Sat.noY {P n x x' y : Int} (h : Sat P n x y) (h0 : 0 ≤ y) (h1 : ¬ 0 < y) : Sat P n x' y := by
  have e : y = 0 := by omega
  rw [e] at h ⊢; exact h.nil
theorem Sat.over0 {P n x y : Int} (h : Sat P n x y) (hn : n ≤ 4611686018427387903) (e : y = 0) : n = P := by
  rw [e] at h; exact h.done hn

/-- the product out of its size and its sign -/
theorem mul_sign {a b x y : Int} (ha : mayB a = true) (hb : mayB b = true) (nb : Bool) (h0 : 0 ≤ x) (h1 : 0 ≤ y)
    (hm : a * b = if nb = true then x * y else -(x * y)) :
    (x * y ≤ 4611686018427387903 → mulV a b = (if nb = true then x * y else -(x * y)) ∧ mulE a b = 0) ∧ (4611686018427387903 < x * y → mulV a b = 0 ∧ mulE a b = 4) := by
  have hp : 0 ≤ x * y := Int.mul_nonneg h0 h1
  constructor
  · intro h
    have : mayB (a * b) = true := by rw [mayB_iff, hm]; split <;> omega
    rw [← hm]; exact mul_yes ha hb this
  · intro h
    have : mayB (a * b) = false := by
      rw [← Bool.not_eq_true, mayB_iff, hm]; split <;> omega
    exact mul_no ha hb this

theorem sign_of (a b : Int) : a * b = if (decide (a < 0) == decide (b < 0)) = true then (if a < -a then -a else a) * (if b < -b then -b else b) else -((if a < -a then -a else a) * (if b < -b then -b else b)) := by
  by_cases ha : a < 0 <;> by_cases hb : b < 0
  · rw [if_pos (show a < -a by omega), if_pos (show b < -b by omega)]; simp [ha, hb, Int.neg_mul_neg]
  · rw [if_pos (show a < -a by omega), if_neg (show ¬ b < -b by omega)]; simp [ha, hb, Int.neg_mul]
  · rw [if_neg (show ¬ a < -a by omega), if_pos (show b < -b by omega)]; simp [ha, hb, Int.mul_neg]
  · rw [if_neg (show ¬ a < -a by omega), if_neg (show ¬ b < -b by omega)]; simp [ha, hb]

def MulPost (x0 y0 : Int) (nb : Bool) (e : Ending) : Prop :=
  (x0 * y0 ≤ 4611686018427387903 ∧ e = .returned (.tuple #[.int .i64 (if nb = true then x0 * y0 else -(x0 * y0)), .int .i64 0])) ∨ (4611686018427387903 < x0 * y0 ∧ e = .returned (.tuple #[.int .i64 0, .int .i64 4]))

set_option maxHeartbeats 1000000 in
theorem rmul_walk (a b x0 y0 : Int) (nb : Bool) (w : World) (ha : mayB a = true) (hb : mayB b = true)
    (hx : (if a < -a then -a else a) = x0) (hy : (if b < -b then -b else b) = y0) (hm : (decide (a < 0) == decide (b < 0)) = nb)
    (hx0 : 0 ≤ x0) (hx1 : x0 ≤ 4611686018427387903) (hy0 : 0 ≤ y0) (hy1 : y0 ≤ 4611686018427387903) :
    Calls Try.prog 21 #[.int .i64 a, .int .i64 b] w fun e w' => MulPost x0 y0 nb e ∧ w = w' := by
  have h1 := (mayB_iff.1 ha).1
  have h2 := (mayB_iff.1 ha).2
  have h3 := (mayB_iff.1 hb).1
  have h4 := (mayB_iff.1 hb).2
  have H := Lib.hid ha; clear ha
  have H' := Lib.hid hb; clear hb
  go_enter Try.func21, Try.ntmps21
  go_wp2_with fail
  refine (rmay_yes H.out _).mono ?_; rintro e w' ⟨rfl, rfl⟩
  go_wp2_with fail
  refine (rmay_yes H'.out _).mono ?_; rintro e w' ⟨rfl, rfl⟩
  go_wp2_with fail
  clear hx hy hm H H'
  go_loop [7, 8, 9] (fun u v t => ∃ (x y n : Int), u = .int .i64 x ∧ v = .int .i64 y ∧ t = .int .i64 n ∧ 0 ≤ x ∧ x ≤ 4611686018427387904 ∧ 0 ≤ y ∧ y ≤ 4611686018427387903 ∧ 0 ≤ n ∧ n ≤ 4611686018427387903 ∧ Sat (x0 * y0) n x y) (fun _ v _ => (intOf v).toNat)
  case atStart => exact ⟨x0, y0, 0, rfl, rfl, rfl, hx0, by omega, hy0, hy1, by omega, by omega, .inl (by omega)⟩
  case round =>
    obtain ⟨x, y, n, rfl, rfl, rfl, a1, a2, a3, a4, a5, a6, hS⟩ := hrel
    clear hx0 hx1 hy0 hy1 h1 h2 h3 h4
    have HS := Lib.hid hS; clear hS
    by_cases hy : 0 < y
    · by_cases ho : y % 2 = 1
      · have hob : (y % 2 == 1) = true := beq_iff_eq.2 ho
        have HO := Lib.hid ho; clear ho
        by_cases hx : 4611686018427387903 < x
        · go_wp2
          go_ret2
          exact ⟨.inr ⟨HS.out.over a5 a1 hy (by omega), rfl⟩, rfl⟩
        by_cases hn : 4611686018427387903 - x < n
        · have hx' : x ≤ 4611686018427387903 := by omega
          go_wp2
          go_ret2
          exact ⟨.inr ⟨HS.out.over a5 a1 hy (by omega), rfl⟩, rfl⟩
        have hx' : x ≤ 4611686018427387903 := by omega
        have hn' : n ≤ 4611686018427387903 - x := by omega
        have hS2 := HS.out.odd HO.out
        have HS2 := Lib.hid hS2; clear hS2 hx hn
        by_cases hy2 : 0 < y / 2
        · by_cases hx0 : 0 < x
          · by_cases hc : 4611686018427387904 < 2 * x
            · go_wp2
              go_round
              case rel => exact ⟨_, _, _, rfl, rfl, rfl, by omega, by omega, by omega, by omega, by omega, by omega, HS2.out.cut (by omega) hy2 (by omega)⟩
              case measure => simp [intOf]; omega
            · go_wp2
              go_round
              case rel => exact ⟨_, _, _, rfl, rfl, rfl, by omega, by omega, by omega, by omega, by omega, by omega, HS2.out⟩
              case measure => simp [intOf]; omega
          · go_wp2
            go_round
            case rel => exact ⟨_, _, _, rfl, rfl, rfl, by omega, by omega, by omega, by omega, by omega, by omega, HS2.out.noX a1 hx0⟩
            case measure => simp [intOf]; omega
        · go_wp2
          go_round
          case rel => exact ⟨_, _, _, rfl, rfl, rfl, by omega, by omega, by omega, by omega, by omega, by omega, HS2.out.noY (by omega) hy2⟩
          case measure => simp [intOf]; omega
      · have hob : (y % 2 == 1) = false := beq_eq_false_iff_ne.2 ho
        have hy2 : 0 < y / 2 := by omega
        have hS2 := HS.out.even ho
        have HS2 := Lib.hid hS2; clear hS2 ho
        by_cases hx : 4611686018427387903 < x
        · go_wp2
          go_round
          case rel => exact ⟨_, _, _, rfl, rfl, rfl, by omega, by omega, by omega, by omega, by omega, by omega, HS2.out.cut (by omega) hy2 (by omega)⟩
          case measure => simp [intOf]; omega
        have hx' : x ≤ 4611686018427387903 := by omega
        clear hx
        by_cases hx0 : 0 < x
        · by_cases hc : 4611686018427387904 < 2 * x
          · go_wp2
            go_round
            case rel => exact ⟨_, _, _, rfl, rfl, rfl, by omega, by omega, by omega, by omega, by omega, by omega, HS2.out.cut (by omega) hy2 (by omega)⟩
            case measure => simp [intOf]; omega
          · go_wp2
            go_round
            case rel => exact ⟨_, _, _, rfl, rfl, rfl, by omega, by omega, by omega, by omega, by omega, by omega, HS2.out⟩
            case measure => simp [intOf]; omega
        · go_wp2
          go_round
          case rel => exact ⟨_, _, _, rfl, rfl, rfl, by omega, by omega, by omega, by omega, by omega, by omega, HS2.out.noX a1 hx0⟩
          case measure => simp [intOf]; omega
    · have hz : y = 0 := by omega
      have hd := HS.out.over0 a6 hz
      have HD := Lib.hid hd; clear hd hz
      cases nb with
      | true =>
        go_wp2
        go_ret2
        exact ⟨.inl ⟨by rw [← HD.out]; exact a6, two_ret (by rw [if_pos rfl, HD.out]) rfl⟩, rfl⟩
      | false =>
        go_wp2
        go_ret2
        exact ⟨.inl ⟨by rw [← HD.out]; exact a6, two_ret (by rw [if_neg (by decide), HD.out]) rfl⟩, rfl⟩

theorem rmul_any (a b : Int) (w : World) : Calls Try.prog 21 #[.int .i64 a, .int .i64 b] w fun e w' => e = .returned (.tuple #[.int .i64 (mulV a b), .int .i64 (mulE a b)]) ∧ w = w' := by
  cases ha : mayB a with
  | false =>
    have H := Lib.hid ha; clear ha
    go_enter Try.func21, Try.ntmps21
    go_wp2_with (go_at_call 27; refine (rmay_no H.out _).mono ?_; rintro e w' ⟨rfl, rfl⟩)
    go_ret2
    exact ⟨two_ret (by simp [mulV, H.out]) (by simp [mulE, H.out]), rfl⟩
  | true =>
    cases hb : mayB b with
    | false =>
      have H := Lib.hid ha; clear ha
      have H' := Lib.hid hb; clear hb
      go_enter Try.func21, Try.ntmps21
      go_wp2_with fail
      refine (rmay_yes H.out _).mono ?_; rintro e w' ⟨rfl, rfl⟩
      go_wp2_with fail
      refine (rmay_no H'.out _).mono ?_; rintro e w' ⟨rfl, rfl⟩
      go_wp2_with fail
      go_ret2
      exact ⟨two_ret (by simp [mulV, H.out, H'.out]) (by simp [mulE, H.out, H'.out]), rfl⟩
    | true =>
      have h1 := mayB_iff.1 ha
      have h2 := mayB_iff.1 hb
      have hs := sign_of a b
      have bx : 0 ≤ (if a < -a then -a else a) ∧ (if a < -a then -a else a) ≤ 4611686018427387903 := by split <;> omega
      have bY : 0 ≤ (if b < -b then -b else b) ∧ (if b < -b then -b else b) ≤ 4611686018427387903 := by split <;> omega
      have hk := mul_sign ha hb _ bx.1 bY.1 hs
      refine (rmul_walk a b _ _ _ w ha hb rfl rfl rfl bx.1 bx.2 bY.1 bY.2).mono ?_
      rintro e w' ⟨h, hw⟩
      refine ⟨?_, hw⟩
      rcases h with ⟨g1, g2⟩ | ⟨g1, g2⟩
      · rw [g2, (hk.1 g1).1, (hk.1 g1).2]
      · rw [g2, (hk.2 g1).1, (hk.2 g1).2]
end Go.Proofs.Ytknpncnogocbjaa.Money

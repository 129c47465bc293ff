/-
  The walks of money's Share, and of the document's: each comes to the quotient and what is left.
-/
import Derived.Test.YtknpncnogocbjaaMoney
namespace Go.Proofs.Ytknpncnogocbjaa.Money
open Go.RowKit Go.Proofs Go.Proofs.Ytknpncnogocbjaa.MoneyMath
set_option maxRecDepth 100000

theorem and_one {a : Int} (h0 : 0 ≤ a) (h1 : a ≤ 4611686018427387903) : Go.bits .and .i64 a 1 = a % 2 := by
  obtain ⟨n, rfl⟩ := Int.eq_ofNat_of_zero_le h0
  have hn : n < 18446744073709551616 := by omega
  show IntKind.i64.wrap (((BitVec.ofInt 64 (n : Int) &&& BitVec.ofInt 64 1).toNat : Nat) : Int) = _
  have e : (BitVec.ofInt 64 (n : Int) &&& BitVec.ofInt 64 1).toNat = n % 2 := by
    rw [BitVec.toNat_and]
    have e1 : (BitVec.ofInt 64 (n : Int)).toNat = n := by
      rw [BitVec.ofInt_natCast, BitVec.toNat_ofNat]; exact Nat.mod_eq_of_lt hn
    have e2 : (BitVec.ofInt 64 1).toNat = 1 := by decide
    rw [e1, e2]
    exact Nat.and_two_pow_sub_one_eq_mod n 1
  rw [e]
  have h2 : n % 2 < 2 := Nat.mod_lt _ (by decide)
  rcases (by omega : n % 2 = 0 ∨ n % 2 = 1) with h | h
  · rw [h, show ((n : Int) % 2) = 0 by omega]; decide
  · rw [h, show ((n : Int) % 2) = 1 by omega]; decide

def TopBits (t p a : Int) (i : Nat) (q r : Int) : Prop := Part (t / 2 ^ (62 - i)) p a q r

theorem top_start {t p a : Int} (h0 : 0 ≤ t) (b1 : t ≤ 4611686018427387903) (h1 : 1 ≤ a) : TopBits t p a 0 0 0 := by
  unfold TopBits
  have : t / 2 ^ (62 - 0) = 0 := Int.ediv_eq_zero_of_lt h0 (by have : (2 : Int) ^ (62 - 0) = 4611686018427387904 := by decide
                                                               omega)
  rw [this]
  exact ⟨by omega, by omega, by simp⟩

theorem top_end {t p a q r : Int} (h : TopBits t p a 62 q r) : q = t * p / a ∧ r = t * p % a := by
  unfold TopBits at h
  rw [Nat.sub_self, Int.pow_zero, Int.ediv_one] at h
  exact share_unique h.1 h.2.1 h.2.2

theorem top_half {t p a q r : Int} {k : Nat} (h : TopBits t p a k q r) (hk : k < 62) (h0 : 0 ≤ t) (h2 : 0 ≤ p) (h3 : p ≤ a) : q * 2 ≤ t := by
  unfold TopBits at h
  have hT2 : 0 ≤ t / 2 ^ (62 - k) := Int.ediv_nonneg h0 (Int.le_of_lt (Int.pow_pos (by decide)))
  have hb := h.bound h2 h3 hT2
  have hbs := bits_succ t (61 - k)
  rw [show 61 - k + 1 = 62 - k by omega] at hbs
  have hT1 : t / 2 ^ (61 - k) ≤ t := Int.ediv_le_self _ h0
  omega

theorem top_way {t p a q r q' r' : Int} {k : Nat} (h : TopBits t p a k q r) (hk : k < 62) (h0 : 0 ≤ t) (b1 : t ≤ 4611686018427387903) (h2 : 0 ≤ p) (h3 : p ≤ a)
    (hw : ((Go.bits .and .i64 (t / 2 ^ (61 - k)) 1 == 0) = true ∧ (q', r') = dbl a q r) ∨ ((Go.bits .and .i64 (t / 2 ^ (61 - k)) 1 == 0) = false ∧ (q', r') = plus a p (dbl a q r).1 (dbl a q r).2)) :
    0 ≤ q' ∧ q' ≤ t ∧ 0 ≤ r' ∧ r' < a ∧ TopBits t p a (k + 1) q' r' := by
  unfold TopBits at h ⊢
  have hT0 : 0 ≤ t / 2 ^ (61 - k) := Int.ediv_nonneg h0 (Int.le_of_lt (Int.pow_pos (by decide)))
  have hT1 : t / 2 ^ (61 - k) ≤ t := Int.ediv_le_self _ h0
  have hbs := bits_succ t (61 - k)
  rw [show 61 - k + 1 = 62 - k by omega] at hbs
  rw [show 62 - (k + 1) = 61 - k by omega]
  rw [and_one hT0 (by omega)] at hw
  have key : Part (t / 2 ^ (61 - k)) p a q' r' := by
    rcases hw with ⟨hb, he⟩ | ⟨hb, he⟩
    · have hb' : t / 2 ^ (61 - k) % 2 = 0 := by simpa using hb
      rw [hbs, hb', Int.add_zero]
      have := h.dbl
      rw [← he] at this
      exact this
    · have hb' : ¬ t / 2 ^ (61 - k) % 2 = 0 := by simpa using hb
      rw [hbs, show t / 2 ^ (61 - k) % 2 = 1 by omega]
      have := h.dbl.plus h2 h3
      rw [← he] at this
      exact this
  have hb := key.bound h2 h3 hT0
  exact ⟨hb.1, by omega, key.1, key.2.1, key⟩

theorem three_ret {a b c a' b' c' : Int} (h : a = a') (k : b = b') (l : c = c') : Ending.returned (.tuple #[.int .i64 a, .int .i64 b, .int .i64 c]) = .returned (.tuple #[.int .i64 a', .int .i64 b', .int .i64 c']) := by rw [h, k, l]

set_option maxHeartbeats 400000 in
theorem share_walk (t p a : Int) (w : World) (hm1 : mayB t = true) (hm2 : mayB a = true) (h0 : 0 ≤ t) (h1 : 1 ≤ a) (h2 : 0 ≤ p) (h3 : p ≤ a) :
    Calls Try.prog 24 #[.int .i64 t, .int .i64 p, .int .i64 a] w fun e w' => e = .returned (.tuple #[.int .i64 (t * p / a), .int .i64 (t * p % a), .int .i64 0]) ∧ w = w' := by
  have b1 := (mayB_iff.1 hm1).2
  have b2 := (mayB_iff.1 hm2).2
  have H := Lib.hid hm1; have H' := Lib.hid hm2; clear hm1 hm2
  have d1 : decide (t < 0) = false := decide_eq_false (by omega)
  have d2 : decide (a < 1) = false := decide_eq_false (by omega)
  have d3 : decide (p < 0) = false := decide_eq_false (by omega)
  have d4 : decide (a < p) = false := decide_eq_false (by omega)
  go_enter Try.func24, Try.ntmps24
  go_wp2_with fail
  refine (may_yes H.out _).mono ?_; rintro e w' ⟨rfl, rfl⟩
  go_wp2_with fail
  refine (may_yes H'.out _).mono ?_; rintro e w' ⟨rfl, rfl⟩
  go_wp2_with fail
  clear d1 d2 d3 d4
  go_loop [9, 10, 37] (fun u v i => ∃ (k : Nat) (q r : Int), k ≤ 62 ∧ i = .int .i64 k ∧ u = .int .i64 q ∧ v = .int .i64 r ∧ 0 ≤ q ∧ q ≤ t ∧ 0 ≤ r ∧ r < a ∧ TopBits t p a k q r) (fun _ _ i => 62 - (intOf i).toNat)
  case atStart => exact ⟨0, 0, 0, by omega, rfl, rfl, rfl, by omega, by omega, by omega, by omega, top_start h0 b1 h1⟩
  case round =>
    obtain ⟨k, q, r, hk, rfl, rfl, rfl, hq0, hq1, hr0, hr1, hT⟩ := hrel
    by_cases hlt : k < 62
    · have hq2 := top_half hT hlt h0 h2 h3
      have HT := Lib.hid hT; clear hT
      go_wp2
      all_goals
        go_round
        case rel =>
          refine ⟨k + 1, _, _, by omega, by go_num, rfl, rfl, top_way HT.out hlt h0 b1 h2 h3 ?_⟩
          first
            | (refine .inl ⟨‹_›, ?_⟩; unfold MoneyMath.dbl; split <;> first | omega | (refine Prod.ext ?_ ?_ <;> dsimp only <;> omega))
            | (refine .inr ⟨‹_›, ?_⟩; unfold MoneyMath.plus MoneyMath.dbl; split <;> split <;> first | omega | (dsimp only at *; omega) | (refine Prod.ext ?_ ?_ <;> dsimp only <;> omega))
        case measure => simp [intOf]; omega
    · obtain rfl : k = 62 := by omega
      have HT := Lib.hid hT; clear hT
      go_wp2
      go_ret3
      exact ⟨three_ret (top_end HT.out).1 (top_end HT.out).2 rfl, rfl⟩

theorem share_bad (t p a : Int) (w : World) (h : shareOk t p a = false) :
    Calls Try.prog 24 #[.int .i64 t, .int .i64 p, .int .i64 a] w fun e w' => e = .returned (.tuple #[.int .i64 0, .int .i64 0, .int .i64 1]) ∧ w = w' := by
  cases hm1 : mayB t with
  | false =>
    have H := Lib.hid hm1; clear hm1 h
    go_enter Try.func24, Try.ntmps24
    go_wp2_with fail
    refine (may_no H.out _).mono ?_; rintro e w' ⟨rfl, rfl⟩
    go_wp2_with fail
    go_ret3
    exact ⟨rfl, rfl⟩
  | true =>
    cases hm2 : mayB a with
    | false =>
      have H := Lib.hid hm1; have H' := Lib.hid hm2; clear hm1 hm2 h
      go_enter Try.func24, Try.ntmps24
      go_wp2_with fail
      refine (may_yes H.out _).mono ?_; rintro e w' ⟨rfl, rfl⟩
      go_wp2_with fail
      refine (may_no H'.out _).mono ?_; rintro e w' ⟨rfl, rfl⟩
      go_wp2_with fail
      go_ret3
      exact ⟨rfl, rfl⟩
    | true =>
      have hbad : t < 0 ∨ (0 ≤ t ∧ (a < 1 ∨ (1 ≤ a ∧ (p < 0 ∨ (0 ≤ p ∧ a < p))))) := by
        simp only [shareOk, hm1, hm2, Bool.true_and, Bool.and_eq_false_iff, decide_eq_false_iff_not] at h
        omega
      have H := Lib.hid hm1; have H' := Lib.hid hm2; clear hm1 hm2 h
      rcases hbad with g | ⟨g0, g | ⟨g1, g | ⟨g2, g⟩⟩⟩
      all_goals
        go_enter Try.func24, Try.ntmps24
        go_wp2_with fail
        refine (may_yes H.out _).mono ?_; rintro e w' ⟨rfl, rfl⟩
        go_wp2_with fail
        refine (may_yes H'.out _).mono ?_; rintro e w' ⟨rfl, rfl⟩
        go_wp2_with fail
        go_ret3
        exact ⟨rfl, rfl⟩

theorem share_any (t p a : Int) (w : World) :
    Calls Try.prog 24 #[.int .i64 t, .int .i64 p, .int .i64 a] w fun e w' => e = .returned (.tuple #[.int .i64 (shareV t p a), .int .i64 (shareR t p a), .int .i64 (shareE t p a)]) ∧ w = w' := by
  cases h : shareOk t p a with
  | false =>
    have := share_bad t p a w h
    simpa [shareV, shareR, shareE, h] using this
  | true =>
    have hh := h
    simp only [shareOk, Bool.and_eq_true, decide_eq_true_eq] at h
    have := share_walk t p a w h.1.1.1.1.1 h.1.1.1.1.2 h.1.1.1.2 h.1.1.2 h.1.2 h.2
    simpa [shareV, shareR, shareE, hh] using this
end Go.Proofs.Ytknpncnogocbjaa.Money

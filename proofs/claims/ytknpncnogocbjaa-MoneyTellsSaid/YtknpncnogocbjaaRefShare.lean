/-
  The walks of the document's Share, which calls itself, and of its Sum.
-/
import Derived.Test.YtknpncnogocbjaaRefMul
import Derived.Test.YtknpncnogocbjaaShares
namespace Go.Proofs.Ytknpncnogocbjaa.Money
open Go.RowKit Go.Proofs Go.Proofs.Ytknpncnogocbjaa.MoneyMath
set_option maxRecDepth 100000
set_option linter.unusedVariables false

theorem half_odd {t p a q r d u e f : Int} (h : Part (t / 2) p a q r) (ho : t % 2 = 1) (ha : 0 < a) (hd : 2 * r / a = d) (hu : 2 * r % a = u) (he : (p + u) / a = e) (hf : (p + u) % a = f) :
    2 * q + e + d = t * p / a ∧ f = t * p % a := by
  obtain ⟨h0, h1, h2⟩ := h
  have e1 := Int.mul_ediv_add_emod (2 * r) a
  have e2 := Int.mul_ediv_add_emod (p + u) a
  rw [hd, hu] at e1
  rw [he, hf] at e2
  have f0 : 0 ≤ f := by rw [← hf]; exact Int.emod_nonneg _ (by omega)
  have f1 : f < a := by rw [← hf]; exact Int.emod_lt_of_pos _ ha
  refine share_unique f0 f1 ?_
  have ht : t * p = 2 * (t / 2 * p) + p := by
    have : t = 2 * (t / 2) + 1 := by omega
    conv => lhs; rw [this]
    rw [Int.add_mul, Int.one_mul, Int.mul_assoc]
  rw [ht, ← h2, Int.add_mul, Int.add_mul, Int.mul_assoc, Int.mul_comm e a, Int.mul_comm d a]
  omega

theorem half_even {t p a q r d u : Int} (h : Part (t / 2) p a q r) (ho : ¬ t % 2 = 1) (ha : 0 < a) (hd : 2 * r / a = d) (hu : 2 * r % a = u) :
    2 * q + d = t * p / a ∧ u = t * p % a := by
  obtain ⟨h0, h1, h2⟩ := h
  have e1 := Int.mul_ediv_add_emod (2 * r) a
  rw [hd, hu] at e1
  have f0 : 0 ≤ u := by rw [← hu]; exact Int.emod_nonneg _ (by omega)
  have f1 : u < a := by rw [← hu]; exact Int.emod_lt_of_pos _ ha
  refine share_unique f0 f1 ?_
  have ht : t * p = 2 * (t / 2 * p) := by
    have : t = 2 * (t / 2) := by omega
    conv => lhs; rw [this]
    rw [Int.mul_assoc]
  rw [ht, ← h2, Int.add_mul, Int.mul_assoc, Int.mul_comm d a]
  omega

def RTriple (t p a q r e : Int) : Prop := ∀ w, Calls Try.prog 25 #[.int .i64 t, .int .i64 p, .int .i64 a] w fun x w' => x = .returned (.tuple #[.int .i64 q, .int .i64 r, .int .i64 e]) ∧ w = w'

theorem rshare_bad (t p a : Int) (h : shareOk t p a = false) : RTriple t p a 0 0 1 := by
  intro w
  cases hm1 : mayB t with
  | false =>
    have H := Lib.hid hm1; clear hm1 h
    go_enter Try.func25, Try.ntmps25
    go_wp2_with fail
    refine (rmay_no H.out _).mono ?_; rintro e w' ⟨rfl, rfl⟩
    go_wp2_with fail
    go_ret3
    exact ⟨rfl, rfl⟩
  | true =>
    cases hm2 : mayB a with
    | false =>
      have H := Lib.hid hm1; have H' := Lib.hid hm2; clear hm1 hm2 h
      go_enter Try.func25, Try.ntmps25
      go_wp2_with fail
      refine (rmay_yes H.out _).mono ?_; rintro e w' ⟨rfl, rfl⟩
      go_wp2_with fail
      refine (rmay_no H'.out _).mono ?_; rintro e w' ⟨rfl, rfl⟩
      go_wp2_with fail
      go_ret3
      exact ⟨rfl, rfl⟩
    | true =>
      have hbad : t < 0 ∨ (0 ≤ t ∧ (a < 1 ∨ (1 ≤ a ∧ (p < 0 ∨ (0 ≤ p ∧ a < p))))) := by
        simp only [shareOk, hm1, hm2, Bool.true_and, Bool.and_eq_false_iff, decide_eq_false_iff_not] at h
        omega
      have H := Lib.hid hm1; have H' := Lib.hid hm2; clear hm1 hm2 h
      rcases hbad with g | ⟨g0, g | ⟨g1, g | ⟨g2, g⟩⟩⟩
      all_goals
        go_enter Try.func25, Try.ntmps25
        go_wp2_with fail
        refine (rmay_yes H.out _).mono ?_; rintro e w' ⟨rfl, rfl⟩
        go_wp2_with fail
        refine (rmay_yes H'.out _).mono ?_; rintro e w' ⟨rfl, rfl⟩
        go_wp2_with fail
        go_ret3
        exact ⟨rfl, rfl⟩

theorem rshare_zero (p a : Int) (hm2 : mayB a = true) (h1 : 1 ≤ a) (h2 : 0 ≤ p) (h3 : p ≤ a) : RTriple 0 p a 0 0 0 := by
  intro w
  have b2 := (mayB_iff.1 hm2).2
  have H := Lib.hid (show mayB 0 = true by decide)
  have H' := Lib.hid hm2; clear hm2
  go_enter Try.func25, Try.ntmps25
  go_wp2_with fail
  refine (rmay_yes H.out _).mono ?_; rintro e w' ⟨rfl, rfl⟩
  go_wp2_with fail
  refine (rmay_yes H'.out _).mono ?_; rintro e w' ⟨rfl, rfl⟩
  go_wp2_with fail
  go_ret3
  exact ⟨rfl, rfl⟩

set_option maxHeartbeats 400000 in
theorem rshare_step (t p a q r : Int) (hm1 : mayB t = true) (hm2 : mayB a = true) (h0 : 0 < t) (h1 : 1 ≤ a) (h2 : 0 ≤ p) (h3 : p ≤ a) (hT : RTriple (t / 2) p a q r 0) (hP : Part (t / 2) p a q r) :
    RTriple t p a (t * p / a) (t * p % a) 0 := by
  intro w
  have b1 := (mayB_iff.1 hm1).2
  have b2 := (mayB_iff.1 hm2).2
  have hq := hP.bound h2 h3 (by omega)
  have r0 := hP.1
  have r1 := hP.2.1
  obtain ⟨q0, q1⟩ := hq
  have H := Lib.hid hm1; have H' := Lib.hid hm2; clear hm1 hm2
  have HP := Lib.hid hP; clear hP
  obtain ⟨d, hd⟩ : ∃ d, 2 * r / a = d := ⟨_, rfl⟩
  obtain ⟨u, hu⟩ : ∃ u, 2 * r % a = u := ⟨_, rfl⟩
  obtain ⟨e, he⟩ : ∃ e, (p + u) / a = e := ⟨_, rfl⟩
  obtain ⟨f, hf⟩ : ∃ f, (p + u) % a = f := ⟨_, rfl⟩
  have u0 : 0 ≤ u := by rw [← hu]; exact Int.emod_nonneg _ (by omega)
  have u1 : u < a := by rw [← hu]; exact Int.emod_lt_of_pos _ (by omega)
  have d0 : 0 ≤ d := by rw [← hd]; exact Int.ediv_nonneg (by omega) (by omega)
  have d1 : d ≤ 1 := by rw [← hd]; have : 2 * r / a < 2 := Int.ediv_lt_of_lt_mul (by omega) (by omega); omega
  have e0 : 0 ≤ e := by rw [← he]; exact Int.ediv_nonneg (by omega) (by omega)
  have e1 : e ≤ 1 := by rw [← he]; have : (p + u) / a < 2 := Int.ediv_lt_of_lt_mul (by omega) (by omega); omega
  by_cases ho : t % 2 = 1
  · have hob : (t % 2 == 1) = true := beq_iff_eq.2 ho
    have HH := Lib.hid (half_odd HP.out ho (by omega) hd hu he hf)
    clear ho
    go_enter Try.func25, Try.ntmps25
    go_wp2_with fail
    refine (rmay_yes H.out _).mono ?_; rintro e w' ⟨rfl, rfl⟩
    go_wp2_with fail
    refine (rmay_yes H'.out _).mono ?_; rintro e w' ⟨rfl, rfl⟩
    go_wp2_with fail
    refine (hT _).mono ?_; rintro e w' ⟨rfl, rfl⟩
    go_wp2_with fail
    go_ret3
    exact ⟨three_ret HH.out.1 (hf.trans HH.out.2) rfl, rfl⟩
  · have hob : (t % 2 == 1) = false := beq_eq_false_iff_ne.2 ho
    have HH := Lib.hid (half_even HP.out ho (by omega) hd hu)
    clear ho
    go_enter Try.func25, Try.ntmps25
    go_wp2_with fail
    refine (rmay_yes H.out _).mono ?_; rintro e w' ⟨rfl, rfl⟩
    go_wp2_with fail
    refine (rmay_yes H'.out _).mono ?_; rintro e w' ⟨rfl, rfl⟩
    go_wp2_with fail
    refine (hT _).mono ?_; rintro e w' ⟨rfl, rfl⟩
    go_wp2_with fail
    go_ret3
    exact ⟨three_ret HH.out.1 (hu.trans HH.out.2) rfl, rfl⟩

theorem rshare_yes (p a : Int) (hm2 : mayB a = true) (h1 : 1 ≤ a) (h2 : 0 ≤ p) (h3 : p ≤ a) (n : Nat) : ∀ t : Int, t.toNat ≤ n → 0 ≤ t → mayB t = true → RTriple t p a (t * p / a) (t * p % a) 0 := by
  induction n with
  | zero =>
    intro t hn h0 _
    obtain rfl : t = 0 := by omega
    have := rshare_zero p a hm2 h1 h2 h3
    rwa [Int.zero_mul, Int.zero_ediv, Int.zero_emod]
  | succ n ih =>
    intro t hn h0 hm
    by_cases hz : t = 0
    · subst hz
      have := rshare_zero p a hm2 h1 h2 h3
      rwa [Int.zero_mul, Int.zero_ediv, Int.zero_emod]
    · have hb := mayB_iff.1 hm
      have hm' : mayB (t / 2) = true := by rw [mayB_iff]; omega
      have hok : shareOk (t / 2) p a = true := by
        simp only [shareOk, hm', hm2, Bool.true_and, Bool.and_eq_true, decide_eq_true_eq]; omega
      have f1 := share_facts hok
      have e := Int.mul_ediv_add_emod (t / 2 * p) a
      exact rshare_step t p a _ _ hm hm2 (by omega) h1 h2 h3 (ih (t / 2) (by omega) (by omega) hm') ⟨f1.1, f1.2.1, by rw [Int.mul_comm]; exact e⟩

theorem rshare_any (t p a : Int) : RTriple t p a (shareV t p a) (shareR t p a) (shareE t p a) := by
  cases h : shareOk t p a with
  | false => have := rshare_bad t p a h; simpa [shareV, shareR, shareE, h] using this
  | true =>
    have hh := h
    simp only [shareOk, Bool.and_eq_true, decide_eq_true_eq] at h
    have := rshare_yes p a h.1.1.1.1.2 h.1.1.2 h.1.2 h.2 t.toNat t (Nat.le_refl _) h.1.1.1.2 h.1.1.1.1.1
    simpa [shareV, shareR, shareE, hh] using this
end Go.Proofs.Ytknpncnogocbjaa.Money

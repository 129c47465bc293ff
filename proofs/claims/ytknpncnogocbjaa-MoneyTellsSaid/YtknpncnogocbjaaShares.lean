/-
  The walks of MoneyShares and MoneyWhole: both return true.
-/
import Derived.Test.YtknpncnogocbjaaBack
namespace Go.Proofs.Ytknpncnogocbjaa.Money
open Go.RowKit Go.Proofs Go.Proofs.Ytknpncnogocbjaa.MoneyMath
set_option maxRecDepth 100000
set_option linter.unusedVariables false

def Triple (t p a q r e : Int) : Prop := ∀ w, Calls Try.prog 24 #[.int .i64 t, .int .i64 p, .int .i64 a] w fun x w' => x = .returned (.tuple #[.int .i64 q, .int .i64 r, .int .i64 e]) ∧ w = w'
theorem triple_no {t p a : Int} (h : shareOk t p a = false) : Triple t p a 0 0 1 := fun w => share_bad t p a w h
theorem triple_yes {t p a : Int} (h : shareOk t p a = true) : Triple t p a (t * p / a) (t * p % a) 0 := fun w => by
  simp only [shareOk, Bool.and_eq_true, decide_eq_true_eq] at h
  exact share_walk t p a w h.1.1.1.1.1 h.1.1.1.1.2 h.1.1.1.2 h.1.1.2 h.1.2 h.2

theorem shares_no (t p a : Int) (T : Triple t p a 0 0 1) (w : World) :
    Calls Try.prog 8 #[.int .i64 t, .int .i64 p, .int .i64 a] w fun x w' => x = .returned (.bool true) ∧ Below w.heap.size w w' := by
  go_enter Try.func8, Try.ntmps8
  go_wp2_with fail
  refine (awake_any _).mono ?_; rintro _ w1 ⟨rfl, hw1⟩
  go_wp2_with fail
  refine (T _).mono ?_; rintro _ w' ⟨rfl, rfl⟩
  go_wp2_with fail
  go_ret
  exact ⟨rfl, hw1⟩

theorem shares_yes (t p a q r q' r' : Int) (T : Triple t p a q r 0) (T' : Triple t (a - p) a q' r' 0)
    (h1 : 1 ≤ a) (h2 : a ≤ 4611686018427387903) (h3 : 0 ≤ p) (h4 : p ≤ a) (h5 : 0 ≤ t) (h6 : t ≤ 4611686018427387903)
    (r0 : 0 ≤ r) (r1 : r < a) (s0 : 0 ≤ r') (s1 : r' < a) (q0 : 0 ≤ q) (q1 : q ≤ t) (k0 : 0 ≤ q') (k1 : q' ≤ t)
    (hh : ((q + q' == t) = true ∧ (r == 0) = true ∧ (r' == 0) = true) ∨ ((q + q' == t) = false ∧ (q + q' == t - 1) = true ∧ (r + r' == a) = true)) (w : World) :
    Calls Try.prog 8 #[.int .i64 t, .int .i64 p, .int .i64 a] w fun x w' => x = .returned (.bool true) ∧ Below w.heap.size w w' := by
  rcases hh with ⟨e1, e2, e3⟩ | ⟨e1, e2, e3⟩
  all_goals
    go_enter Try.func8, Try.ntmps8
    go_wp2_with fail
    refine (awake_any _).mono ?_; rintro _ w1 ⟨rfl, hw1⟩
    go_wp2_with fail
    refine (T _).mono ?_; rintro _ w' ⟨rfl, rfl⟩
    go_wp2_with fail
    refine (T' _).mono ?_; rintro _ w' ⟨rfl, rfl⟩
    go_wp2_with fail
    go_ret
    exact ⟨rfl, hw1⟩

theorem share_facts {t p a : Int} (h : shareOk t p a = true) : 0 ≤ t * p % a ∧ t * p % a < a ∧ 0 ≤ t * p / a ∧ t * p / a ≤ t := by
  simp only [shareOk, Bool.and_eq_true, decide_eq_true_eq] at h
  obtain ⟨⟨⟨⟨⟨h1, h2⟩, h3⟩, h4⟩, h5⟩, h6⟩ := h
  have r1 := Int.emod_nonneg (t * p) (show a ≠ 0 by omega)
  have r2 := Int.emod_lt_of_pos (t * p) (show 0 < a by omega)
  have e := Int.mul_ediv_add_emod (t * p) a
  have hP : Part t p a (t * p / a) (t * p % a) := ⟨r1, r2, by rw [Int.mul_comm]; exact e⟩
  have hb := hP.bound h5 h6 h3
  exact ⟨r1, r2, hb.1, hb.2⟩

theorem shares_any (t p a : Int) (w : World) :
    Calls Try.prog 8 #[.int .i64 t, .int .i64 p, .int .i64 a] w fun x w' => x = .returned (.bool true) ∧ Below w.heap.size w w' := by
  cases h : shareOk t p a with
  | false => exact shares_no t p a (triple_no h) w
  | true =>
    obtain ⟨h', hs⟩ := shares h
    have f1 := share_facts h
    have f2 := share_facts h'
    have hh := h
    simp only [shareOk, Bool.and_eq_true, decide_eq_true_eq] at hh
    obtain ⟨⟨⟨⟨⟨h1, h2⟩, h3⟩, h4⟩, h5⟩, h6⟩ := hh
    have m1 := mayB_iff.1 h1
    have m2 := mayB_iff.1 h2
    refine shares_yes t p a _ _ _ _ (triple_yes h) (triple_yes h') h4 m2.2 h5 h6 h3 m1.2 f1.1 f1.2.1 f2.1 f2.2.1 f1.2.2.1 f1.2.2.2 f2.2.2.1 f2.2.2.2 ?_ w
    split at hs
    · rename_i e
      exact .inl ⟨beq_iff_eq.2 e, beq_iff_eq.2 hs.1, beq_iff_eq.2 hs.2⟩
    · rename_i e
      exact .inr ⟨beq_eq_false_iff_ne.2 e, beq_iff_eq.2 hs.1, beq_iff_eq.2 hs.2⟩

/-! ### MoneyWhole -/
theorem whole_no (t p a v e : Int) (T : Triple t p a 0 0 1) (M : Pair 20 t p v e) (w : World) :
    Calls Try.prog 9 #[.int .i64 t, .int .i64 p, .int .i64 a] w fun x w' => x = .returned (.bool true) ∧ Below w.heap.size w w' := by
  go_enter Try.func9, Try.ntmps9
  go_wp2_with fail
  refine (awake_any _).mono ?_; rintro _ w1 ⟨rfl, hw1⟩
  go_wp2_with fail
  refine (T _).mono ?_; rintro _ w' ⟨rfl, rfl⟩
  go_wp2_with fail
  refine (M _).mono ?_; rintro _ w' ⟨rfl, rfl⟩
  go_wp2_with fail
  go_ret
  exact ⟨rfl, hw1⟩

theorem whole_far (t p a q r v e : Int) (T : Triple t p a q r 0) (M : Pair 20 t p v e) (he : (e != 0) = true) (w : World) :
    Calls Try.prog 9 #[.int .i64 t, .int .i64 p, .int .i64 a] w fun x w' => x = .returned (.bool true) ∧ Below w.heap.size w w' := by
  go_enter Try.func9, Try.ntmps9
  go_wp2_with fail
  refine (awake_any _).mono ?_; rintro _ w1 ⟨rfl, hw1⟩
  go_wp2_with fail
  refine (T _).mono ?_; rintro _ w' ⟨rfl, rfl⟩
  go_wp2_with fail
  refine (M _).mono ?_; rintro _ w' ⟨rfl, rfl⟩
  go_wp2_with fail
  go_ret
  exact ⟨rfl, hw1⟩

theorem whole_yes (t p a q r v b : Int) (T : Triple t p a q r 0) (M : Pair 20 t p v 0) (M' : Pair 20 q a b 0) (A : Pair 18 b r v 0) (w : World) :
    Calls Try.prog 9 #[.int .i64 t, .int .i64 p, .int .i64 a] w fun x w' => x = .returned (.bool true) ∧ Below w.heap.size w w' := by
  go_enter Try.func9, Try.ntmps9
  go_wp2_with fail
  refine (awake_any _).mono ?_; rintro _ w1 ⟨rfl, hw1⟩
  go_wp2_with fail
  refine (T _).mono ?_; rintro _ w' ⟨rfl, rfl⟩
  go_wp2_with fail
  refine (M _).mono ?_; rintro _ w' ⟨rfl, rfl⟩
  go_wp2_with fail
  refine (M' _).mono ?_; rintro _ w' ⟨rfl, rfl⟩
  go_wp2_with fail
  refine (A _).mono ?_; rintro _ w' ⟨rfl, rfl⟩
  go_wp2_with fail
  go_ret
  exact ⟨rfl, hw1⟩

theorem whole_any (t p a : Int) (w : World) :
    Calls Try.prog 9 #[.int .i64 t, .int .i64 p, .int .i64 a] w fun x w' => x = .returned (.bool true) ∧ Below w.heap.size w w' := by
  cases h : shareOk t p a with
  | false => exact whole_no t p a _ _ (triple_no h) (pair_mul rfl rfl) w
  | true =>
    have f1 := share_facts h
    have hh := h
    simp only [shareOk, Bool.and_eq_true, decide_eq_true_eq] at hh
    obtain ⟨⟨⟨⟨⟨h1, h2⟩, h3⟩, h4⟩, h5⟩, h6⟩ := hh
    have m1 := mayB_iff.1 h1
    have m2 := mayB_iff.1 h2
    rcases mul_cases t p with ⟨g1, g2, g3, g4, g5⟩ | ⟨g4, g5⟩ | ⟨g4, g5⟩
    · have hm := mayB_iff.1 g3
      have e := Int.mul_ediv_add_emod (t * p) a
      have e' : t * p / a * a + t * p % a = t * p := by rw [Int.mul_comm]; exact e
      have hqa : 0 ≤ t * p / a * a := Int.mul_nonneg f1.2.2.1 (by omega)
      have k1 : mayB (t * p / a) = true := by rw [mayB_iff]; omega
      have k2 : mayB (t * p / a * a) = true := by rw [mayB_iff]; omega
      have k3 : mayB (t * p % a) = true := by rw [mayB_iff]; omega
      refine whole_yes t p a _ _ (t * p) (t * p / a * a) (triple_yes h) (pair_mul g4 g5) (pair_mul ?_ ?_) (pair_add ?_ ?_) w
      · unfold mulV; rw [k1, h2, k2]; rfl
      · unfold mulE; rw [k1, h2, k2]; rfl
      · unfold addV; rw [k2, k3, e', g3]; rfl
      · unfold addE; rw [k2, k3, e', g3]; rfl
    · exact whole_far t p a _ _ _ _ (triple_yes h) (pair_mul g4 g5) rfl w
    · exact whole_far t p a _ _ _ _ (triple_yes h) (pair_mul g4 g5) rfl w
end Go.Proofs.Ytknpncnogocbjaa.Money

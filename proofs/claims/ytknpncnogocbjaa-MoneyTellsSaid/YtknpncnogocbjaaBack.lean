/-
  MoneyBack holds for every input: sums and products go either way, and back.
-/
import Derived.Test.YtknpncnogocbjaaAwake1
import Derived.Test.YtknpncnogocbjaaRows
import Derived.ProofKit
namespace Go.Proofs.Ytknpncnogocbjaa.Money
open Go.RowKit Go.Proofs Go.Proofs.Ytknpncnogocbjaa.MoneyMath
set_option maxRecDepth 100000

theorem add_comm' (a b : Int) : addV b a = addV a b ∧ addE b a = addE a b := by
  unfold addV addE
  rw [Int.add_comm b a, Bool.and_comm (mayB b)]
  exact ⟨rfl, rfl⟩
theorem mul_comm' (a b : Int) : mulV b a = mulV a b ∧ mulE b a = mulE a b := by
  unfold mulV mulE
  rw [Int.mul_comm b a, Bool.and_comm (mayB b)]
  exact ⟨rfl, rfl⟩
theorem add_cases (a b : Int) : (mayB a = true ∧ mayB b = true ∧ mayB (a + b) = true ∧ addV a b = a + b ∧ addE a b = 0) ∨ (addV a b = 0 ∧ addE a b = 1) ∨ (addV a b = 0 ∧ addE a b = 4) := by
  unfold addV addE
  cases mayB a <;> cases mayB b <;> cases mayB (a + b) <;> simp
theorem mul_cases (a b : Int) : (mayB a = true ∧ mayB b = true ∧ mayB (a * b) = true ∧ mulV a b = a * b ∧ mulE a b = 0) ∨ (mulV a b = 0 ∧ mulE a b = 1) ∨ (mulV a b = 0 ∧ mulE a b = 4) := by
  unfold mulV mulE
  cases mayB a <;> cases mayB b <;> cases mayB (a * b) <;> simp

def Pair (f : FuncId) (a b s e : Int) : Prop := ∀ w, Calls Try.prog f #[.int .i64 a, .int .i64 b] w fun x w' => x = .returned (.tuple #[.int .i64 s, .int .i64 e]) ∧ w = w'
theorem pair_add {a b s e : Int} (h1 : addV a b = s) (h2 : addE a b = e) : Pair 18 a b s e := fun w => by rw [← h1, ← h2]; exact add_any a b w
theorem pair_mul {a b s e : Int} (h1 : mulV a b = s) (h2 : mulE a b = e) : Pair 20 a b s e := fun w => by rw [← h1, ← h2]; exact mul_any a b w

/-- how the product is taken apart again -/
inductive Apart (a b u g : Int) : Prop
  | none (h : (g == 0) = false) (h' : (g != 0) = true)
  | zero (h : (g == 0) = true) (h' : (g != 0) = false) (hb : (b == 0) = true)
  | whole (h : (g == 0) = true) (h' : (g != 0) = false) (hb : (b == 0) = false) (hn : ¬ b = 0) (b1 : -4611686018427387903 ≤ a) (b2 : a ≤ 4611686018427387903) (hq : u.tdiv b = a) (hr : u.tmod b = 0)

/-- the law's walk, where the sum and the product are there or not -/
theorem back_walk (a b s e u g : Int) (A1 : Pair 18 a b s e) (A2 : Pair 18 b a s e) (M1 : Pair 20 a b u g) (M2 : Pair 20 b a u g)
    (he : ((e == 0) = true ∧ (-4611686018427387903 ≤ b ∧ b ≤ 4611686018427387903) ∧ Pair 18 s (-b) a 0) ∨ (e == 0) = false)
    (hg : Apart a b u g) (w : World) :
    Calls Try.prog 7 #[.int .i64 a, .int .i64 b] w fun x w' => x = .returned (.bool true) ∧ Below w.heap.size w w' := by
  have HG := Lib.hid hg; clear hg
  rcases he with ⟨e1, ⟨hb1, hb2⟩, A3⟩ | e1
  · go_enter Try.func7, Try.ntmps7
    go_wp2_with fail
    refine (awake_any _).mono ?_; rintro _ w1 ⟨rfl, hw1⟩
    go_wp2_with fail
    refine (A1 _).mono ?_; rintro _ w' ⟨rfl, rfl⟩
    go_wp2_with fail
    refine (A2 _).mono ?_; rintro _ w' ⟨rfl, rfl⟩
    go_wp2_with fail
    refine (M1 _).mono ?_; rintro _ w' ⟨rfl, rfl⟩
    go_wp2_with fail
    refine (M2 _).mono ?_; rintro _ w' ⟨rfl, rfl⟩
    go_wp2_with fail
    refine (A3 _).mono ?_; rintro _ w' ⟨rfl, rfl⟩
    rcases HG.out with ⟨h, h'⟩ | ⟨h, h', hb⟩ | ⟨h, h', hb, hn, b1, b2, hq, hr⟩
    all_goals
      clear HG
      go_wp2_with fail
      go_ret
      exact ⟨rfl, hw1⟩
  · rcases HG.out with ⟨h, h'⟩ | ⟨h, h', hb⟩ | ⟨h, h', hb, hn, b1, b2, hq, hr⟩
    all_goals
      clear HG
      go_enter Try.func7, Try.ntmps7
      go_wp2_with fail
      refine (awake_any _).mono ?_; rintro _ w1 ⟨rfl, hw1⟩
      go_wp2_with fail
      refine (A1 _).mono ?_; rintro _ w' ⟨rfl, rfl⟩
      go_wp2_with fail
      refine (A2 _).mono ?_; rintro _ w' ⟨rfl, rfl⟩
      go_wp2_with fail
      refine (M1 _).mono ?_; rintro _ w' ⟨rfl, rfl⟩
      go_wp2_with fail
      refine (M2 _).mono ?_; rintro _ w' ⟨rfl, rfl⟩
      go_wp2_with fail
      go_ret
      exact ⟨rfl, hw1⟩

theorem back_any (a b : Int) (w : World) : Calls Try.prog 7 #[.int .i64 a, .int .i64 b] w fun x w' => x = .returned (.bool true) ∧ Below w.heap.size w w' := by
  have hs := add_comm' a b
  have hp := mul_comm' a b
  have hg : Apart a b (mulV a b) (mulE a b) := by
    rcases mul_cases a b with ⟨h1, h2, h3, h4, h5⟩ | ⟨h4, h5⟩ | ⟨h4, h5⟩
    · rw [h4, h5]
      by_cases hb : b = 0
      · exact .zero rfl rfl (by simp [hb])
      · have := mayB_iff.1 h1
        exact .whole rfl rfl (by simp [hb]) hb this.1 this.2 (Int.mul_tdiv_cancel a hb) (Int.mul_tmod_left a b)
    · rw [h4, h5]; exact .none rfl rfl
    · rw [h4, h5]; exact .none rfl rfl
  refine back_walk a b (addV a b) (addE a b) (mulV a b) (mulE a b) (pair_add rfl rfl) (pair_add hs.1 hs.2) (pair_mul rfl rfl) (pair_mul hp.1 hp.2) ?_ hg w
  rcases add_cases a b with ⟨h1, h2, h3, h4, h5⟩ | ⟨h4, h5⟩ | ⟨h4, h5⟩
  · refine .inl ⟨by rw [h5]; rfl, mayB_iff.1 h2, ?_⟩
    have hn : mayB (-b) = true := by have := mayB_iff.1 h2; rw [mayB_iff]; omega
    have e : a + b + -b = a := by omega
    rw [h4]
    refine pair_add ?_ ?_
    · unfold addV; rw [h3, hn, e, h1]; rfl
    · unfold addE; rw [h3, hn, e, h1]; rfl
  · exact .inr (by rw [h5]; rfl)
  · exact .inr (by rw [h5]; rfl)
end Go.Proofs.Ytknpncnogocbjaa.Money

/-
  The walk of groupagelaw01's awake: its calls answer as the document fixes; it makes one block.
-/
import Derived.Test.YtknpncnogocbjaaShare
import Derived.Test.YtknpncnogocbjaaSum
namespace Go.Proofs.Ytknpncnogocbjaa.Money
open Go.RowKit Go.Proofs Go.Proofs.Ytknpncnogocbjaa.MoneyMath
set_option maxRecDepth 100000

theorem aw1 (w : World) : Calls Try.prog 18 #[.int .i64 3, .int .i64 (-5)] w fun e w' => e = .returned (.tuple #[.int .i64 (-2), .int .i64 0]) ∧ w = w' := by
  have := add_any 3 (-5) w
  rwa [show addV 3 (-5) = -2 by decide, show addE 3 (-5) = 0 by decide] at this
theorem aw2 (w : World) : Calls Try.prog 20 #[.int .i64 (-3), .int .i64 5] w fun e w' => e = .returned (.tuple #[.int .i64 (-15), .int .i64 0]) ∧ w = w' := by
  have := mul_any (-3) 5 w
  rwa [show mulV (-3) 5 = -15 by decide, show mulE (-3) 5 = 0 by decide] at this
theorem aw3 (a : Option Addr) (w : World) (hr : ReadsI w a [1, 2, 3]) : Calls Try.prog 22 #[.slice a 3 3] w fun e w' => e = .returned (.tuple #[.int .i64 6, .int .i64 0]) ∧ w = w' := by
  have := sum_any a 3 [1, 2, 3] w hr (by decide)
  rwa [show sumP [1, 2, 3] = (6, 0) by decide] at this
theorem aw4 (w : World) : Calls Try.prog 24 #[.int .i64 10, .int .i64 1, .int .i64 3] w fun e w' => e = .returned (.tuple #[.int .i64 3, .int .i64 1, .int .i64 0]) ∧ w = w' := by
  have := share_any 10 1 3 w
  rwa [show shareV 10 1 3 = 3 by decide, show shareR 10 1 3 = 1 by decide, show shareE 10 1 3 = 0 by decide] at this
theorem aw5 (w : World) : Calls Try.prog 18 #[.int .i64 4611686018427387903, .int .i64 1] w fun e w' => e = .returned (.tuple #[.int .i64 0, .int .i64 4]) ∧ w = w' := by
  have := add_any 4611686018427387903 1 w
  rwa [show addV 4611686018427387903 1 = 0 by decide, show addE 4611686018427387903 1 = 4 by decide] at this
theorem aw6 (w : World) : Calls Try.prog 20 #[.int .i64 2147483648, .int .i64 2147483648] w fun e w' => e = .returned (.tuple #[.int .i64 0, .int .i64 4]) ∧ w = w' := by
  have := mul_any 2147483648 2147483648 w
  rwa [show mulV 2147483648 2147483648 = 0 by decide, show mulE 2147483648 2147483648 = 4 by decide] at this
theorem aw7 (w : World) : Calls Try.prog 24 #[.int .i64 1, .int .i64 2, .int .i64 1] w fun e w' => e = .returned (.tuple #[.int .i64 0, .int .i64 0, .int .i64 1]) ∧ w = w' := by
  have := share_any 1 2 1 w
  rwa [show shareV 1 2 1 = 0 by decide, show shareR 1 2 1 = 0 by decide, show shareE 1 2 1 = 1 by decide] at this

theorem reads3 (w : World) (t : TypeId) : ReadsI (w.alloc (.cells #[.int .i64 1, .int .i64 2, .int .i64 3] t)) (some ⟨w.heap.size, 0, none⟩) [1, 2, 3] := by
  intro _
  refine ⟨_, _, rfl, fun k hk => ?_⟩
  have e : (w.alloc (.cells #[.int .i64 1, .int .i64 2, .int .i64 3] t)).heap[w.heap.size]? = some (.cells #[.int .i64 1, .int .i64 2, .int .i64 3] t) := by
    show (w.heap.push _)[w.heap.size]? = _
    simp
  unfold World.cell?
  simp only [e]
  match k, hk with
  | 0, _ => rfl
  | 1, _ => rfl
  | 2, _ => rfl

set_option maxHeartbeats 400000 in
theorem awake_any (w : World) : Calls Try.prog 17 #[] w fun e w' => e = .returned (.bool true) ∧ Below w.heap.size w w' := by
  go_enter Try.func17, Try.ntmps17
  go_wp2_with fail
  refine (aw1 _).mono ?_; rintro e w' ⟨rfl, rfl⟩
  go_wp2_with fail
  refine (aw2 _).mono ?_; rintro e w' ⟨rfl, rfl⟩
  go_wp2_with fail
  refine (aw3 _ _ ?_).mono ?_
  · exact reads3 _ _
  rintro e w' ⟨rfl, rfl⟩
  go_wp2_with fail
  refine (aw4 _).mono ?_; rintro e w' ⟨rfl, rfl⟩
  go_wp2_with fail
  refine (aw5 _).mono ?_; rintro e w' ⟨rfl, rfl⟩
  go_wp2_with fail
  refine (aw6 _).mono ?_; rintro e w' ⟨rfl, rfl⟩
  go_wp2_with fail
  refine (aw7 _).mono ?_; rintro e w' ⟨rfl, rfl⟩
  go_wp2_with fail
  go_ret
  exact ⟨rfl, (Below.refl _ _).alloc (Nat.le_refl _) _⟩
end Go.Proofs.Ytknpncnogocbjaa.Money

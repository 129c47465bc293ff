/-
  The plain mathematics of load: two alike, or none.
-/
import Derived.Test.YtakiciemkecgfaaLoadAlike
namespace Go.Proofs.Ytakiciemkecgfaa.Load
open Go.RowKit Go.Proofs Go.Maps Go.Proofs.Ytakiciemkecgfaa.AreaMath Go.Proofs.Ytakiciemkecgfaa.Area
set_option linter.unusedVariables false

def addI (acc : List Int) (x : Int) : List Int := if x ∈ acc then acc else acc ++ [x]
theorem addI_le (xs A : List Int) : (xs.foldl addI A).length ≤ A.length + xs.length := by
  induction xs generalizing A with
  | nil => simp
  | cons x xs ih =>
    rw [List.foldl_cons, List.length_cons]
    refine Nat.le_trans (ih _) ?_
    unfold addI
    split
    · omega
    · rw [List.length_append, List.length_singleton]; omega
theorem addI_eq (xs A : List Int) : (xs.foldl addI A).length = A.length + xs.length ↔ xs.Nodup ∧ ∀ x ∈ xs, x ∉ A := by
  induction xs generalizing A with
  | nil => simp
  | cons x xs ih =>
    rw [List.foldl_cons, List.length_cons, List.nodup_cons]
    by_cases hx : x ∈ A
    · have e : addI A x = A := by unfold addI; rw [if_pos hx]
      rw [e]
      constructor
      · intro h
        have := addI_le xs A
        omega
      · rintro ⟨_, h⟩
        exact absurd hx (h x (by simp))
    · have e : addI A x = A ++ [x] := by unfold addI; rw [if_neg hx]
      rw [e]
      have h1 := ih (A ++ [x])
      rw [List.length_append, List.length_singleton] at h1
      rw [show A.length + (xs.length + 1) = A.length + 1 + xs.length by omega, h1]
      constructor
      · rintro ⟨h2, h3⟩
        refine ⟨⟨fun hm => ?_, h2⟩, fun y hy => ?_⟩
        · exact h3 x hm (by simp)
        · rcases List.mem_cons.1 hy with rfl | hy
          · exact hx
          · exact fun hA => h3 y hy (by simp [hA])
      · rintro ⟨⟨h2, h3⟩, h4⟩
        refine ⟨h3, fun y hy => ?_⟩
        rw [List.mem_append, List.mem_singleton]
        rintro (hA | rfl)
        · exact h4 y (by simp [hy]) hA
        · exact h2 hy
theorem addKey_map (xs A : List Int) : (xs.map fun x => Lit.int .i64 x).foldl addKey (A.map fun x => Lit.int .i64 x) = (xs.foldl addI A).map fun x => Lit.int .i64 x := by
  induction xs generalizing A with
  | nil => rfl
  | cons x xs ih =>
    rw [List.map_cons, List.foldl_cons, List.foldl_cons, ← ih]
    congr 1
    unfold addKey addI
    have e : ((A.map fun x => Lit.int .i64 x).any fun y => y.sameKey (.int .i64 x)) = decide (x ∈ A) := by
      rw [List.any_map]
      rw [Bool.eq_iff_iff, List.any_eq_true, decide_eq_true_eq]
      constructor
      · rintro ⟨y, hy, h⟩
        have : y = x := by simpa [Lit.sameKey] using h
        exact this ▸ hy
      · intro h
        exact ⟨x, h, by simp [Lit.sameKey]⟩
    rw [e]
    by_cases h : x ∈ A
    · simp [h]
    · simp [h]
theorem dupB_iff (ids : List Int) : dupB ids = true ↔ ¬ ids.Nodup := by
  unfold dupB
  rw [decide_eq_true_eq]
  have e : Maps.size (SnI (H := Unit) ids ids.length) = (ids.foldl addI []).length := by
    unfold SnI
    rw [size_setOf _ _ (fun x hx => by obtain ⟨_, _, rfl⟩ := List.mem_map.1 hx; trivial)]
    unfold keysI
    rw [List.take_length]
    have := addKey_map ids []
    simp only [List.map_nil] at this
    rw [this, List.length_map]
  rw [e]
  have h1 := addI_le ids []
  have h2 := addI_eq ids []
  simp only [List.length_nil, Nat.zero_add] at h1 h2
  constructor
  · intro h hn
    have := h2.2 ⟨hn, by simp⟩
    omega
  · intro h
    have : (ids.foldl addI []).length ≠ ids.length := fun e => h (h2.1 e).1
    omega
theorem dupB_false (ids : List Int) : dupB ids = false ↔ ids.Nodup := by
  rw [← Bool.not_eq_true, dupB_iff]; exact Decidable.not_not
end Go.Proofs.Ytakiciemkecgfaa.Load

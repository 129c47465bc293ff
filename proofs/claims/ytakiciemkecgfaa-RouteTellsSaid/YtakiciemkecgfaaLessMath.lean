/-
  The plain law of LoadLess: orders that may be weigh no more than 200 millions together.
-/
import Derived.Test.YtakiciemkecgfaaLoadCarries
namespace Go.Proofs.Ytakiciemkecgfaa.Load
open Go.RowKit Go.Proofs Go.Proofs.Ytakiciemkecgfaa.MoneyMath
set_option linter.unusedVariables false

theorem foldS_sum (xs : List Int) (acc : Int) (h : ∀ x ∈ xs, 0 ≤ x ∧ x ≤ 1000000) (ha : 0 ≤ acc) (hb : acc + 1000000 * xs.length ≤ 4000000000) : foldS acc xs = (acc + xs.sum, 0) := by
  induction xs generalizing acc with
  | nil => simp [foldS]
  | cons x xs ih =>
    obtain ⟨h1, h2⟩ := h x (by simp)
    rw [List.length_cons] at hb
    have e1 : mayB acc = true := by unfold mayB M; rw [decide_eq_true (by omega), decide_eq_true (by omega)]; rfl
    have e2 : mayB x = true := by unfold mayB M; rw [decide_eq_true (by omega), decide_eq_true (by omega)]; rfl
    have e3 : mayB (acc + x) = true := by unfold mayB M; rw [decide_eq_true (by omega), decide_eq_true (by omega)]; rfl
    have e4 : addE acc x = 0 := by unfold addE; rw [e1, e2, e3]; rfl
    have e5 : addV acc x = acc + x := by unfold addV; rw [e1, e2, e3]; rfl
    rw [foldS, if_pos e4, e5, ih (acc + x) (fun y hy => h y (by simp [hy])) (by omega) (by push_cast at hb; omega), List.sum_cons, Int.add_assoc]
theorem sumP_sum (xs : List Int) (h : ∀ x ∈ xs, 0 ≤ x ∧ x ≤ 1000000) (hl : xs.length ≤ 400) : sumP xs = (xs.sum, 0) := by
  unfold sumP
  rw [if_pos, foldS_sum xs 0 h (by omega) (by omega), Int.zero_add]
  rw [List.all_eq_true]
  intro x hx
  obtain ⟨h1, h2⟩ := h x hx
  unfold mayB M
  rw [decide_eq_true (by omega), decide_eq_true (by omega)]; rfl
theorem sum_range (xs : List Int) (h : ∀ x ∈ xs, 0 ≤ x ∧ x ≤ 1000000) : 0 ≤ xs.sum ∧ xs.sum ≤ 1000000 * xs.length := by
  induction xs with
  | nil => simp
  | cons x xs ih =>
    obtain ⟨h1, h2⟩ := h x (by simp)
    obtain ⟨h3, h4⟩ := ih fun y hy => h y (by simp [hy])
    rw [List.sum_cons, List.length_cons]
    push_cast
    omega

/-- orders whose sizes may be -/
def MayAll (l : List Ord) : Prop := ∀ o ∈ l, (0 ≤ o.weight ∧ o.weight ≤ 1000000) ∧ (0 ≤ o.volume ∧ o.volume ≤ 1000000)
theorem withinE_ok {l : List Span} (h : withinE l = 0) : ∀ s ∈ l, s.low ≤ s.n ∧ s.n ≤ s.high := by
  unfold withinE at h
  cases hb : l.all Span.ok with
  | false => rw [hb] at h; simp at h
  | true =>
    intro s hs
    have := List.all_eq_true.1 hb s hs
    simpa [Span.ok] using this
theorem ord_sizes {o : Ord} {n : Int} (h : ordE o n = 0) : (1 ≤ o.weight ∧ o.weight ≤ 1000000) ∧ (1 ≤ o.volume ∧ o.volume ≤ 1000000) := by
  have h1 := withinE_ok h
  exact ⟨h1 ⟨o.weight, 1, 1000000⟩ (by simp [Ord.spans]), h1 ⟨o.volume, 1, 1000000⟩ (by simp [Ord.spans])⟩
theorem mayAll_of {l : List Ord} {n : Int} (h : ∀ o ∈ l, ordE o n = 0) : MayAll l := fun o ho => by
  have := ord_sizes (h o ho); omega
theorem MayAll.take {l : List Ord} (h : MayAll l) (k : Nat) : MayAll (l.take k) := fun o ho => h o (List.mem_of_mem_take ho)
theorem MayAll.drop {l : List Ord} (h : MayAll l) (k : Nat) : MayAll (l.drop k) := fun o ho => h o (List.mem_of_mem_drop ho)
def sumW (l : List Ord) : Int := (weights l).sum
def sumV (l : List Ord) : Int := (volumes l).sum
theorem MayAll.w {l : List Ord} (h : MayAll l) : ∀ x ∈ weights l, 0 ≤ x ∧ x ≤ 1000000 := by
  intro x hx
  obtain ⟨o, ho, rfl⟩ := List.mem_map.1 hx
  exact (h o ho).1
theorem MayAll.v {l : List Ord} (h : MayAll l) : ∀ x ∈ volumes l, 0 ≤ x ∧ x ≤ 1000000 := by
  intro x hx
  obtain ⟨o, ho, rfl⟩ := List.mem_map.1 hx
  exact (h o ho).2
theorem loadS_may {l : List Ord} (h : MayAll l) (hl : l.length ≤ 400) : loadS l = (sumW l, sumV l, 0) := by
  unfold loadS
  rw [sumP_sum _ h.w (by unfold weights; rw [List.length_map]; exact hl), sumP_sum _ h.v (by unfold volumes; rw [List.length_map]; exact hl)]
  rfl
theorem sumW_range {l : List Ord} (h : MayAll l) : 0 ≤ sumW l ∧ sumW l ≤ 1000000 * l.length := by
  have := sum_range _ h.w; unfold weights at this; rw [List.length_map] at this; exact this
theorem sumV_range {l : List Ord} (h : MayAll l) : 0 ≤ sumV l ∧ sumV l ≤ 1000000 * l.length := by
  have := sum_range _ h.v; unfold volumes at this; rw [List.length_map] at this; exact this
theorem sumW_parts (l : List Ord) (k : Nat) : sumW (l.take k) + sumW (l.drop k) = sumW l := by
  unfold sumW weights
  rw [← List.sum_append, ← List.map_append, List.take_append_drop]
theorem sumV_parts (l : List Ord) (k : Nat) : sumV (l.take k) + sumV (l.drop k) = sumV l := by
  unfold sumV volumes
  rw [← List.sum_append, ← List.map_append, List.take_append_drop]
theorem carries_may {t : Trk} {l : List Ord} (h : MayAll l) (hl : l.length ≤ 400) : carriesE t l = if t.weight < sumW l ∨ t.volume < sumV l then 9 else 0 := by
  unfold carriesE
  rw [loadS_may h hl, if_neg (by simp)]
end Go.Proofs.Ytakiciemkecgfaa.Load

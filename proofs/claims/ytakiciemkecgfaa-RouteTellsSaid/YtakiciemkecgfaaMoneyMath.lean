/-
  The plain mathematics of money: sums, products and shares of numbers up to 2^62 - 1, over whole numbers alone.
-/
namespace Go.Proofs.Ytakiciemkecgfaa.MoneyMath
/-- The document's greatest number. -/
def M : Int := 4611686018427387903
def mayB (n : Int) : Bool := decide (-M ≤ n) && decide (n ≤ M)

/-- the sum, and its error -/
def addV (a b : Int) : Int := if mayB a && mayB b && mayB (a + b) then a + b else 0
def addE (a b : Int) : Int := if !(mayB a && mayB b) then 1 else if mayB (a + b) then 0 else 4
/-- the product, and its error -/
def mulV (a b : Int) : Int := if mayB a && mayB b && mayB (a * b) then a * b else 0
def mulE (a b : Int) : Int := if !(mayB a && mayB b) then 1 else if mayB (a * b) then 0 else 4

/-- shares -/
def shareOk (total part all : Int) : Bool := mayB total && mayB all && decide (0 ≤ total) && decide (1 ≤ all) && decide (0 ≤ part) && decide (part ≤ all)
def shareV (total part all : Int) : Int := if shareOk total part all then total * part / all else 0
def shareR (total part all : Int) : Int := if shareOk total part all then total * part % all else 0
def shareE (total part all : Int) : Int := if shareOk total part all then 0 else 1

/-- A quotient and what is left are found by what they must be. -/
theorem share_unique {t p a q r : Int} (h0 : 0 ≤ r) (h1 : r < a) (h : q * a + r = t * p) : q = t * p / a ∧ r = t * p % a := by
  have ha : 0 < a := by omega
  constructor
  · rw [← h, Int.add_comm, Int.add_mul_ediv_right _ _ (by omega), Int.ediv_eq_zero_of_lt h0 h1]; omega
  · rw [← h, Int.add_comm, Int.add_mul_emod_self_right, Int.emod_eq_of_lt h0 h1]

/-- one round of the program's loop -/
def dbl (a q r : Int) : Int × Int := if a ≤ 2 * r then (2 * q + 1, 2 * r - a) else (2 * q, 2 * r)
def plus (a p q r : Int) : Int × Int := if a ≤ r + p then (q + 1, r + p - a) else (q, r + p)
def Part (t p a q r : Int) : Prop := 0 ≤ r ∧ r < a ∧ q * a + r = t * p

theorem Part.dbl {t p a q r : Int} (h : Part t p a q r) : Part (2 * t) p a (dbl a q r).1 (dbl a q r).2 := by
  obtain ⟨h0, h1, h2⟩ := h
  unfold MoneyMath.dbl
  have e : 2 * t * p = 2 * (t * p) := by rw [Int.mul_assoc]
  split
  · refine ⟨by omega, by omega, ?_⟩
    show (2 * q + 1) * a + (2 * r - a) = _
    rw [e, ← h2, Int.add_mul, Int.mul_assoc]; omega
  · refine ⟨by omega, by omega, ?_⟩
    show (2 * q) * a + (2 * r) = _
    rw [e, ← h2, Int.mul_assoc]; omega

theorem Part.plus {t p a q r : Int} (h : Part t p a q r) (hp : 0 ≤ p) (hpa : p ≤ a) : Part (t + 1) p a (plus a p q r).1 (plus a p q r).2 := by
  obtain ⟨h0, h1, h2⟩ := h
  unfold MoneyMath.plus
  have e : (t + 1) * p = t * p + p := by rw [Int.add_mul]; omega
  split
  · refine ⟨by omega, by omega, ?_⟩
    show (q + 1) * a + (r + p - a) = _
    rw [e, ← h2, Int.add_mul]; omega
  · refine ⟨by omega, by omega, ?_⟩
    show q * a + (r + p) = _
    rw [e, ← h2]; omega

theorem Part.bound {t p a q r : Int} (h : Part t p a q r) (hp : 0 ≤ p) (hpa : p ≤ a) (ht : 0 ≤ t) : 0 ≤ q ∧ q ≤ t := by
  obtain ⟨h0, h1, h2⟩ := h
  have ha : 0 < a := by omega
  constructor
  · apply Decidable.byContradiction
    intro hq
    have : q * a ≤ -1 * a := Int.mul_le_mul_of_nonneg_right (by omega) (by omega)
    have : 0 ≤ t * p := Int.mul_nonneg ht hp
    omega
  · have h3 : t * p ≤ t * a := Int.mul_le_mul_of_nonneg_left hpa ht
    have h4 : q * a ≤ t * a := by omega
    exact Int.le_of_mul_le_mul_right h4 ha

/-- the first bits of a number -/
theorem bits_succ (t : Int) (k : Nat) : t / 2 ^ k = 2 * (t / 2 ^ (k + 1)) + t / 2 ^ k % 2 := by
  have : t / 2 ^ (k + 1) = t / 2 ^ k / 2 := by
    rw [Int.pow_succ, Int.ediv_ediv_of_nonneg (by exact Int.le_of_lt (Int.pow_pos (by decide)))]
  omega

/-! the statements -/
theorem shares {t p a : Int} (hok : shareOk t p a = true) :
    shareOk t (a - p) a = true ∧
    (if t * p / a + t * (a - p) / a = t then t * p % a = 0 ∧ t * (a - p) % a = 0
     else t * p / a + t * (a - p) / a = t - 1 ∧ t * p % a + t * (a - p) % a = a) := by
  have hok' := hok
  simp only [shareOk, Bool.and_eq_true, decide_eq_true_eq] at hok
  obtain ⟨⟨⟨⟨⟨h1, h2⟩, h3⟩, h4⟩, h5⟩, h6⟩ := hok
  have ha : 0 < a := by omega
  refine ⟨by simp only [shareOk, Bool.and_eq_true, decide_eq_true_eq]; exact ⟨⟨⟨⟨⟨h1, h2⟩, h3⟩, h4⟩, by omega⟩, by omega⟩, ?_⟩
  have e1 := Int.mul_ediv_add_emod (t * p) a
  have e2 := Int.mul_ediv_add_emod (t * (a - p)) a
  have r1 := Int.emod_nonneg (t * p) (show a ≠ 0 by omega)
  have r2 := Int.emod_lt_of_pos (t * p) ha
  have r3 := Int.emod_nonneg (t * (a - p)) (show a ≠ 0 by omega)
  have r4 := Int.emod_lt_of_pos (t * (a - p)) ha
  have e3 : t * p + t * (a - p) = a * t := by rw [← Int.mul_add, Int.mul_comm]; congr 1; omega
  generalize t * p / a = q1 at *
  generalize t * p % a = s1 at *
  generalize t * (a - p) / a = q2 at *
  generalize t * (a - p) % a = s2 at *
  have e4 : a * (q1 + q2) + (s1 + s2) = a * t := by rw [Int.mul_add]; omega
  have e5 : s1 + s2 = a * (t - (q1 + q2)) := by rw [Int.mul_sub]; omega
  split
  · rename_i h
    rw [h, Int.sub_self, Int.mul_zero] at e5
    omega
  · rename_i h
    have : t - (q1 + q2) = 1 := by
      have hlt : a * (t - (q1 + q2)) < a * 2 := by omega
      have hge : a * 0 ≤ a * (t - (q1 + q2)) := by omega
      have u1 := Int.lt_of_mul_lt_mul_left hlt (by omega)
      have u2 := Int.le_of_mul_le_mul_left hge ha
      omega
    rw [this] at e5
    omega
/-! the sum of a list -/
def foldS : Int → List Int → Int × Int
  | acc, [] => (acc, 0)
  | acc, x :: l => if addE acc x = 0 then foldS (addV acc x) l else (0, addE acc x)
def sumP (l : List Int) : Int × Int := if l.all mayB then foldS 0 l else (0, 1)
/-- a list's number at a place -/
def at_ (l : List Int) (k : Nat) : Int := l.getD k 0

theorem drop_at (l : List Int) (k : Nat) (h : k < l.length) : l.drop k = at_ l k :: l.drop (k + 1) := by
  rw [List.drop_eq_getElem_cons h]
  simp [at_, h]

def AllMay (l : List Int) (k : Nat) : Prop := (l.take k).all mayB = true
theorem AllMay.zero (l : List Int) : AllMay l 0 := by simp [AllMay]
theorem AllMay.step {l : List Int} {k : Nat} (h : AllMay l k) (hk : k < l.length) (hm : mayB (at_ l k) = true) : AllMay l (k + 1) := by
  unfold AllMay at *
  rw [List.take_succ_eq_append_getElem hk, List.all_append, h]
  simpa [at_, hk] using hm
theorem AllMay.bad {l : List Int} {k : Nat} (hk : k < l.length) (hm : mayB (at_ l k) = false) : sumP l = (0, 1) := by
  unfold sumP
  rw [if_neg]
  intro h
  rw [List.all_eq_true] at h
  have : at_ l k ∈ l := by simp [at_, hk]
  rw [h _ this] at hm
  cases hm
theorem AllMay.good {l : List Int} (h : AllMay l l.length) : sumP l = foldS 0 l := by
  unfold AllMay at h
  rw [List.take_length] at h
  unfold sumP
  rw [if_pos h]

def Folded (l : List Int) (k : Nat) (acc : Int) : Prop := sumP l = foldS acc (l.drop k)
theorem Folded.start {l : List Int} (h : AllMay l l.length) : Folded l 0 0 := by
  unfold Folded; rw [h.good, List.drop_zero]
theorem Folded.step {l : List Int} {k : Nat} {acc : Int} (h : Folded l k acc) (hk : k < l.length) (he : addE acc (at_ l k) = 0) : Folded l (k + 1) (addV acc (at_ l k)) := by
  unfold Folded at *
  rw [h, drop_at l k hk, foldS, if_pos he]
theorem Folded.bad {l : List Int} {k : Nat} {acc : Int} (h : Folded l k acc) (hk : k < l.length) (he : ¬ addE acc (at_ l k) = 0) : sumP l = (0, addE acc (at_ l k)) := by
  unfold Folded at *
  rw [h, drop_at l k hk, foldS, if_neg he]
theorem Folded.done {l : List Int} {acc : Int} (h : Folded l l.length acc) : sumP l = (acc, 0) := by
  unfold Folded at h
  rw [h, List.drop_length, foldS]

end Go.Proofs.Ytakiciemkecgfaa.MoneyMath

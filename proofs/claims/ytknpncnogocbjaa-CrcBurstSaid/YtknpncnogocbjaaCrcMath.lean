/-
  The plain mathematics of the sum: bit by bit, over natural numbers; where up to 32 bits are turned it is another one.
-/
namespace Go.Proofs.Ytknpncnogocbjaa.CrcMath

/-- The polynomial, lowest bits first. -/
def poly : Nat := 3988292384
/-- One bit's step, on any natural number. -/
def st (n : Nat) : Nat := n / 2 ^^^ (if n % 2 = 1 then poly else 0)
def sts : Nat → Nat → Nat
  | 0, n => n
  | k + 1, n => sts k (st n)
def ev (n : Nat) : Nat := sts 8 n

theorem poly_lt : poly < 2 ^ 32 := by decide
theorem xor_div2 (a b : Nat) : (a ^^^ b) / 2 = a / 2 ^^^ b / 2 := by
  have := Nat.shiftRight_xor_distrib (a := a) (b := b) (i := 1)
  simpa [Nat.shiftRight_succ] using this

theorem st_xor (a b : Nat) : st (a ^^^ b) = st a ^^^ st b := by
  unfold st
  rw [xor_div2]
  have h := @Nat.xor_mod_two_eq_one a b
  by_cases ha : a % 2 = 1 <;> by_cases hb : b % 2 = 1
  · rw [if_neg (by simp [h, ha, hb]), if_pos ha, if_pos hb]
    rw [Nat.xor_zero, Nat.xor_assoc, ← Nat.xor_assoc poly, Nat.xor_comm poly, Nat.xor_assoc (b/2), Nat.xor_self, Nat.xor_zero]
  · rw [if_pos (by simp [h, ha, hb]), if_pos ha, if_neg hb]
    rw [Nat.xor_zero, Nat.xor_assoc, Nat.xor_assoc, Nat.xor_comm poly]
  · rw [if_pos (by simp [h, ha, hb]), if_neg ha, if_pos hb]
    rw [Nat.xor_zero, Nat.xor_assoc]
  · rw [if_neg (by simp [h, ha, hb]), if_neg ha, if_neg hb]
    simp

theorem sts_xor (k a b : Nat) : sts k (a ^^^ b) = sts k a ^^^ sts k b := by
  induction k generalizing a b with
  | zero => rfl
  | succ k ih => simp only [sts, st_xor, ih]

theorem sts_add (j k n : Nat) : sts (j + k) n = sts k (sts j n) := by
  induction j generalizing n with
  | zero => simp [sts]
  | succ j ih => rw [Nat.succ_add]; simp only [sts]; exact ih _

theorem st_two (m : Nat) : st (2 * m) = m := by
  unfold st; rw [if_neg (by omega)]; simp

theorem sts_pow (k m : Nat) : sts k (2 ^ k * m) = m := by
  induction k generalizing m with
  | zero => simp [sts]
  | succ k ih => simp only [sts]; rw [Nat.pow_succ, Nat.mul_comm (2 ^ k) 2, Nat.mul_assoc, st_two, ih]

theorem st_lt {n : Nat} (h : n < 2 ^ 32) : st n < 2 ^ 32 := by
  unfold st
  apply Nat.xor_lt_two_pow
  · omega
  · split
    · exact poly_lt
    · decide

theorem sts_lt (k : Nat) {n : Nat} (h : n < 2 ^ 32) : sts k n < 2 ^ 32 := by
  induction k generalizing n with
  | zero => exact h
  | succ k ih => exact ih (st_lt h)

theorem xor_eq_zero {a b : Nat} : a ^^^ b = 0 ↔ a = b := by
  constructor
  · intro h
    have : (a ^^^ b) ^^^ b = 0 ^^^ b := by rw [h]
    rwa [Nat.xor_assoc, Nat.xor_self, Nat.xor_zero, Nat.zero_xor] at this
  · rintro rfl; exact Nat.xor_self _

theorem st_zero {n : Nat} (h : n < 2 ^ 32) (hz : st n = 0) : n = 0 := by
  unfold st at hz
  by_cases ho : n % 2 = 1
  · rw [if_pos ho] at hz
    have := xor_eq_zero.1 hz
    unfold poly at this
    omega
  · rw [if_neg ho, Nat.xor_zero] at hz
    omega

theorem sts_of_zero (k : Nat) : sts k 0 = 0 := by
  induction k with
  | zero => rfl
  | succ k ih => simp only [sts]; rw [show st 0 = 0 from by decide]; exact ih

theorem sts_zero (k : Nat) {n : Nat} (h : n < 2 ^ 32) : sts k n = 0 ↔ n = 0 := by
  constructor
  · intro hz
    induction k generalizing n with
    | zero => exact hz
    | succ k ih => exact st_zero h (ih (st_lt h) hz)
  · rintro rfl; exact sts_of_zero k

/-- The sum's inner state behind bytes. -/
def run (s : Nat) : List Nat → Nat
  | [] => s
  | x :: l => run (ev (s ^^^ x)) l

/-- Bytes as one number, lowest first. -/
def num : List Nat → Nat
  | [] => 0
  | x :: l => x + 256 * num l

theorem add_xor {x : Nat} (m : Nat) (h : x < 256) : x + 256 * m = x ^^^ (256 * m) := by
  have := Nat.shiftLeft_add_eq_or_of_lt (a := m) (b := x) (i := 8) (by omega)
  rw [Nat.shiftLeft_eq] at this
  rw [Nat.add_comm, Nat.mul_comm]
  apply Nat.eq_of_testBit_eq
  intro i
  have e : (2:Nat)^8 = 256 := by decide
  rw [← e, this, Nat.testBit_or, Nat.testBit_xor]
  by_cases hi : i < 8
  · have : (m * 2 ^ 8).testBit i = false := by rw [Nat.testBit_mul_two_pow]; simp [Nat.not_le.2 hi]
    rw [this]; simp
  · have : x.testBit i = false := Nat.testBit_lt_two_pow (Nat.lt_of_lt_of_le h (by rw [← e]; exact Nat.pow_le_pow_right (by decide) (by omega)))
    rw [this]; simp

theorem sts_256 (m : Nat) : sts 8 (256 * m) = m := by
  have h := sts_pow 8 m
  have e : (2 : Nat) ^ 8 = 256 := by decide
  rwa [e] at h

theorem run_num (l : List Nat) (hl : ∀ x ∈ l, x < 256) (s : Nat) : run s l = sts (8 * l.length) (s ^^^ num l) := by
  induction l generalizing s with
  | nil => simp [run, num, sts]
  | cons x l ih =>
    have hx := hl x (by simp)
    simp only [run, num]
    rw [ih (fun y hy => hl y (by simp [hy]))]
    rw [List.length_cons, show 8 * (l.length + 1) = 8 + 8 * l.length by omega, sts_add]
    congr 1
    rw [add_xor _ hx, ← Nat.xor_assoc, sts_xor]
    rw [sts_256]
    unfold ev
    rfl

theorem xor256 {x k : Nat} (hx : x < 256) (hk : k < 8) : x ^^^ 2 ^ k < 256 := by
  have e : (256 : Nat) = 2 ^ 8 := by decide
  rw [e] at hx ⊢
  exact Nat.xor_lt_two_pow hx (Nat.pow_lt_pow_right (by decide) hk)

/-- One bit of a list of bytes is turned. -/
def flip : List Nat → Nat → List Nat
  | [], _ => []
  | x :: l, k => if k < 8 then (x ^^^ 2 ^ k) :: l else x :: flip l (k - 8)

theorem flip_length (l : List Nat) (k : Nat) : (flip l k).length = l.length := by
  induction l generalizing k with
  | nil => rfl
  | cons x l ih => unfold flip; split <;> simp [ih]

theorem flip_byte (l : List Nat) (k : Nat) (hl : ∀ x ∈ l, x < 256) : ∀ x ∈ flip l k, x < 256 := by
  induction l generalizing k with
  | nil => simp [flip]
  | cons x l ih =>
    unfold flip
    split
    · rename_i hk
      intro y hy
      rcases List.mem_cons.1 hy with rfl | hy
      · exact xor256 (hl x (by simp)) hk
      · exact hl y (by simp [hy])
    · intro y hy
      rcases List.mem_cons.1 hy with rfl | hy
      · exact hl _ (by simp)
      · exact ih _ (fun z hz => hl z (by simp [hz])) y hy

theorem num_flip (l : List Nat) (k : Nat) (hl : ∀ x ∈ l, x < 256) (hk : k < 8 * l.length) : num (flip l k) = num l ^^^ 2 ^ k := by
  induction l generalizing k with
  | nil => simp at hk
  | cons x l ih =>
    have hx := hl x (by simp)
    unfold flip
    split
    · rename_i h8
      simp only [num]
      have h2 : x ^^^ 2 ^ k < 256 := xor256 hx h8
      rw [add_xor _ h2, add_xor _ hx, Nat.xor_assoc, Nat.xor_assoc, Nat.xor_comm (2 ^ k)]
    · rename_i h8
      simp only [num]
      rw [ih (k - 8) (fun z hz => hl z (by simp [hz])) (by simp at hk; omega)]
      rw [add_xor _ hx, add_xor _ hx, Nat.xor_assoc]
      congr 1
      have e : (2 : Nat) ^ k = 256 * 2 ^ (k - 8) := by
        rw [show (256 : Nat) = 2 ^ 8 from rfl, ← Nat.pow_add]; congr 1; omega
      rw [e]
      have := Nat.shiftLeft_xor_distrib (a := num l) (b := 2 ^ (k - 8)) (i := 8)
      simp only [Nat.shiftLeft_eq] at this
      rw [Nat.mul_comm, show (256:Nat) = 2^8 from rfl, this, Nat.mul_comm _ (2^8), Nat.mul_comm _ (2^8)]

/-- The bits of a turn, from the lowest on, so many of them. -/
theorem mod_succ (t i : Nat) : t % 2 ^ (i + 1) = t % 2 ^ i ^^^ (if t / 2 ^ i % 2 = 1 then 2 ^ i else 0) := by
  apply Nat.eq_of_testBit_eq
  intro j
  rw [Nat.testBit_xor, Nat.testBit_mod_two_pow, Nat.testBit_mod_two_pow]
  by_cases h : t / 2 ^ i % 2 = 1
  · rw [if_pos h, Nat.testBit_two_pow]
    have hb : t.testBit i = true := by rw [Nat.testBit_eq_decide_div_mod_eq]; simp [h]
    rcases Nat.lt_trichotomy j i with hj | rfl | hj
    · simp [hj, Nat.lt_succ_of_lt hj, Nat.ne_of_gt hj]
    · simp [hb]
    · simp [Nat.not_lt.2 (Nat.le_of_lt hj), show ¬ j < i + 1 by omega, Nat.ne_of_lt hj]
  · rw [if_neg h, Nat.zero_testBit]
    have hb : t.testBit i = false := by rw [Nat.testBit_eq_decide_div_mod_eq]; simp [h]
    by_cases hj : j = i
    · subst hj; simp [hb]
    · rcases Nat.lt_or_gt_of_ne hj with hj | hj
      · simp [hj, Nat.lt_succ_of_lt hj]
      · simp [Nat.not_lt.2 (Nat.le_of_lt hj), show ¬ j < i + 1 by omega]

theorem mul_xor (k a b : Nat) : 2 ^ k * (a ^^^ b) = 2 ^ k * a ^^^ 2 ^ k * b := by
  have := Nat.shiftLeft_xor_distrib (a := a) (b := b) (i := k)
  simp only [Nat.shiftLeft_eq] at this
  rw [Nat.mul_comm, this, Nat.mul_comm a, Nat.mul_comm b]

/-- c is b, the bits of t from at on turned, i of them. -/
def Turned (b c : List Nat) (at_ t i : Nat) : Prop :=
  c.length = b.length ∧ (∀ x ∈ c, x < 256) ∧ num c = num b ^^^ 2 ^ at_ * (t % 2 ^ i)

theorem Turned.zero {b : List Nat} (hb : ∀ x ∈ b, x < 256) (at_ t : Nat) : Turned b b at_ t 0 :=
  ⟨rfl, hb, by simp [Nat.mod_one]⟩

theorem Turned.step {b c : List Nat} {at_ t i : Nat} (h : Turned b c at_ t i) (hi : at_ + i < 8 * b.length) :
    Turned b (if t / 2 ^ i % 2 = 1 then flip c (at_ + i) else c) at_ t (i + 1) := by
  obtain ⟨h1, h2, h3⟩ := h
  rw [← h1] at hi
  by_cases hb : t / 2 ^ i % 2 = 1
  · rw [if_pos hb]
    refine ⟨by rw [flip_length, h1], flip_byte _ _ h2, ?_⟩
    rw [num_flip _ _ h2 hi, h3, mod_succ, if_pos hb, mul_xor, ← Nat.pow_add, Nat.xor_assoc]
  · rw [if_neg hb]
    refine ⟨h1, h2, ?_⟩
    rw [h3, mod_succ, if_neg hb, Nat.xor_zero]

/-- The burst's law: sums are the same only where no bit was turned. -/
theorem burst {b c : List Nat} {at_ t i : Nat} (hb : ∀ x ∈ b, x < 256) (h : Turned b c at_ t i) (hat : at_ + i ≤ 8 * b.length) (hi : i ≤ 32) (s : Nat) :
    run s c = run s b ↔ t % 2 ^ i = 0 := by
  obtain ⟨h1, h2, h3⟩ := h
  rw [run_num c h2, run_num b hb, h1, h3]
  rw [← xor_eq_zero, ← sts_xor]
  have e : (s ^^^ (num b ^^^ 2 ^ at_ * (t % 2 ^ i))) ^^^ (s ^^^ num b) = 2 ^ at_ * (t % 2 ^ i) := by
    apply Nat.eq_of_testBit_eq
    intro j
    simp only [Nat.testBit_xor]
    cases s.testBit j <;> cases (num b).testBit j <;> simp
  rw [e, show 8 * b.length = at_ + (8 * b.length - at_) by omega, sts_add, sts_pow]
  apply sts_zero
  exact Nat.lt_of_lt_of_le (Nat.mod_lt _ (Nat.two_pow_pos _)) (Nat.pow_le_pow_right (by decide) hi)

/-! the program's way -/
theorem ev_split (c x : Nat) : ev (c ^^^ x) = ev (c % 256 ^^^ x) ^^^ c / 256 := by
  have e : c = (c % 256) ^^^ (256 * (c / 256)) := by
    rw [← add_xor _ (Nat.mod_lt _ (by decide))]; omega
  conv => lhs; rw [e]
  rw [Nat.xor_assoc, Nat.xor_comm (256 * _), ← Nat.xor_assoc]
  unfold ev
  rw [sts_xor]
  rw [sts_256]

theorem run_append (s : Nat) (l m : List Nat) : run s (l ++ m) = run (run s l) m := by
  induction l generalizing s with
  | nil => rfl
  | cons x l ih => simp only [List.cons_append, run]; exact ih _

theorem run_lt (l : List Nat) (hl : ∀ x ∈ l, x < 256) {s : Nat} (h : s < 2 ^ 32) : run s l < 2 ^ 32 := by
  induction l generalizing s with
  | nil => exact h
  | cons x l ih =>
    simp only [run]
    refine ih (fun y hy => hl y (by simp [hy])) (sts_lt 8 (Nat.xor_lt_two_pow h ?_))
    exact Nat.lt_trans (hl x (by simp)) (by decide)
end Go.Proofs.Ytknpncnogocbjaa.CrcMath

/-
  The plain mathematics of areas: which may be, legs, tours and what is nearest, over lists of numbers.
-/
namespace Go.Proofs.Ytakiciemkecgfaa.AreaMath
/-- a list's number at a place -/
def at_ (l : List Int) (k : Nat) : Int := l.getD k 0
/-- may a number stand at a place of a square? -/
def okB (n : Int) (k : Nat) (x : Int) : Bool := decide (0 ≤ x) && decide (x ≤ 1000000) && (!((k : Int) / n == (k : Int) % n) || x == 0)
/-- the first k numbers may -/
def UpTo (n : Int) (l : List Int) (k : Nat) : Prop := ∀ j, j < k → okB n j (at_ l j) = true
def listB (n : Int) (l : List Int) : Bool := (List.range l.length).all fun k => okB n k (at_ l k)
def validB (n : Int) (D T : List Int) : Bool := decide (1 ≤ n) && decide (n ≤ 16) && ((D.length : Int) == n * n) && ((T.length : Int) == n * n) && listB n D && listB n T

theorem UpTo.zero (n : Int) (l : List Int) : UpTo n l 0 := fun j hj => by omega
theorem UpTo.step {n : Int} {l : List Int} {k : Nat} (h : UpTo n l k) (hk : okB n k (at_ l k) = true) : UpTo n l (k + 1) := by
  intro j hj
  by_cases e : j = k
  · subst e; exact hk
  · exact h j (by omega)
theorem UpTo.done {n : Int} {l : List Int} (h : UpTo n l l.length) : listB n l = true := by
  unfold listB; rw [List.all_eq_true]; intro k hk; exact h k (List.mem_range.1 hk)
theorem listB_not {n : Int} {l : List Int} {k : Nat} (hk : k < l.length) (h : okB n k (at_ l k) = false) : listB n l = false := by
  unfold listB; rw [← Bool.not_eq_true, List.all_eq_true]
  intro hall
  rw [hall k (List.mem_range.2 hk)] at h
  cases h
theorem listB_at {n : Int} {l : List Int} (h : listB n l = true) (k : Nat) (hk : k < l.length) : okB n k (at_ l k) = true := by
  unfold listB at h; rw [List.all_eq_true] at h; exact h k (List.mem_range.2 hk)
theorem okB_iff {n : Int} {k : Nat} {x : Int} : okB n k x = true ↔ 0 ≤ x ∧ x ≤ 1000000 ∧ ((k : Int) / n = (k : Int) % n → x = 0) := by
  unfold okB
  simp only [Bool.and_eq_true, decide_eq_true_eq, Bool.or_eq_true, Bool.not_eq_true', beq_eq_false_iff_ne, ne_eq, beq_iff_eq, and_assoc]
  constructor
  · rintro ⟨h1, h2, h3⟩; exact ⟨h1, h2, fun e => by rcases h3 with h | h; exact absurd e h; exact h⟩
  · rintro ⟨h1, h2, h3⟩
    refine ⟨h1, h2, ?_⟩
    by_cases e : (k : Int) / n = (k : Int) % n
    · exact .inr (h3 e)
    · exact .inl e
theorem validB_iff {n : Int} {D T : List Int} : validB n D T = true ↔ 1 ≤ n ∧ n ≤ 16 ∧ (D.length : Int) = n * n ∧ (T.length : Int) = n * n ∧ listB n D = true ∧ listB n T = true := by
  unfold validB; simp only [Bool.and_eq_true, decide_eq_true_eq, beq_iff_eq, and_assoc]

/-- a node of an area -/
def nodeB (n x : Int) : Bool := decide (0 ≤ x) && decide (x < n)
def nodesB (n : Int) (l : List Int) : Bool := l.all (nodeB n)
theorem nodeB_iff {n x : Int} : nodeB n x = true ↔ 0 ≤ x ∧ x < n := by
  unfold nodeB; simp only [Bool.and_eq_true, decide_eq_true_eq]
def NodesTo (n : Int) (l : List Int) (k : Nat) : Prop := ∀ j, j < k → nodeB n (at_ l j) = true
theorem NodesTo.zero (n : Int) (l : List Int) : NodesTo n l 0 := fun j hj => by omega
theorem NodesTo.step {n : Int} {l : List Int} {k : Nat} (h : NodesTo n l k) (hk : nodeB n (at_ l k) = true) : NodesTo n l (k + 1) := by
  intro j hj
  by_cases e : j = k
  · subst e; exact hk
  · exact h j (by omega)
theorem at_mem {l : List Int} {k : Nat} (hk : k < l.length) : at_ l k ∈ l := by simp [at_, hk]
theorem mem_at {l : List Int} {x : Int} (h : x ∈ l) : ∃ k, k < l.length ∧ at_ l k = x := by
  obtain ⟨k, hk, rfl⟩ := List.getElem_of_mem h
  exact ⟨k, hk, by simp [at_, hk]⟩
theorem NodesTo.done {n : Int} {l : List Int} (h : NodesTo n l l.length) : nodesB n l = true := by
  unfold nodesB; rw [List.all_eq_true]; intro x hx
  obtain ⟨k, hk, rfl⟩ := mem_at hx
  exact h k hk
theorem nodesB_not {n : Int} {l : List Int} {k : Nat} (hk : k < l.length) (h : nodeB n (at_ l k) = false) : nodesB n l = false := by
  unfold nodesB; rw [← Bool.not_eq_true, List.all_eq_true]
  intro hall
  rw [hall _ (at_mem hk)] at h; cases h
theorem nodesB_at {n : Int} {l : List Int} (h : nodesB n l = true) (k : Nat) (hk : k < l.length) : nodeB n (at_ l k) = true := by
  unfold nodesB at h; rw [List.all_eq_true] at h; exact h _ (at_mem hk)

/-- why not: of an area and nodes -/
def allE (n : Int) (D T l : List Int) : Int := if validB n D T then if nodesB n l then 0 else 5 else 1
def place (n x y : Int) : Nat := (x * n + y).toNat

theorem place_lt {n x y : Int} (hx : nodeB n x = true) (hy : nodeB n y = true) : 0 ≤ x * n + y ∧ x * n + y < n * n := by
  have h1 := nodeB_iff.1 hx
  have h2 := nodeB_iff.1 hy
  have e1 : 0 ≤ x * n := Int.mul_nonneg h1.1 (by omega)
  have e2 : x * n ≤ (n - 1) * n := Int.mul_le_mul_of_nonneg_right (by omega) (by omega)
  have e3 : (n - 1) * n = n * n - n := by rw [Int.sub_mul]; omega
  omega
theorem place_div {n x y : Int} (hx : nodeB n x = true) (hy : nodeB n y = true) : (place n x y : Int) / n = x ∧ (place n x y : Int) % n = y := by
  have h1 := nodeB_iff.1 hx
  have h2 := nodeB_iff.1 hy
  have hp := place_lt hx hy
  have e : (place n x y : Int) = y + x * n := by unfold place; omega
  rw [e]
  constructor
  · rw [Int.add_mul_ediv_right _ _ (by omega), Int.ediv_eq_zero_of_lt h2.1 h2.2]; omega
  · rw [Int.add_mul_emod_self_right, Int.emod_eq_of_lt h2.1 h2.2]
theorem of_place {n : Int} (hn : 1 ≤ n) (k : Nat) (hk : (k : Int) < n * n) : nodeB n ((k : Int) / n) = true ∧ nodeB n ((k : Int) % n) = true ∧ place n ((k : Int) / n) ((k : Int) % n) = k := by
  have h1 : 0 ≤ (k : Int) / n := Int.ediv_nonneg (by omega) (by omega)
  have h2 : (k : Int) / n < n := Int.ediv_lt_of_lt_mul (by omega) hk
  have h3 := Int.emod_nonneg (k : Int) (show n ≠ 0 by omega)
  have h4 := Int.emod_lt_of_pos (k : Int) (show 0 < n by omega)
  refine ⟨nodeB_iff.2 ⟨h1, h2⟩, nodeB_iff.2 ⟨h3, h4⟩, ?_⟩
  unfold place
  have := Int.ediv_mul_add_emod (k : Int) n
  omega

/-- a distance or a time -/
def leg (n : Int) (l : List Int) (x y : Int) : Int := at_ l (place n x y)
theorem leg_range {n : Int} {l : List Int} (h : listB n l = true) (hl : (l.length : Int) = n * n) {x y : Int} (hx : nodeB n x = true) (hy : nodeB n y = true) : 0 ≤ leg n l x y ∧ leg n l x y ≤ 1000000 := by
  have hp := place_lt hx hy
  have := okB_iff.1 (listB_at h (place n x y) (by unfold place; omega))
  exact ⟨this.1, this.2.1⟩
theorem leg_self {n : Int} {l : List Int} (h : listB n l = true) (hl : (l.length : Int) = n * n) {x : Int} (hx : nodeB n x = true) : leg n l x x = 0 := by
  have hp := place_lt hx hx
  have hd := place_div hx hx
  have := okB_iff.1 (listB_at h (place n x x) (by unfold place; omega))
  exact this.2.2 (by rw [hd.1, hd.2])

/-- a tour from a node on, back to the depot -/
def tour (n : Int) (D : List Int) : Int → List Int → Int
  | x, [] => leg n D x 0
  | x, y :: l => leg n D x y + tour n D y l
/-- the same without the way home, and where it ends -/
def path (n : Int) (D : List Int) : Int → List Int → Int
  | _, [] => 0
  | x, y :: l => leg n D x y + path n D y l
def lastN : Int → List Int → Int
  | x, [] => x
  | _, y :: l => lastN y l
theorem tour_path (n : Int) (D : List Int) (x : Int) (l : List Int) : tour n D x l = path n D x l + leg n D (lastN x l) 0 := by
  induction l generalizing x with
  | nil => simp [tour, path, lastN]
  | cons y l ih => simp only [tour, path, lastN, ih]; omega
theorem path_snoc (n : Int) (D : List Int) (x y : Int) (l : List Int) : path n D x (l ++ [y]) = path n D x l + leg n D (lastN x l) y := by
  induction l generalizing x with
  | nil => simp [path, lastN]
  | cons z l ih => simp only [List.cons_append, path, lastN, ih]; omega
theorem lastN_snoc (x y : Int) (l : List Int) : lastN x (l ++ [y]) = y := by
  induction l generalizing x with
  | nil => rfl
  | cons z l ih => simp only [List.cons_append, lastN, ih]
theorem take_snoc (l : List Int) (k : Nat) (h : k < l.length) : l.take (k + 1) = l.take k ++ [at_ l k] := by
  rw [List.take_succ_eq_append_getElem h]; simp [at_, h]
theorem tour_parts (n : Int) (D : List Int) (l m : List Int) (x : Int) : tour n D x (l ++ 0 :: m) = tour n D x l + tour n D 0 m := by
  induction l generalizing x with
  | nil => simp [tour]
  | cons y l ih => simp only [List.cons_append, tour, ih]; omega
theorem nodeB_lastN {n x : Int} {l : List Int} (hx : nodeB n x = true) (hl : nodesB n l = true) : nodeB n (lastN x l) = true := by
  induction l generalizing x with
  | nil => exact hx
  | cons y l ih => simp only [nodesB, List.all_cons, Bool.and_eq_true] at hl; exact ih hl.1 hl.2
theorem nodesB_take {n : Int} {l : List Int} (h : nodesB n l = true) (k : Nat) : nodesB n (l.take k) = true := by
  unfold nodesB at *; rw [List.all_eq_true] at *; exact fun x hx => h x (List.mem_of_mem_take hx)
theorem path_range {n : Int} {D : List Int} (h : listB n D = true) (hl : (D.length : Int) = n * n) {x : Int} {l : List Int} (hx : nodeB n x = true) (hn : nodesB n l = true) : 0 ≤ path n D x l ∧ path n D x l ≤ 1000000 * (l.length : Int) := by
  induction l generalizing x with
  | nil => simp [path]
  | cons y l ih =>
    simp only [nodesB, List.all_cons, Bool.and_eq_true] at hn
    have := leg_range h hl hx hn.1
    have := ih hn.1 hn.2
    simp only [path, List.length_cons]; omega

/-- what is nearest: over the first nodes, from a bound on -/
def near (n : Int) (D : List Int) (y : Int) : Int → List Int → Int
  | b, [] => b
  | b, x :: l => near n D y (if x = y then b else min b (leg n D x y)) l
theorem near_snoc (n : Int) (D : List Int) (y b : Int) (l : List Int) (x : Int) : near n D y b (l ++ [x]) = if x = y then near n D y b l else min (near n D y b l) (leg n D x y) := by
  induction l generalizing b with
  | nil => simp [near]
  | cons z l ih => simp only [List.cons_append, near, ih]
end Go.Proofs.Ytakiciemkecgfaa.AreaMath

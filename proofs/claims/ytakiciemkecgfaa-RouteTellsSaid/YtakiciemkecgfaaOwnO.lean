/-
  Slices of orders and of trucks that a call owns; a world's box that is written; the plain law of LoadOrder.
-/
import Derived.Test.YtakiciemkecgfaaLess
import Derived.OneCell
namespace Go.Proofs.Ytakiciemkecgfaa.Load
open Go.RowKit Go.Proofs Go.Proofs.Ytakiciemkecgfaa.AreaMath Go.Proofs.Ytakiciemkecgfaa.Area
set_option maxRecDepth 100000
set_option linter.unusedVariables false

theorem info44 : (Try.prog.info? 44).map (fun i => (i.zero, i.size, i.bytes)) = some (some (.agg #[.int .i64 0, .int .i64 0, .int .i64 0, .int .i64 0, .int .i64 0, .int .i64 0, .int .i64 0, .int .i64 0]), 8, 64) := by kernel_rfl
theorem info42 : (Try.prog.info? 42).map (fun i => (i.zero, i.size, i.bytes)) = some (some (.agg #[.int .i64 0, .int .i64 0, .int .i64 0, .int .i64 0, .int .i64 0, .int .i64 0, .int .i64 0]), 7, 56) := by kernel_rfl

/-- rows of one length, one behind the other -/
theorem flat_get {α : Type} (f : α → List Value) (n : Nat) (d : α) (hn : ∀ x, (f x).length = n) (l : List α) (k j : Nat) (hk : k < l.length) (hj : j < n) : (l.flatMap f)[k * n + j]? = (f (l.getD k d))[j]? := by
  induction l generalizing k with
  | nil => simp at hk
  | cons x l ih =>
    rw [List.flatMap_cons]
    cases k with
    | zero =>
      rw [Nat.zero_mul, Nat.zero_add, List.getElem?_append_left (by rw [hn]; exact hj)]
      rfl
    | succ k =>
      rw [List.getElem?_append_right (by rw [hn, Nat.succ_mul]; omega), hn, Nat.succ_mul, show k * n + n + j - n = k * n + j by omega, ih k (by simpa using hk)]
      rfl
theorem flat_len {α : Type} (f : α → List Value) (n : Nat) (hn : ∀ x, (f x).length = n) (l : List α) : (l.flatMap f).length = l.length * n := by
  induction l with
  | nil => simp
  | cons x l ih => rw [List.flatMap_cons, List.length_append, hn, ih, List.length_cons, Nat.succ_mul]; omega

def cellsO (l : List Ord) : List Value := l.flatMap fun o => o.cells.toList
def cellsT (l : List Trk) : List Value := l.flatMap fun o => o.cells.toList
theorem cellsO_one (l : List Ord) : ∀ u ∈ cellsO l, u.oneCell' = true := by
  intro u hu
  obtain ⟨o, _, h⟩ := List.mem_flatMap.1 hu
  simp only [Ord.cells, List.mem_cons, List.not_mem_nil, or_false] at h
  rcases h with h | h | h | h | h | h | h | h <;> rw [h] <;> rfl
theorem cellsT_one (l : List Trk) : ∀ u ∈ cellsT l, u.oneCell' = true := by
  intro u hu
  obtain ⟨o, _, h⟩ := List.mem_flatMap.1 hu
  simp only [Trk.cells, List.mem_cons, List.not_mem_nil, or_false] at h
  rcases h with h | h | h | h | h | h | h <;> rw [h] <;> rfl
theorem ownO_reads {w : World} {base e n : Nat} {a : Option Addr} {c : Nat} {xs : List Ord} (h : w.ownsRow base e 8 (.slice a n c) n (cellsO xs)) (hl : xs.length = n) : ReadsO w a xs := by
  intro h0
  obtain ⟨g, cap, hv, _, _⟩ := h.form (by omega)
  cases hv
  refine ⟨g, 0, rfl, fun k hk j v hv => ?_⟩
  have hj : j < 8 := by
    have := (Array.getElem?_eq_some_iff.1 hv).1
    simpa [Ord.cells] using this
  rw [Nat.zero_add, h.cellAt (k * 8 + j) (by omega)]
  unfold cellsO
  rw [flat_get (fun o : Ord => o.cells.toList) 8 ord0 (fun x => rfl) xs k j hk hj, Array.getElem?_toList]
  exact hv
theorem ownT_reads {w : World} {base e n : Nat} {a : Option Addr} {c : Nat} {xs : List Trk} (h : w.ownsRow base e 7 (.slice a n c) n (cellsT xs)) (hl : xs.length = n) : ReadsT w a xs := by
  intro h0
  obtain ⟨g, cap, hv, _, _⟩ := h.form (by omega)
  cases hv
  refine ⟨g, 0, rfl, fun k hk j v hv => ?_⟩
  have hj : j < 7 := by
    have := (Array.getElem?_eq_some_iff.1 hv).1
    simpa [Trk.cells] using this
  rw [Nat.zero_add, h.cellAt (k * 7 + j) (by omega)]
  unfold cellsT
  rw [flat_get (fun o : Trk => o.cells.toList) 7 trk0 (fun x => rfl) xs k j hk hj, Array.getElem?_toList]
  exact hv
theorem own_cap {w : World} {base e size n : Nat} {a : Option Addr} {c : Nat} {xs : List Value} (h : w.ownsRow base e size (.slice a n c) n xs) : n ≤ c := by
  rcases h.2 with ⟨hv, h0⟩ | ⟨g, cap, cur, hv, _, _, h1, _⟩
  · cases hv; omega
  · cases hv; exact h1
theorem ReadsO.far {w w1 : World} {a : Option Addr} {l : List Ord} {B : Nat} (h : ReadsO w a l) (hb : ∀ p : Addr, p.block < w.heap.size → p.block ≠ B → w1.cell? p = w.cell? p) (hne : (Value.slice a 0 0).ownBlock ≠ some B) : ReadsO w1 a l := by
  intro hl
  obtain ⟨b, off, ha, hc⟩ := h hl
  refine ⟨b, off, ha, fun k hk j v hv => ?_⟩
  have h1 := hc k hk j v hv
  rw [hb _ (World.block_lt_of_cell? w _ h1) (by subst ha; exact fun e => hne (by simp [Value.ownBlock, ← e]))]
  exact h1

/-- the five cells of a world's box -/
def FBox (w : World) (b : Nat) (n : Int) (s1 s2 s3 s4 : Value) : Prop :=
  w.cell? ⟨b, 0, none⟩ = some (.int .i64 n) ∧ w.cell? ⟨b, 1, none⟩ = some s1 ∧ w.cell? ⟨b, 2, none⟩ = some s2 ∧ w.cell? ⟨b, 3, none⟩ = some s3 ∧ w.cell? ⟨b, 4, none⟩ = some s4
theorem FBox.on {w w1 : World} {b : Nat} {n : Int} {s1 s2 s3 s4 : Value} (h : FBox w b n s1 s2 s3 s4) (hb : Below w.heap.size w w1) : FBox w1 b n s1 s2 s3 s4 :=
  ⟨cell_on hb h.1, cell_on hb h.2.1, cell_on hb h.2.2.1, cell_on hb h.2.2.2.1, cell_on hb h.2.2.2.2⟩
theorem FBox.new (w : World) (n : Int) (s1 s2 s3 s4 : Value) (t : TypeId) : FBox (w.alloc (.cells #[.int .i64 n, s1, s2, s3, s4] t)) w.heap.size n s1 s2 s3 s4 :=
  ⟨box_cell w _ _ 0 _ rfl, box_cell w _ _ 1 _ rfl, box_cell w _ _ 2 _ rfl, box_cell w _ _ 3 _ rfl, box_cell w _ _ 4 _ rfl⟩
theorem FBox.lt {w : World} {b : Nat} {n : Int} {s1 s2 s3 s4 : Value} (h : FBox w b n s1 s2 s3 s4) : b < w.heap.size := World.block_lt_of_cell? w _ h.1
theorem FBox.far {w w1 : World} {b : Nat} {n : Int} {s1 s2 s3 s4 : Value} (h : FBox w b n s1 s2 s3 s4) (hb : ∀ k, ∀ x, w.cell? ⟨b, k, none⟩ = some x → w1.cell? ⟨b, k, none⟩ = some x) : FBox w1 b n s1 s2 s3 s4 :=
  ⟨hb _ _ h.1, hb _ _ h.2.1, hb _ _ h.2.2.1, hb _ _ h.2.2.2.1, hb _ _ h.2.2.2.2⟩
theorem cell_set_other {w : World} {b i j : Nat} {u x : Value} (h : w.cell? ⟨b, i, none⟩ = some x) (hne : j ≠ i) : (w.setCell ⟨b, j, none⟩ u).cell? ⟨b, i, none⟩ = some x := by
  have e := World.cell?_setCell_other w ⟨b, j, none⟩ ⟨b, i, none⟩ u (by intro e; cases e; exact hne rfl)
  rw [e]; exact h
theorem FBox.set3 {w : World} {b : Nat} {n : Int} {s1 s2 s3 s4 : Value} (h : FBox w b n s1 s2 s3 s4) (u : Value) : FBox (w.setCell ⟨b, 3, none⟩ u) b n s1 s2 u s4 :=
  ⟨cell_set_other h.1 (by omega), cell_set_other h.2.1 (by omega), cell_set_other h.2.2.1 (by omega), World.cell?_setCell_same w _ _ h.2.2.2.1, cell_set_other h.2.2.2.2 (by omega)⟩
theorem FBox.set4 {w : World} {b : Nat} {n : Int} {s1 s2 s3 s4 : Value} (h : FBox w b n s1 s2 s3 s4) (u : Value) : FBox (w.setCell ⟨b, 4, none⟩ u) b n s1 s2 s3 u :=
  ⟨cell_set_other h.1 (by omega), cell_set_other h.2.1 (by omega), cell_set_other h.2.2.1 (by omega), cell_set_other h.2.2.2.1 (by omega), World.cell?_setCell_same w _ _ h.2.2.2.2⟩

/-! the plain law -/
theorem ordersE_rev (l : List Ord) (n : Int) : ordersE l.reverse n = ordersE l n := by unfold ordersE; rw [List.all_reverse]
theorem trucksE_rev (l : List Trk) : trucksE l.reverse = trucksE l := by unfold trucksE; rw [List.all_reverse]
theorem nodup_rev {α : Type} (l : List α) : l.reverse.Nodup ↔ l.Nodup := by simp [List.Nodup, List.pairwise_reverse, eq_comm]
theorem dupB_rev (l : List Int) : dupB l.reverse = dupB l := by
  rw [Bool.eq_iff_iff, dupB_iff, dupB_iff, nodup_rev]
theorem worldE_rev (n : Int) (O : List Ord) (R : List Trk) : worldE n O.reverse R.reverse = worldE n O R := by
  unfold worldE
  rw [List.length_reverse, List.length_reverse, ordersE_rev, trucksE_rev]
  unfold ids idsT
  rw [List.map_reverse, List.map_reverse, dupB_rev, dupB_rev]
theorem worldE_ok {n : Int} {O : List Ord} {R : List Trk} (h : worldE n O R = 0) : O.length ≤ 12 ∧ R.length ≤ 6 ∧ (∀ o ∈ O, ordE o n = 0) ∧ (∀ t ∈ R, trkE t = 0) ∧ (ids O).Nodup ∧ (idsT R).Nodup := by
  unfold worldE at h
  by_cases h1 : 12 < O.length ∨ 6 < R.length
  · rw [if_pos h1] at h; omega
  rw [if_neg h1] at h
  by_cases h2 : ordersE O n ≠ 0 ∨ trucksE R ≠ 0
  · rw [if_pos h2] at h; omega
  rw [if_neg h2] at h
  by_cases h3 : (dupB (ids O) || dupB (idsT R)) = true
  · rw [if_pos h3] at h; omega
  rw [Bool.not_eq_true, Bool.or_eq_false_iff, dupB_false, dupB_false] at h3
  have h4 : ordersE O n = 0 := by apply Decidable.byContradiction; intro h; exact h2 (.inl h)
  have h5 : trucksE R = 0 := by apply Decidable.byContradiction; intro h; exact h2 (.inr h)
  refine ⟨by omega, by omega, ?_, ?_, h3⟩
  · unfold ordersE at h4
    cases hb : O.all fun o => ordE o n == 0 with
    | false => rw [hb] at h4; simp at h4
    | true => intro o ho; simpa using List.all_eq_true.1 hb o ho
  · unfold trucksE at h5
    cases hb : R.all fun o => trkE o == 0 with
    | false => rw [hb] at h5; simp at h5
    | true => intro o ho; simpa using List.all_eq_true.1 hb o ho
theorem worldE_mk {n : Int} {O : List Ord} {R : List Trk} (h1 : O.length ≤ 12) (h2 : R.length ≤ 6) (h3 : ∀ o ∈ O, ordE o n = 0) (h4 : ∀ t ∈ R, trkE t = 0) (h5 : (ids O).Nodup) (h6 : (idsT R).Nodup) : worldE n O R = 0 := by
  unfold worldE
  have e1 : ordersE O n = 0 := by
    unfold ordersE
    rw [if_pos]
    rw [List.all_eq_true]; intro o ho; simpa using h3 o ho
  have e2 : trucksE R = 0 := by
    unfold trucksE
    rw [if_pos]
    rw [List.all_eq_true]; intro o ho; simpa using h4 o ho
  rw [if_neg (by omega), e1, e2, if_neg (by simp), (dupB_false _).2 h5, (dupB_false _).2 h6]
  rfl
theorem worldE_less {n : Int} {O : List Ord} {R : List Trk} (h : worldE n O R = 0) : worldE n (O.reverse.drop 1) R.reverse = 0 := by
  obtain ⟨h1, h2, h3, h4, h5, h6⟩ := worldE_ok h
  refine worldE_mk (by rw [List.length_drop, List.length_reverse]; omega) (by rw [List.length_reverse]; omega) (fun o ho => h3 o ?_) (fun t ht => h4 t (by simpa using ht)) ?_ ?_
  · have := List.mem_of_mem_drop ho; simpa using this
  · unfold ids
    rw [List.map_drop, List.map_reverse]
    exact List.Pairwise.sublist (List.drop_sublist 1 _) ((nodup_rev _).2 h5)
  · unfold idsT
    rw [List.map_reverse]
    exact (nodup_rev _).2 h6
theorem ids_ne {O : List Ord} (h : (ids O).Nodup) {i j : Nat} (hi : i < O.length) (hj : j < O.length) (hne : i ≠ j) : (ordAt O i).id ≠ (ordAt O j).id := by
  have hp : List.Pairwise (· ≠ ·) (ids O) := h
  rw [List.pairwise_iff_getElem] at hp
  have e : ∀ k (hk : k < O.length), (ids O)[k]'(by unfold ids; rw [List.length_map]; exact hk) = (ordAt O k).id := by
    intro k hk
    unfold ids ordAt
    rw [List.getElem_map, List.getD_eq_getElem?_getD, List.getElem?_eq_getElem hk]; rfl
  have l1 : (ids O).length = O.length := by unfold ids; rw [List.length_map]
  rcases Nat.lt_or_gt_of_ne hne with hlt | hlt
  · have := hp i j (by omega) (by omega) hlt
    rw [e i hi, e j hj] at this; exact this
  · have := hp j i (by omega) (by omega) hlt
    rw [e i hi, e j hj] at this; exact this.symm
theorem ordAt_revdrop (O : List Ord) (j : Nat) (hj : j + 1 < O.length) : ordAt (O.reverse.drop 1) j = ordAt O (O.length - 1 - (1 + j)) := by
  unfold ordAt
  rw [List.getD_eq_getElem?_getD, List.getD_eq_getElem?_getD, List.getElem?_drop, List.getElem?_reverse (by omega)]
theorem found_last {O : List Ord} (h : (ids O).Nodup) (h0 : 0 < O.length) {r : Int} (hf : Found O (ordAt O (O.length - 1)).id r) : r = (O.length : Int) - 1 := by
  rcases hf with ⟨_, hn⟩ | ⟨k, hk, rfl, he, _⟩
  · exact absurd rfl (hn (O.length - 1) (by omega))
  · by_cases e : k = O.length - 1
    · omega
    · exact absurd he (ids_ne h hk (by omega) e)
theorem found_none {O : List Ord} (h : (ids O).Nodup) (h0 : 0 < O.length) {r : Int} (hf : Found (O.reverse.drop 1) (ordAt O (O.length - 1)).id r) : r = -1 := by
  rcases hf with ⟨hr, _⟩ | ⟨k, hk, rfl, he, _⟩
  · exact hr
  · rw [List.length_drop, List.length_reverse] at hk
    rw [ordAt_revdrop O k (by omega)] at he
    exact absurd he (ids_ne h (by omega) (by omega) (by omega))
theorem ordAt_rev (O : List Ord) (j : Nat) (hj : j < O.length) : ordAt O.reverse j = ordAt O (O.length - 1 - j) := by
  unfold ordAt
  rw [List.getD_eq_getElem?_getD, List.getD_eq_getElem?_getD, List.getElem?_reverse (by omega)]
theorem trkAt_rev (O : List Trk) (j : Nat) (hj : j < O.length) : trkAt O.reverse j = trkAt O (O.length - 1 - j) := by
  unfold trkAt
  rw [List.getD_eq_getElem?_getD, List.getD_eq_getElem?_getD, List.getElem?_reverse (by omega)]
theorem cellsO_snoc (l : List Ord) (k : Nat) (hk : k < l.length) : cellsO (l.take k) ++ (ordAt l k).cells.toList = cellsO (l.take (k + 1)) := by
  unfold cellsO ordAt
  rw [List.take_succ_eq_append_getElem hk, List.flatMap_append]
  congr 1
  simp [List.getD_eq_getElem?_getD, List.getElem?_eq_getElem hk]
theorem cellsT_snoc (l : List Trk) (k : Nat) (hk : k < l.length) : cellsT (l.take k) ++ (trkAt l k).cells.toList = cellsT (l.take (k + 1)) := by
  unfold cellsT trkAt
  rw [List.take_succ_eq_append_getElem hk, List.flatMap_append]
  congr 1
  simp [List.getD_eq_getElem?_getD, List.getElem?_eq_getElem hk]
end Go.Proofs.Ytakiciemkecgfaa.Load

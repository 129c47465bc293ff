/-
  The walk of groupagelaw07's awake.
-/
import Derived.Test.YtakiciemkecgfaaLoadWorld
import Derived.Test.YtakiciemkecgfaaLoadMath
namespace Go.Proofs.Ytakiciemkecgfaa.Load
open Go.RowKit Go.Proofs Go.Proofs.Ytakiciemkecgfaa.AreaMath Go.Proofs.Ytakiciemkecgfaa.Area
set_option maxRecDepth 100000
set_option linter.unusedVariables false

/-- literal slices of orders and trucks -/
theorem reads_ords (w : World) (cs : Array Value) (l : List Ord) (t : TypeId) (h : ∀ k, k < l.length → ∀ j v, (ordAt l k).cells[j]? = some v → cs[k * 8 + j]? = some v) : ReadsO (w.alloc (.cells cs t)) (some ⟨w.heap.size, 0, none⟩) l := by
  intro _
  refine ⟨_, _, rfl, fun k hk j v hv => ?_⟩
  simp only [Nat.zero_add]
  exact box_cell w _ _ _ _ (h k hk j v hv)
theorem reads_trks (w : World) (cs : Array Value) (l : List Trk) (t : TypeId) (h : ∀ k, k < l.length → ∀ j v, (trkAt l k).cells[j]? = some v → cs[k * 7 + j]? = some v) : ReadsT (w.alloc (.cells cs t)) (some ⟨w.heap.size, 0, none⟩) l := by
  intro _
  refine ⟨_, _, rfl, fun k hk j v hv => ?_⟩
  simp only [Nat.zero_add]
  exact box_cell w _ _ _ _ (h k hk j v hv)
theorem lit_ord1 (o : Ord) : ∀ k, k < [o].length → ∀ j v, (ordAt [o] k).cells[j]? = some v → o.cells[k * 8 + j]? = some v := by
  intro k hk j v hv
  obtain rfl : k = 0 := by simpa using hk
  rw [Nat.zero_mul, Nat.zero_add]; exact hv
theorem lit_trk1 (o : Trk) : ∀ k, k < [o].length → ∀ j v, (trkAt [o] k).cells[j]? = some v → o.cells[k * 7 + j]? = some v := by
  intro k hk j v hv
  obtain rfl : k = 0 := by simpa using hk
  rw [Nat.zero_mul, Nat.zero_add]; exact hv
theorem lit_ord2 (o p : Ord) : ∀ k, k < [o, p].length → ∀ j v, (ordAt [o, p] k).cells[j]? = some v → (o.cells ++ p.cells)[k * 8 + j]? = some v := by
  intro k hk j v hv
  have hj : j < 8 := by
    have := (Array.getElem?_eq_some_iff.1 hv).1
    simpa [Ord.cells] using this
  simp only [List.length_cons, List.length_nil] at hk
  rcases (by omega : k = 0 ∨ k = 1) with rfl | rfl
  · rw [Nat.zero_mul, Nat.zero_add, Array.getElem?_append_left (by simp [Ord.cells]; omega)]; exact hv
  · rw [Nat.one_mul, Array.getElem?_append_right (by simp [Ord.cells])]
    have : 8 + j - o.cells.size = j := by simp [Ord.cells]
    rw [this]; exact hv

def awo : Ord := ⟨7, 0, 1, 4, 5, 0, 9, 0⟩
def awp : Ord := ⟨8, 0, 1, 7, 5, 0, 9, 0⟩
def awt : Trk := ⟨1, 10, 10, 0, 9, 0, 0⟩
def LW (w : World) : World := ((w.alloc (.cells #[.int .i64 7, .int .i64 0, .int .i64 1, .int .i64 4, .int .i64 5, .int .i64 0, .int .i64 9, .int .i64 0] 44)).alloc (.cells #[.int .i64 8, .int .i64 0, .int .i64 1, .int .i64 7, .int .i64 5, .int .i64 0, .int .i64 9, .int .i64 0] 44)).alloc (.cells #[.int .i64 1, .int .i64 10, .int .i64 10, .int .i64 0, .int .i64 9, .int .i64 0, .int .i64 0] 42)
/-- the cells of the three boxes -/
def OBox (w : World) (b : Nat) (o : Ord) : Prop :=
  w.cell? ⟨b, 0, none⟩ = some (.int .i64 o.id) ∧ w.cell? ⟨b, 1, none⟩ = some (.int .i64 o.owner) ∧ w.cell? ⟨b, 2, none⟩ = some (.int .i64 o.node) ∧ w.cell? ⟨b, 3, none⟩ = some (.int .i64 o.weight) ∧
  w.cell? ⟨b, 4, none⟩ = some (.int .i64 o.volume) ∧ w.cell? ⟨b, 5, none⟩ = some (.int .i64 o.frm) ∧ w.cell? ⟨b, 6, none⟩ = some (.int .i64 o.to) ∧ w.cell? ⟨b, 7, none⟩ = some (.int .i64 o.service)
def TBox (w : World) (b : Nat) (o : Trk) : Prop :=
  w.cell? ⟨b, 0, none⟩ = some (.int .i64 o.id) ∧ w.cell? ⟨b, 1, none⟩ = some (.int .i64 o.weight) ∧ w.cell? ⟨b, 2, none⟩ = some (.int .i64 o.volume) ∧ w.cell? ⟨b, 3, none⟩ = some (.int .i64 o.start) ∧
  w.cell? ⟨b, 4, none⟩ = some (.int .i64 o.stop) ∧ w.cell? ⟨b, 5, none⟩ = some (.int .i64 o.fixed) ∧ w.cell? ⟨b, 6, none⟩ = some (.int .i64 o.rate)
theorem OBox.on {w w1 : World} {b : Nat} {o : Ord} (h : OBox w b o) (hb : Below w.heap.size w w1) : OBox w1 b o :=
  ⟨cell_on hb h.1, cell_on hb h.2.1, cell_on hb h.2.2.1, cell_on hb h.2.2.2.1, cell_on hb h.2.2.2.2.1, cell_on hb h.2.2.2.2.2.1, cell_on hb h.2.2.2.2.2.2.1, cell_on hb h.2.2.2.2.2.2.2⟩
theorem TBox.on {w w1 : World} {b : Nat} {o : Trk} (h : TBox w b o) (hb : Below w.heap.size w w1) : TBox w1 b o :=
  ⟨cell_on hb h.1, cell_on hb h.2.1, cell_on hb h.2.2.1, cell_on hb h.2.2.2.1, cell_on hb h.2.2.2.2.1, cell_on hb h.2.2.2.2.2.1, cell_on hb h.2.2.2.2.2.2⟩
theorem OBox.new (w : World) (o : Ord) : OBox (w.alloc (.cells o.cells 44)) w.heap.size o :=
  ⟨box_cell w _ _ 0 _ rfl, box_cell w _ _ 1 _ rfl, box_cell w _ _ 2 _ rfl, box_cell w _ _ 3 _ rfl, box_cell w _ _ 4 _ rfl, box_cell w _ _ 5 _ rfl, box_cell w _ _ 6 _ rfl, box_cell w _ _ 7 _ rfl⟩
theorem TBox.new (w : World) (o : Trk) : TBox (w.alloc (.cells o.cells 42)) w.heap.size o :=
  ⟨box_cell w _ _ 0 _ rfl, box_cell w _ _ 1 _ rfl, box_cell w _ _ 2 _ rfl, box_cell w _ _ 3 _ rfl, box_cell w _ _ 4 _ rfl, box_cell w _ _ 5 _ rfl, box_cell w _ _ 6 _ rfl⟩
theorem below_new (w : World) (o : Obj) : Below w.heap.size w (w.alloc o) := (Below.refl _ w).alloc (Nat.le_refl _) o
theorem reads_op (w : World) (b : Nat) (hb : w.heap.size = b) : Hid (ReadsO (w.alloc (.cells #[.int .i64 7, .int .i64 0, .int .i64 1, .int .i64 4, .int .i64 5, .int .i64 0, .int .i64 9, .int .i64 0, .int .i64 8, .int .i64 0, .int .i64 1, .int .i64 7, .int .i64 5, .int .i64 0, .int .i64 9, .int .i64 0] 44)) (some ⟨b, 0, none⟩) [awo, awp]) := by
  subst hb
  have e : #[.int .i64 7, .int .i64 0, .int .i64 1, .int .i64 4, .int .i64 5, .int .i64 0, .int .i64 9, .int .i64 0, .int .i64 8, .int .i64 0, .int .i64 1, .int .i64 7, .int .i64 5, .int .i64 0, .int .i64 9, .int .i64 0] = awo.cells ++ awp.cells := rfl
  rw [e]
  exact reads_ords w _ _ _ (lit_ord2 awo awp)
theorem reads_oo (w : World) (b : Nat) (hb : w.heap.size = b) : Hid (ReadsO (w.alloc (.cells #[.int .i64 7, .int .i64 0, .int .i64 1, .int .i64 4, .int .i64 5, .int .i64 0, .int .i64 9, .int .i64 0, .int .i64 7, .int .i64 0, .int .i64 1, .int .i64 4, .int .i64 5, .int .i64 0, .int .i64 9, .int .i64 0] 44)) (some ⟨b, 0, none⟩) [awo, awo]) := by
  subst hb
  have e : #[.int .i64 7, .int .i64 0, .int .i64 1, .int .i64 4, .int .i64 5, .int .i64 0, .int .i64 9, .int .i64 0, .int .i64 7, .int .i64 0, .int .i64 1, .int .i64 4, .int .i64 5, .int .i64 0, .int .i64 9, .int .i64 0] = awo.cells ++ awo.cells := rfl
  rw [e]
  exact reads_ords w _ _ _ (lit_ord2 awo awo)
theorem reads_o (w : World) (b : Nat) (hb : w.heap.size = b) : Hid (ReadsO (w.alloc (.cells #[.int .i64 7, .int .i64 0, .int .i64 1, .int .i64 4, .int .i64 5, .int .i64 0, .int .i64 9, .int .i64 0] 44)) (some ⟨b, 0, none⟩) [awo]) := by
  subst hb
  exact reads_ords w awo.cells _ _ (lit_ord1 awo)
theorem reads_t (w : World) (b : Nat) (hb : w.heap.size = b) : Hid (ReadsT (w.alloc (.cells #[.int .i64 1, .int .i64 10, .int .i64 10, .int .i64 0, .int .i64 9, .int .i64 0, .int .i64 0] 42)) (some ⟨b, 0, none⟩) [awt]) := by
  subst hb
  exact reads_trks w awt.cells _ _ (lit_trk1 awt)
theorem hidO_on {w w1 : World} {a : Option Addr} {l : List Ord} (h : Hid (ReadsO w a l)) (hb : Hid (Below w.heap.size w w1)) : Hid (ReadsO w1 a l) := h.out.below hb.out
theorem lw_size (w : World) : (LW w).heap.size = w.heap.size + 1 + 1 + 1 := by unfold LW; simp
theorem hid_new {w0 w : World} (h : Hid (Below w0.heap.size w0 w)) (o : Obj) : Hid (Below w0.heap.size w0 (w.alloc o)) := h.out.alloc h.out.size o
theorem lw_below (w : World) : Below w.heap.size w (LW w) := below_on (below_on (below_new w _) (below_new _ _)) (below_new _ _)
theorem lw_o (w : World) : OBox (LW w) w.heap.size awo := ((OBox.new w awo).on (below_new _ _)).on (below_new _ _)
theorem lw_p (w : World) : OBox (LW w) (w.heap.size + 1) awp := by
  have h := (OBox.new (w.alloc (.cells awo.cells 44)) awp).on (below_new _ (.cells awt.cells 42))
  rw [World.size_alloc] at h
  exact h
theorem lw_t (w : World) : TBox (LW w) (w.heap.size + 1 + 1) awt := by
  have h := TBox.new ((w.alloc (.cells awo.cells 44)).alloc (.cells awp.cells 44)) awt
  rw [World.size_alloc, World.size_alloc] at h
  exact h

theorem l_sum {w0 w : World} {a : Option Addr} (hb : Hid (Below w0.heap.size w0 w)) (hL : Hid (ReadsO w a [awo, awp])) :
    Calls Try.prog 25 #[.slice a 2 2] w fun e w' => e = .returned (.tuple #[.int .i64 11, .int .i64 10, .int .i64 0]) ∧ Hid (Below w0.heap.size w0 w') := by
  refine (lsum_walk a [awo, awp] 2 2 w rfl hL.out (by omega)).mono ?_
  rintro _ w1 ⟨rfl, h1⟩
  exact ⟨three_ret (by decide) (by decide) (by decide), below_on hb.out h1⟩
theorem l_ord2 {w0 w : World} (hb : Hid (Below w0.heap.size w0 w)) :
    Calls Try.prog 23 #[.agg #[.int .i64 7, .int .i64 0, .int .i64 1, .int .i64 4, .int .i64 5, .int .i64 0, .int .i64 9, .int .i64 0], .int .i64 2] w fun e w' => e = .returned (.int .i64 0) ∧ Hid (Below w0.heap.size w0 w') := by
  refine (order_any awo 2 w).mono ?_
  rintro _ w1 ⟨rfl, h1⟩
  exact ⟨ret_i64 (by decide +kernel), below_on hb.out h1⟩
theorem l_ord1 {w0 w : World} (hb : Hid (Below w0.heap.size w0 w)) :
    Calls Try.prog 23 #[.agg #[.int .i64 7, .int .i64 0, .int .i64 1, .int .i64 4, .int .i64 5, .int .i64 0, .int .i64 9, .int .i64 0], .int .i64 1] w fun e w' => e = .returned (.int .i64 1) ∧ Hid (Below w0.heap.size w0 w') := by
  refine (order_any awo 1 w).mono ?_
  rintro _ w1 ⟨rfl, h1⟩
  exact ⟨ret_i64 (by decide +kernel), below_on hb.out h1⟩
theorem l_trk1 {w0 w : World} (hb : Hid (Below w0.heap.size w0 w)) :
    Calls Try.prog 29 #[.agg #[.int .i64 1, .int .i64 10, .int .i64 10, .int .i64 0, .int .i64 9, .int .i64 0, .int .i64 0]] w fun e w' => e = .returned (.int .i64 0) ∧ Hid (Below w0.heap.size w0 w') := by
  refine (truck_any awt w).mono ?_
  rintro _ w1 ⟨rfl, h1⟩
  exact ⟨ret_i64 (by decide), below_on hb.out h1⟩
theorem l_trk0 {w0 w : World} (hb : Hid (Below w0.heap.size w0 w)) :
    Calls Try.prog 29 #[.agg #[.int .i64 0, .int .i64 0, .int .i64 0, .int .i64 0, .int .i64 0, .int .i64 0, .int .i64 0]] w fun e w' => e = .returned (.int .i64 1) ∧ Hid (Below w0.heap.size w0 w') := by
  refine (truck_any trk0 w).mono ?_
  rintro _ w1 ⟨rfl, h1⟩
  exact ⟨ret_i64 (by decide), below_on hb.out h1⟩
theorem l_car1 {w0 w : World} {a : Option Addr} (hb : Hid (Below w0.heap.size w0 w)) (hL : Hid (ReadsO w a [awo])) :
    Calls Try.prog 31 #[.agg #[.int .i64 1, .int .i64 10, .int .i64 10, .int .i64 0, .int .i64 9, .int .i64 0, .int .i64 0], .slice a 1 1] w fun e w' => e = .returned (.int .i64 0) ∧ Hid (Below w0.heap.size w0 w') := by
  refine (carries_any awt a [awo] 1 1 w rfl hL.out (by omega)).mono ?_
  rintro _ w1 ⟨rfl, h1⟩
  exact ⟨ret_i64 (by decide), below_on hb.out h1⟩
theorem l_car2 {w0 w : World} {a : Option Addr} (hb : Hid (Below w0.heap.size w0 w)) (hL : Hid (ReadsO w a [awo, awp])) :
    Calls Try.prog 31 #[.agg #[.int .i64 1, .int .i64 10, .int .i64 10, .int .i64 0, .int .i64 9, .int .i64 0, .int .i64 0], .slice a 2 2] w fun e w' => e = .returned (.int .i64 9) ∧ Hid (Below w0.heap.size w0 w') := by
  refine (carries_any awt a [awo, awp] 2 2 w rfl hL.out (by omega)).mono ?_
  rintro _ w1 ⟨rfl, h1⟩
  exact ⟨ret_i64 (by decide), below_on hb.out h1⟩
theorem l_find1 {w0 w : World} {a : Option Addr} (hb : Hid (Below w0.heap.size w0 w)) (hL : Hid (ReadsO w a [awo, awp])) :
    Calls Try.prog 33 #[.slice a 2 2, .int .i64 8] w fun e w' => e = .returned (.int .i64 1) ∧ Hid (Below w0.heap.size w0 w') := by
  refine (find_any a [awo, awp] 2 2 8 w rfl hL.out (by omega)).mono ?_
  rintro _ w1 ⟨r, rfl, hf, h1⟩
  refine ⟨ret_i64 ?_, below_on hb.out h1⟩
  rcases hf with ⟨_, h⟩ | ⟨k, hk, rfl, h, _⟩
  · exact absurd rfl (h 1 (by decide))
  · simp only [List.length_cons, List.length_nil] at hk
    rcases (by omega : k = 0 ∨ k = 1) with rfl | rfl
    · exact absurd h (by decide)
    · rfl
theorem l_find2 {w0 w : World} (hb : Hid (Below w0.heap.size w0 w)) :
    Calls Try.prog 33 #[.slice none 0 0, .int .i64 8] w fun e w' => e = .returned (.int .i64 (-1)) ∧ Hid (Below w0.heap.size w0 w') := by
  refine (find_any none [] 0 0 8 w rfl (fun h => absurd h (by decide)) (by omega)).mono ?_
  rintro _ w1 ⟨r, rfl, hf, h1⟩
  refine ⟨ret_i64 ?_, below_on hb.out h1⟩
  rcases hf with ⟨h, _⟩ | ⟨k, hk, _⟩
  · exact h
  · exact absurd hk (by simp)
theorem l_world1 {w0 w : World} {a b : Option Addr} (hb : Hid (Below w0.heap.size w0 w)) (hL : Hid (ReadsO w a [awo, awp])) (hT : Hid (ReadsT w b [awt])) :
    Calls Try.prog 27 #[.agg #[.int .i64 2, .slice none 0 0, .slice none 0 0, .slice a 2 2, .slice b 1 1]] w fun e w' => e = .returned (.int .i64 0) ∧ Hid (Below w0.heap.size w0 w') := by
  refine (world_any 2 _ _ a b [awo, awp] [awt] 2 1 2 1 w rfl rfl hL.out hT.out (by omega) (by omega) (by decide) (by decide)).mono ?_
  rintro _ w1 ⟨rfl, h1⟩
  refine ⟨ret_i64 ?_, below_on hb.out h1⟩
  unfold worldE
  have e1 : ordersE [awo, awp] 2 = 0 := by decide +kernel
  have e2 : trucksE [awt] = 0 := by decide
  have e3 : dupB (ids [awo, awp]) = false := (dupB_false _).2 (by decide)
  have e4 : dupB (idsT [awt]) = false := (dupB_false _).2 (by decide)
  rw [e1, e2, e3, e4]
  rfl
theorem l_world2 {w0 w : World} {a : Option Addr} (hb : Hid (Below w0.heap.size w0 w)) (hL : Hid (ReadsO w a [awo, awo])) :
    Calls Try.prog 27 #[.agg #[.int .i64 2, .slice none 0 0, .slice none 0 0, .slice a 2 2, .slice none 0 0]] w fun e w' => e = .returned (.int .i64 6) ∧ Hid (Below w0.heap.size w0 w') := by
  refine (world_any 2 _ _ a none [awo, awo] [] 2 0 2 0 w rfl rfl hL.out (fun h => absurd h (by decide)) (by omega) (by omega) (by decide) (by simp)).mono ?_
  rintro _ w1 ⟨rfl, h1⟩
  refine ⟨ret_i64 ?_, below_on hb.out h1⟩
  unfold worldE
  have e1 : ordersE [awo, awo] 2 = 0 := by decide +kernel
  have e2 : trucksE [] = 0 := by decide
  have e3 : dupB (ids [awo, awo]) = true := (dupB_iff _).2 (by decide)
  rw [e1, e2, e3]
  rfl

set_option maxHeartbeats 4000000 in
theorem awake_load (w : World) : Calls Try.prog 22 #[] w fun e w' => e = .returned (.bool true) ∧ Below w.heap.size w w' := by
  have HO := Lib.hid (lw_o w)
  have HP := Lib.hid (lw_p w)
  have HT := Lib.hid (lw_t w)
  have HW := Lib.hid (lw_below w)
  go_enter Try.func22, Try.ntmps22
  go_wp2_with fail
  refine (l_sum (hid_new (Below.refl _ (LW w)) _) (reads_op (LW w) _ (lw_size w))).mono ?_
  rintro _ w1 ⟨rfl, h1⟩
  obtain ⟨o0, o1, o2, o3, o4, o5, o6, o7⟩ := HO.out.on h1.out
  dsimp only [awo] at o0 o1 o2 o3 o4 o5 o6 o7
  go_wp2_with fail
  refine (l_ord2 h1).mono ?_
  rintro _ w2 ⟨rfl, h2⟩
  clear o0 o1 o2 o3 o4 o5 o6 o7
  obtain ⟨o0, o1, o2, o3, o4, o5, o6, o7⟩ := HO.out.on h2.out
  dsimp only [awo] at o0 o1 o2 o3 o4 o5 o6 o7
  go_wp2_with fail
  refine (l_ord1 h2).mono ?_
  rintro _ w3 ⟨rfl, h3⟩
  clear o0 o1 o2 o3 o4 o5 o6 o7
  obtain ⟨t0, t1, t2, t3, t4, t5, t6⟩ := HT.out.on h3.out
  dsimp only [awt] at t0 t1 t2 t3 t4 t5 t6
  go_wp2_with fail
  refine (l_trk1 h3).mono ?_
  rintro _ w4 ⟨rfl, h4⟩
  clear t0 t1 t2 t3 t4 t5 t6
  go_wp2_with fail
  refine (l_trk0 h4).mono ?_
  rintro _ w5 ⟨rfl, h5⟩
  obtain ⟨o0, o1, o2, o3, o4, o5, o6, o7⟩ := HO.out.on h5.out
  obtain ⟨t0, t1, t2, t3, t4, t5, t6⟩ := HT.out.on h5.out
  dsimp only [awo, awt] at o0 o1 o2 o3 o4 o5 o6 o7 t0 t1 t2 t3 t4 t5 t6
  go_wp2_with fail
  refine (l_car1 (hid_new h5 _) (reads_o w5 _ rfl)).mono ?_
  rintro _ w6 ⟨rfl, h6⟩
  clear o0 o1 o2 o3 o4 o5 o6 o7 t0 t1 t2 t3 t4 t5 t6
  obtain ⟨o0, o1, o2, o3, o4, o5, o6, o7⟩ := HO.out.on h6.out
  obtain ⟨p0, p1, p2, p3, p4, p5, p6, p7⟩ := HP.out.on h6.out
  obtain ⟨t0, t1, t2, t3, t4, t5, t6⟩ := HT.out.on h6.out
  dsimp only [awo, awp, awt] at o0 o1 o2 o3 o4 o5 o6 o7 p0 p1 p2 p3 p4 p5 p6 p7 t0 t1 t2 t3 t4 t5 t6
  go_wp2_with fail
  refine (l_car2 (hid_new h6 _) (reads_op w6 _ rfl)).mono ?_
  rintro _ w7 ⟨rfl, h7⟩
  clear o0 o1 o2 o3 o4 o5 o6 o7 p0 p1 p2 p3 p4 p5 p6 p7 t0 t1 t2 t3 t4 t5 t6
  obtain ⟨o0, o1, o2, o3, o4, o5, o6, o7⟩ := HO.out.on h7.out
  obtain ⟨p0, p1, p2, p3, p4, p5, p6, p7⟩ := HP.out.on h7.out
  dsimp only [awo, awp] at o0 o1 o2 o3 o4 o5 o6 o7 p0 p1 p2 p3 p4 p5 p6 p7
  go_wp2_with fail
  refine (l_find1 (hid_new h7 _) (reads_op w7 _ rfl)).mono ?_
  rintro _ w8 ⟨rfl, h8⟩
  clear o0 o1 o2 o3 o4 o5 o6 o7 p0 p1 p2 p3 p4 p5 p6 p7
  go_wp2_with fail
  refine (l_find2 h8).mono ?_
  rintro _ w9 ⟨rfl, h9⟩
  obtain ⟨o0, o1, o2, o3, o4, o5, o6, o7⟩ := HO.out.on h9.out
  obtain ⟨p0, p1, p2, p3, p4, p5, p6, p7⟩ := HP.out.on h9.out
  obtain ⟨t0, t1, t2, t3, t4, t5, t6⟩ := HT.out.on (below_on h9.out (below_new w9 (.cells #[.int .i64 7, .int .i64 0, .int .i64 1, .int .i64 4, .int .i64 5, .int .i64 0, .int .i64 9, .int .i64 0, .int .i64 8, .int .i64 0, .int .i64 1, .int .i64 7, .int .i64 5, .int .i64 0, .int .i64 9, .int .i64 0] 44)))
  dsimp only [awo, awp, awt] at o0 o1 o2 o3 o4 o5 o6 o7 p0 p1 p2 p3 p4 p5 p6 p7 t0 t1 t2 t3 t4 t5 t6
  go_wp2_with fail
  refine (l_world1 (hid_new (hid_new h9 _) _) (hidO_on (reads_op w9 _ rfl) (Lib.hid (below_new _ _))) (reads_t _ _ (World.size_alloc _ _))).mono ?_
  rintro _ w10 ⟨rfl, h10⟩
  clear o0 o1 o2 o3 o4 o5 o6 o7 p0 p1 p2 p3 p4 p5 p6 p7 t0 t1 t2 t3 t4 t5 t6
  obtain ⟨o0, o1, o2, o3, o4, o5, o6, o7⟩ := HO.out.on h10.out
  dsimp only [awo] at o0 o1 o2 o3 o4 o5 o6 o7
  go_wp2_with fail
  refine (l_world2 (hid_new h10 _) (reads_oo w10 _ rfl)).mono ?_
  rintro _ w11 ⟨rfl, h11⟩
  clear o0 o1 o2 o3 o4 o5 o6 o7
  go_wp2_with fail
  go_ret
  exact ⟨rfl, below_on HW.out h11.out⟩
end Go.Proofs.Ytakiciemkecgfaa.Load

/-
  The walk of RouteFirst.
-/
import Derived.Test.YtakiciemkecgfaaFirstMath
namespace Go.Proofs.Ytakiciemkecgfaa.Route
open Go.RowKit Go.Proofs Go.Proofs.Ytakiciemkecgfaa.AreaMath Go.Proofs.Ytakiciemkecgfaa.Area Go.Proofs.Ytakiciemkecgfaa.Load
set_option maxRecDepth 100000
set_option linter.unusedVariables false

theorem elem25 : Try.prog.underlying 25 = some (.slice (Try.prog.elem 25)) := by kernel_rfl
theorem size25 (w : World) : (sizeOf (Try.prog.elem 25)).run Try.prog w = .ok 1 w := by kernel_rfl
theorem slice25_to (a : Option Addr) (n cap k : Nat) (hk : k ≤ cap) (W : World) : (Instr.slice 25 (.slice a n cap) none (some (.int .i64 k)) none).run Try.prog W = .ok (.slice a k cap) W := by
  rw [run_slice_h W 25 a n cap elem25 .i64 (k : Int) (by omega) (by omega), size25]
  simp only [Result.andThen, sliced, Int.toNat_natCast, Nat.zero_mul, Nat.sub_zero]
  have e : a.map (fun x => x.add 0) = a := by
    cases a with
    | none => rfl
    | some x => simp [Addr.add]
  rw [e, ite_self]
theorem readsI_take {w : World} {a : Option Addr} {l : List Int} (h : ReadsI w a l) (k : Nat) : ReadsI w a (l.take k) := by
  intro hl
  rw [List.length_take] at hl
  obtain ⟨b, off, ha, hc⟩ := h (by omega)
  refine ⟨b, off, ha, fun j hj => ?_⟩
  rw [List.length_take] at hj
  have e : at_ (l.take k) j = at_ l j := by
    unfold at_; simp [List.getD, show j < k by omega]
  rw [e]
  exact hc j (by omega)
/-- a route, and where its stops lie -/
structure Rt (w : World) (aS : Option Addr) (lS cS : Nat) (S : List Int) : Prop where
  len : S.length = lS
  rd : ReadsI w aS S
  cap : lS ≤ cS
  wf : ∀ s ∈ S, NumWf s
/-- what is asked of the numbers of a world -/
def Nums (x : Wd) : Prop := (∀ o ∈ x.O, o.Wf) ∧ (∀ o ∈ x.R, o.Wf)
theorem small_of {w : World} {x : Wd} {q : Wp} (h : Lies w x q) (hn : Nums x) {k : Int} (hl : largeB q k = false) : Small x := by
  have := largeB_not hl
  exact ⟨by rw [h.lO]; omega, by rw [h.lR]; omega, hn.1, hn.2⟩

/-- a call of Run, from a world on -/
def RunTo (w0 : World) (args : Array Value) (r : TripM × Int) : Prop := ∀ w, Below w0.heap.size w0 w → Calls Try.prog 37 args w fun e w' => ∃ a c, e = .returned (.tuple #[.agg #[.slice a r.1.vs.length c, .int .i64 r.1.back, .int .i64 r.1.dist, .int .i64 r.1.cost], .int .i64 r.2]) ∧ ReadsV w' a r.1.vs ∧ Below w.heap.size w w' ∧ Fresh w a
theorem run_to {w0 : World} {x : Wd} {q : Wp} {id : Int} {aS : Option Addr} {lS cS : Nat} {S : List Int} (h : Lies w0 x q) (hs : Small x) (hr : Rt w0 aS lS cS S) (hm : lS ≤ 200) : RunTo w0 #[.agg (wcells x.n q), .agg #[.int .i64 id, .slice aS lS cS]] (runR x id S) := fun w hb => by
  refine (run_any x q id aS lS cS S w (h.below hb) hs hr.len (hr.rd.below hb) hm hr.wf).mono ?_
  rintro _ w1 ⟨a, c, rfl, h1, _, h2, h3⟩
  exact ⟨a, c, rfl, h1, h2, h3⟩

set_option maxHeartbeats 4000000 in
theorem first_short (x : Wd) (q : Wp) (id many : Int) (aS : Option Addr) (lS cS : Nat) (w : World) (h : largeB q lS = true ∨ (largeB q lS = false ∧ (many < 1 ∨ (1 ≤ many ∧ (lS : Int) < many)))) :
    Calls Try.prog 12 #[.agg (wcells x.n q), .agg #[.int .i64 id, .slice aS lS cS], .int .i64 many] w fun e w' => e = .returned (.bool true) ∧ Below w.heap.size w w' := by
  have HC := Lib.hid (fun w => large_any x.n q lS w)
  obtain ⟨L, hL⟩ : ∃ L, largeB q lS = L := ⟨_, rfl⟩
  rw [hL] at h HC
  clear hL
  obtain ⟨aD, lD, cD, aT, lT, cT, aO, lO, cO, aR, lR, cR⟩ := q
  unfold wcells at *
  dsimp only at *
  have HF := Lib.hid (FBox.new w x.n (.slice aD lD cD) (.slice aT lT cT) (.slice aO lO cO) (.slice aR lR cR) 40)
  have HS0 := Lib.hid (box_cell (w.alloc (.cells #[.int .i64 x.n, .slice aD lD cD, .slice aT lT cT, .slice aO lO cO, .slice aR lR cR] 40)) #[.int .i64 id, .slice aS lS cS] 55 1 _ rfl)
  have HB : Hid (Below w.heap.size w ((w.alloc (.cells #[.int .i64 x.n, .slice aD lD cD, .slice aT lT cT, .slice aO lO cO, .slice aR lR cR] 40)).alloc (.cells #[.int .i64 id, .slice aS lS cS] 55))) := below_on (below_new _ _) (below_new _ _)
  rcases h with h | ⟨h0, h | ⟨h, h'⟩⟩
  all_goals
    try subst h
    try subst h0
    go_enter Try.func12, Try.ntmps12
    go_wp2_with fail
    refine (awake_route _).mono ?_; rintro _ w1 ⟨rfl, hw1⟩
    obtain ⟨b0, b1, b2, b3, b4⟩ := (HF.out.on (below_new _ (.cells #[.int .i64 id, .slice aS lS cS] 55))).on hw1
    have s1 := cell_on hw1 HS0.out
    rw [World.size_alloc] at s1
    have H1 := Lib.hid (below_on HB.out hw1)
    have HSS := Lib.hid s1
    clear hw1
    go_wp2_with fail
    refine (HC.out _).mono ?_
    rintro _ w2 ⟨rfl, hw2⟩
    have s2 := cell_on hw2 HSS.out
    have H2 := Lib.hid (below_on H1.out hw2)
    clear hw2 b0 b1 b2 b3 b4 s1
    go_wp2_with fail
    go_ret
    exact ⟨rfl, H2.out⟩

/-- the two boxes of a law: its world, its route -/
def LBox (w : World) (A : Nat) (n : Int) (q : Wp) (id : Int) (v : Value) : Prop := FBox w A n (.slice q.aD q.lD q.cD) (.slice q.aT q.lT q.cT) (.slice q.aO q.lO q.cO) (.slice q.aR q.lR q.cR) ∧ SBox w (A + 1) id v
theorem LBox.on {w w1 : World} {A : Nat} {n : Int} {q : Wp} {id : Int} {v : Value} (h : LBox w A n q id v) (hb : Below w.heap.size w w1) : LBox w1 A n q id v := ⟨h.1.on hb, h.2.on hb⟩
theorem LBox.lt {w : World} {A : Nat} {n : Int} {q : Wp} {id : Int} {v : Value} (h : LBox w A n q id v) : A + 1 < w.heap.size := World.block_lt_of_cell? w _ h.2.1
theorem lbox_new (w : World) (n : Int) (q : Wp) (id : Int) (v : Value) : LBox ((w.alloc (.cells #[.int .i64 n, .slice q.aD q.lD q.cD, .slice q.aT q.lT q.cT, .slice q.aO q.lO q.cO, .slice q.aR q.lR q.cR] 40)).alloc (.cells #[.int .i64 id, v] 55)) w.heap.size n q id v := by
  refine ⟨(FBox.new w n _ _ _ _ 40).on (below_new _ _), ?_⟩
  have e : (w.alloc (.cells #[.int .i64 n, .slice q.aD q.lD q.cD, .slice q.aT q.lT q.cT, .slice q.aO q.lO q.cO, .slice q.aR q.lR q.cR] 40)).heap.size = w.heap.size + 1 := World.size_alloc _ _
  rw [← e]
  exact ⟨box_cell _ _ _ 0 _ rfl, box_cell _ _ _ 1 _ rfl⟩
/-- a trip's box -/
def TripBox (w : World) (b : Nat) (a : Option Addr) (k c : Nat) (x1 x2 x3 : Int) : Prop := w.cell? ⟨b, 0, none⟩ = some (.slice a k c) ∧ w.cell? ⟨b, 1, none⟩ = some (.int .i64 x1) ∧ w.cell? ⟨b, 2, none⟩ = some (.int .i64 x2) ∧ w.cell? ⟨b, 3, none⟩ = some (.int .i64 x3)
theorem TripBox.on {w w1 : World} {b : Nat} {a : Option Addr} {k c : Nat} {x1 x2 x3 : Int} (h : TripBox w b a k c x1 x2 x3) (hb : Below w.heap.size w w1) : TripBox w1 b a k c x1 x2 x3 := ⟨cell_on hb h.1, cell_on hb h.2.1, cell_on hb h.2.2.1, cell_on hb h.2.2.2⟩
theorem tripBox_new (w : World) (a : Option Addr) (k c : Nat) (x1 x2 x3 : Int) : TripBox (w.alloc (.cells #[.slice a k c, .int .i64 x1, .int .i64 x2, .int .i64 x3] 59)) w.heap.size a k c x1 x2 x3 :=
  ⟨box_cell _ _ _ 0 _ rfl, box_cell _ _ _ 1 _ rfl, box_cell _ _ _ 2 _ rfl, box_cell _ _ _ 3 _ rfl⟩

theorem lbox_put {w : World} {A b : Nat} {n : Int} {q : Wp} {id : Int} {v : Value} (h : LBox w A n q id v) (h0 : b ≠ A) (h1 : b ≠ A + 1) (v0 v1 v2 v3 : Value) : LBox ((((w.setCell ⟨b, 0, none⟩ v0).setCell ⟨b, 1, none⟩ v1).setCell ⟨b, 2, none⟩ v2).setCell ⟨b, 3, none⟩ v3) A n q id v :=
  ⟨h.1.far fun k x hx => setR_far h0 (setR_far h0 (setR_far h0 (setR_far h0 hx))), setR_far h1 (setR_far h1 (setR_far h1 (setR_far h1 h.2.1))), setR_far h1 (setR_far h1 (setR_far h1 (setR_far h1 h.2.2)))⟩
theorem tbox_put {w : World} {b c : Nat} {a : Option Addr} {k d : Nat} {x1 x2 x3 : Int} (h : TripBox w c a k d x1 x2 x3) (h0 : b ≠ c) (v0 v1 v2 v3 : Value) : TripBox ((((w.setCell ⟨b, 0, none⟩ v0).setCell ⟨b, 1, none⟩ v1).setCell ⟨b, 2, none⟩ v2).setCell ⟨b, 3, none⟩ v3) c a k d x1 x2 x3 :=
  ⟨setR_far h0 (setR_far h0 (setR_far h0 (setR_far h0 h.1))), setR_far h0 (setR_far h0 (setR_far h0 (setR_far h0 h.2.1))), setR_far h0 (setR_far h0 (setR_far h0 (setR_far h0 h.2.2.1))), setR_far h0 (setR_far h0 (setR_far h0 (setR_far h0 h.2.2.2)))⟩
theorem readsV_put {w : World} {b : Nat} {a : Option Addr} {l : List Vis} (h : ReadsV w a l) (hne : ∀ y, a = some y → b ≠ y.block) (v0 v1 v2 v3 : Value) : ReadsV ((((w.setCell ⟨b, 0, none⟩ v0).setCell ⟨b, 1, none⟩ v1).setCell ⟨b, 2, none⟩ v2).setCell ⟨b, 3, none⟩ v3) a l := by
  intro hl
  obtain ⟨c, off, ha, hc⟩ := h hl
  have h0 := hne _ ha
  exact ⟨c, off, ha, fun k hk j v hv => setR_far h0 (setR_far h0 (setR_far h0 (setR_far h0 (hc k hk j v hv))))⟩
theorem readsV_lt {w : World} {a : Option Addr} {l : List Vis} (h : ReadsV w a l) (hl : 0 < l.length) : ∀ y, a = some y → y.block < w.heap.size := by
  obtain ⟨c, off, ha, hc⟩ := h hl
  intro y hy
  rw [ha] at hy; cases hy
  exact World.block_lt_of_cell? w _ (hc 0 hl 0 _ rfl)
def VisCells (w : World) (b off : Nat) (v : Vis) : Prop := w.cell? ⟨b, off, none⟩ = some (.int .i64 v.order) ∧ w.cell? ⟨b, off + 1, none⟩ = some (.int .i64 v.arrive) ∧ w.cell? ⟨b, off + 2, none⟩ = some (.int .i64 v.start) ∧ w.cell? ⟨b, off + 3, none⟩ = some (.int .i64 v.leave)
theorem visCells_at {w : World} {b off : Nat} {l : List Vis} {k : Nat} (hc : ∀ j v, (visAt l k).cells[j]? = some v → w.cell? ⟨b, off + k * 4 + j, none⟩ = some v) : VisCells w b (off + k * 4) (visAt l k) := ⟨hc 0 _ rfl, hc 1 _ rfl, hc 2 _ rfl, hc 3 _ rfl⟩

set_option maxHeartbeats 8000000 in
theorem first_core (x : Wd) (q : Wp) (id : Int) (m : Nat) (aS : Option Addr) (lS cS : Nat) (S : List Int) (w : World) (h : Lies w x q) (hn : Nums x) (hr : Rt w aS lS cS S) (hL : largeB q lS = false) (hm1 : 1 ≤ m) (hm2 : m ≤ lS) :
    Calls Try.prog 12 #[.agg (wcells x.n q), .agg #[.int .i64 id, .slice aS lS cS], .int .i64 m] w fun e w' => e = .returned (.bool true) ∧ Below w.heap.size w w' := by
  have hsm := small_of h hn hL
  have h100 : lS ≤ 100 := by have := largeB_not hL; omega
  have hrt : Rt w aS m cS (S.take m) := ⟨by rw [List.length_take, hr.len]; omega, readsI_take hr.rd m, Nat.le_trans hm2 hr.cap, fun s hs => hr.wf s (List.mem_of_mem_take hs)⟩
  have HR1 := Lib.hid (run_to (id := id) h hsm hr (by omega))
  have HR2 := Lib.hid (run_to (id := id) h hsm hrt (by omega))
  have HLAW : Hid (∀ tm, runR x id S = (tm, 0) → tm.vs.length = lS ∧ (runR x id (S.take m) = (noTrip, 10) ∨ ∃ um, runR x id (S.take m) = (um, 0) ∧ um.vs.length = m ∧ ∀ j, j < m → visAt um.vs j = visAt tm.vs j)) := fun tm ht => by
    have := first_law (m := m) ht hm1 (by rw [hr.len]; exact hm2)
    rw [hr.len] at this
    exact this
  have hsl := slice25_to aS lS cS m (by have := hr.cap; omega)
  have HC : Hid (∀ w, Calls Try.prog 36 #[.agg (wcells x.n q), .int .i64 lS] w fun e w' => e = .returned (.bool false) ∧ Below w.heap.size w w') := fun w => by
    have := large_any x.n q lS w
    rw [hL] at this
    exact this
  obtain ⟨r1, hr1⟩ : ∃ r, runR x id S = r := ⟨_, rfl⟩
  obtain ⟨r2, hr2⟩ : ∃ r, runR x id (S.take m) = r := ⟨_, rfl⟩
  rw [hr1] at HR1; rw [hr2] at HR2; rw [hr1, hr2] at HLAW
  clear hr1 hr2
  obtain ⟨⟨v1, k1, d1, g1⟩, e1⟩ := r1
  obtain ⟨⟨v2, k2, d2, g2⟩, e2⟩ := r2
  unfold RunTo at HR1 HR2
  dsimp only at HR1 HR2
  obtain ⟨n1, hn1⟩ : ∃ n, v1.length = n := ⟨_, rfl⟩
  obtain ⟨n2, hn2⟩ : ∃ n, v2.length = n := ⟨_, rfl⟩
  rw [hn1] at HR1; rw [hn2] at HR2
  have HN1 := Lib.hid hn1; have HN2 := Lib.hid hn2
  have HB3 := Lib.hid (lbox_new w x.n q id (.slice aS lS cS))
  have HB0 : Hid (Below w.heap.size w ((w.alloc (.cells #[.int .i64 x.n, .slice q.aD q.lD q.cD, .slice q.aT q.lT q.cT, .slice q.aO q.lO q.cO, .slice q.aR q.lR q.cR] 40)).alloc (.cells #[.int .i64 id, .slice aS lS cS] 55))) := below_on (below_new _ _) (below_new _ _)
  have HCAP := Lib.hid (show (m : Int) ≤ cS by have := hr.cap; omega)
  clear h hn hr hrt hL hsm hn1 hn2
  unfold wcells at *
  have q1 : decide ((m : Int) < 1) = false := decide_eq_false (by omega)
  have q2 : decide ((lS : Int) < m) = false := decide_eq_false (by omega)
  have q3 : decide (lS < m) = false := decide_eq_false (by omega)
  go_enter Try.func12, Try.ntmps12
  go_wp2_with fail
  refine (awake_route _).mono ?_; rintro _ w1 ⟨rfl, hw1⟩
  have H1 := Lib.hid (below_on HB0.out hw1)
  have L1 := Lib.hid (HB3.out.on hw1)
  clear hw1 HB3 HB0
  obtain ⟨⟨b0, b1, b2, b3, b4⟩, s0, s1⟩ := L1.out
  go_wp2_with fail
  refine (HC.out _).mono ?_
  rintro _ w2 ⟨rfl, hw2⟩
  have H2 := Lib.hid (below_on H1.out hw2)
  have L2 := Lib.hid (L1.out.on hw2)
  clear hw2 b0 b1 b2 b3 b4 s0 s1
  obtain ⟨⟨b0, b1, b2, b3, b4⟩, s0, s1⟩ := L2.out
  go_wp2_with fail
  refine (HR1.out _ H2.out).mono ?_
  rintro _ w3 ⟨a1, c1, rfl, hv1, hw3, -⟩
  have H3 := Lib.hid (below_on H2.out hw3)
  have L3 := Lib.hid (L2.out.on hw3)
  have V1 := Lib.hid hv1
  clear hw3 b0 b1 b2 b3 b4 s0 s1 hv1
  have T4 := Lib.hid (tripBox_new w3 a1 n1 c1 k1 d1 g1)
  have H34 := Lib.hid (below_new w3 (.cells #[.slice a1 n1 c1, .int .i64 k1, .int .i64 d1, .int .i64 g1] 59))
  go_wp2_with fail
  obtain ⟨w4, hw4⟩ : ∃ W, w3.alloc (.cells #[.slice a1 n1 c1, .int .i64 k1, .int .i64 d1, .int .i64 g1] 59) = W := ⟨_, rfl⟩
  rw [hw4] at T4 H34 ⊢
  clear hw4
  have H4 := Lib.hid (below_on H3.out H34.out)
  have L4 := Lib.hid (L3.out.on H34.out)
  have V4 := Lib.hid (V1.out.below H34.out)
  obtain ⟨⟨b0, b1, b2, b3, b4⟩, s0, s1⟩ := L4.out
  have BA := Lib.hid (Below.refl w4.heap.size w4).drew
  have BB := Lib.hid (below_new w4 (.cells #[.slice none 0 0, .int .i64 0, .int .i64 0, .int .i64 0] 59)).drew
  have hm3 : (0 : Int) ≤ m := by omega
  have hm4 : (m : Int) ≤ cS := HCAP.out
  have ZB := Lib.hid (show ZBox (w4.alloc (.cells #[.slice none 0 0, .int .i64 0, .int .i64 0, .int .i64 0] 59)).drew w4.heap.size from ⟨box_cell w4 _ 59 0 _ rfl, box_cell w4 _ 59 1 _ rfl, box_cell w4 _ 59 2 _ rfl, box_cell w4 _ 59 3 _ rfl⟩)
  have ZF := Lib.hid (show Soft (w4.alloc (.cells #[.slice none 0 0, .int .i64 0, .int .i64 0, .int .i64 0] 59)).drew w4.heap.size from fun j => World.frozen?_alloc_new _ _ _ _)
  have ZL := Lib.hid (show w4.heap.size < (w4.alloc (.cells #[.slice none 0 0, .int .i64 0, .int .i64 0, .int .i64 0] 59)).drew.heap.size by show _ < (w4.alloc _).heap.size; rw [World.size_alloc]; omega)
  have HA := Lib.hid L4.out.lt
  go_region_held_law (fun w' => (w'.cell? ⟨w.heap.size, 0, none⟩ = some (.int .i64 x.n) ∧ w'.cell? ⟨w.heap.size, 1, none⟩ = some (.slice q.aD q.lD q.cD) ∧ w'.cell? ⟨w.heap.size, 2, none⟩ = some (.slice q.aT q.lT q.cT) ∧ w'.cell? ⟨w.heap.size, 3, none⟩ = some (.slice q.aO q.lO q.cO) ∧ w'.cell? ⟨w.heap.size, 4, none⟩ = some (.slice q.aR q.lR q.cR)) ∧ w'.cell? ⟨w.heap.size + 1, 0, none⟩ = some (.int .i64 id) ∧ w'.cell? ⟨w.heap.size + 1, 1, none⟩ = some (.slice aS lS cS))
    (first | exact L4.out | exact L4.out.on BB.out | exact L5.out | exact L5.out.on (below_new w5 _) | exact lbox_put L5.out (by have := HA.out; omega) (by have := HA.out; omega) _ _ _ _ | go_keep)
    (first
      | (go_at_call 37; refine (HR2.out _ (below_on H4.out BA.out)).mono ?_; rintro _ w5 ⟨a2, c2, rfl, hv2, hw5, hf2⟩; have V2 := Lib.hid hv2; have H5 := Lib.hid (below_on BA.out hw5); have L5 := Lib.hid (L4.out.on H5.out); clear hv2 hw5 hf2)
      | (go_at_call 37; refine (HR2.out _ (below_on H4.out BB.out)).mono ?_; rintro _ w5 ⟨a2, c2, rfl, hv2, hw5, hf2⟩; have V2 := Lib.hid hv2; have H5 := Lib.hid (below_on BB.out hw5); have L5 := Lib.hid (L4.out.on H5.out); have F5 := Lib.hid hf2;
          have Z5 := Lib.hid (ZB.out.on hw5); have zf := ZF.out.on ZL.out hw5; obtain ⟨z0, z1, z2, z3⟩ := Z5.out; unfold Soft at zf; clear hv2 hw5 hf2))
  · have T6 := Lib.hid (tripBox_new w5 a2 n2 c2 k2 d2 g2)
    have H56 := Lib.hid (below_new w5 (.cells #[.slice a2 n2 c2, .int .i64 k2, .int .i64 d2, .int .i64 g2] 59))
    have HB6 := Lib.hid (below_on H5.out H56.out)
    have T61 := Lib.hid (T4.out.on HB6.out)
    have V61 := Lib.hid (V4.out.below HB6.out)
    have V62 := Lib.hid (V2.out.below H56.out)
    obtain ⟨W6, hW6⟩ : ∃ W, w5.alloc (.cells #[.slice a2 n2 c2, .int .i64 k2, .int .i64 d2, .int .i64 g2] 59) = W := ⟨_, rfl⟩
    clear b0 b1 b2 b3 b4 s0 s1
    rw [hW6] at T6 T61 V61 V62 HB6 ⊢
    clear hW6
    have HBW := Lib.hid (below_on H4.out HB6.out)
    by_cases he : e1 = 0
    · subst he
      obtain ⟨hl1, hl2⟩ := HLAW.out _ rfl
      rcases hl2 with hl2 | ⟨um, hl2, hum, hall⟩
      · have h10 : e2 = 10 := (Prod.mk.inj hl2).2
        subst h10
        clear hl1 hl2
        go_wp2_with fail
        go_ret
        exact ⟨rfl, HBW.out⟩
      · obtain ⟨h0, h00⟩ := Prod.mk.inj hl2
        subst h00
        subst h0
        dsimp only at hl1 hum hall
        have HALL := Lib.hid hall
        have h2m : n2 = m := by rw [← HN2.out]; exact hum
        have h1l : n1 = lS := by rw [← HN1.out]; exact hl1
        have HM2 := Lib.hid hum
        have HM1 := Lib.hid hl1
        subst h2m
        subst h1l
        clear hl1 hl2 hum hall
        obtain ⟨t0, t1, t2, t3⟩ := T6.out
        have HBR := Lib.hid (Below.refl W6.heap.size W6)
        go_wp2_with fail
        clear t0 t1 t2 t3
        go_loopw [58] (fun i wr => ∃ j : Nat, j ≤ n2 ∧ i = .int .i64 j ∧ Below W6.heap.size W6 wr) (fun i wr => n2 - (intOf i).toNat)
        case atStart => exact ⟨0, by omega, rfl, HBR.out⟩
        case round =>
          obtain ⟨j, hj, rfl, hb⟩ := hrel
          have HBJ := Lib.hid hb; clear hb
          by_cases hlt : j < n2
          · obtain ⟨b2, o2, ha2, hc2⟩ := (V62.out.below HBJ.out) (by rw [HM2.out]; omega)
            obtain ⟨e0, e1, e2, e3⟩ := visCells_at (hc2 j (by rw [HM2.out]; exact hlt))
            obtain ⟨b1, o1, ha1, hc1⟩ := (V61.out.below HBJ.out) (by rw [HM1.out]; omega)
            obtain ⟨f0, f1, f2, f3⟩ := visCells_at (hc1 j (by rw [HM1.out]; omega))
            rw [HALL.out j hlt] at e0 e1 e2 e3
            obtain ⟨v, hv⟩ : ∃ v, visAt v1 j = v := ⟨_, rfl⟩
            rw [hv] at e0 e1 e2 e3 f0 f1 f2 f3
            obtain ⟨r0, r1, r2, r3⟩ := T61.out.on HBJ.out
            subst ha1
            subst ha2
            have HNW := Lib.hid (below_new wr (.cells #[.int .i64 v.order, .int .i64 v.arrive, .int .i64 v.start, .int .i64 v.leave] 72))
            have g0 := cell_on HNW.out r0
            have i0 := cell_on HNW.out f0; have i1 := cell_on HNW.out f1; have i2 := cell_on HNW.out f2; have i3 := cell_on HNW.out f3
            have m0 := box_cell wr #[.int .i64 v.order, .int .i64 v.arrive, .int .i64 v.start, .int .i64 v.leave] 72 0 _ rfl
            have m1 := box_cell wr #[.int .i64 v.order, .int .i64 v.arrive, .int .i64 v.start, .int .i64 v.leave] 72 1 _ rfl
            have m2 := box_cell wr #[.int .i64 v.order, .int .i64 v.arrive, .int .i64 v.start, .int .i64 v.leave] 72 2 _ rfl
            have m3 := box_cell wr #[.int .i64 v.order, .int .i64 v.arrive, .int .i64 v.start, .int .i64 v.leave] 72 3 _ rfl
            have hjl : j < n1 := by omega
            clear hc1 hc2 hv r0 r1 r2 r3 f0 f1 f2 f3
            go_wp2_with fail
            go_region_held_law (fun w' => (w'.cell? ⟨wr.heap.size, 0, none⟩ = some (.int .i64 v.order) ∧ w'.cell? ⟨wr.heap.size, 1, none⟩ = some (.int .i64 v.arrive) ∧ w'.cell? ⟨wr.heap.size, 2, none⟩ = some (.int .i64 v.start) ∧ w'.cell? ⟨wr.heap.size, 3, none⟩ = some (.int .i64 v.leave)) ∧ w'.cell? ⟨w3.heap.size, 0, none⟩ = some (.slice (some ⟨b1, o1, none⟩) n1 c1) ∧ (w'.cell? ⟨b1, o1 + j * 4, none⟩ = some (.int .i64 v.order) ∧ w'.cell? ⟨b1, o1 + j * 4 + 1, none⟩ = some (.int .i64 v.arrive) ∧ w'.cell? ⟨b1, o1 + j * 4 + 2, none⟩ = some (.int .i64 v.start) ∧ w'.cell? ⟨b1, o1 + j * 4 + 3, none⟩ = some (.int .i64 v.leave)))
              (first | exact ⟨⟨m0, m1, m2, m3⟩, g0, ⟨i0, i1, i2, i3⟩⟩ | go_keep)
              (first | fail)
            go_wp2_with fail
            go_roundw
            case rel => exact ⟨j + 1, by omega, by go_num, (below_on HBJ.out HNW.out).drew⟩
            case measure => simp [intOf]; omega
          · obtain rfl : j = n2 := by omega
            obtain ⟨t0, t1, t2, t3⟩ := T6.out.on HBJ.out
            go_wp2_with fail
            go_ret
            exact ⟨rfl, below_on HBW.out HBJ.out⟩
    · have heb : (e1 != 0) = true := bne_iff_ne.2 he
      clear he
      go_wp2_with fail
      go_ret
      exact ⟨rfl, HBW.out⟩
  · have T6 := Lib.hid (show TripBox _ w4.heap.size a2 n2 c2 k2 d2 g2 from put4 Z5.out (.slice a2 n2 c2) (.int .i64 k2) (.int .i64 d2) (.int .i64 g2))
    have h34 := Lib.hid (show w3.heap.size < w4.heap.size from World.block_lt_of_cell? _ _ T4.out.1)
    have T61 := Lib.hid (tbox_put (T4.out.on H5.out) (show w4.heap.size ≠ w3.heap.size by have := h34.out; omega) (.slice a2 n2 c2) (.int .i64 k2) (.int .i64 d2) (.int .i64 g2))
    have V61 : Hid (0 < v1.length → ReadsV ((((w5.setCell ⟨w4.heap.size, 0, none⟩ (.slice a2 n2 c2)).setCell ⟨w4.heap.size, 1, none⟩ (.int .i64 k2)).setCell ⟨w4.heap.size, 2, none⟩ (.int .i64 d2)).setCell ⟨w4.heap.size, 3, none⟩ (.int .i64 g2)) a1 v1) := fun hl => readsV_put (V4.out.below H5.out) (fun y hy => by have := readsV_lt V4.out hl y hy; omega) _ _ _ _
    have V61 : Hid (ReadsV ((((w5.setCell ⟨w4.heap.size, 0, none⟩ (.slice a2 n2 c2)).setCell ⟨w4.heap.size, 1, none⟩ (.int .i64 k2)).setCell ⟨w4.heap.size, 2, none⟩ (.int .i64 d2)).setCell ⟨w4.heap.size, 3, none⟩ (.int .i64 g2)) a1 v1) := fun hl => V61.out hl hl
    have V62 := Lib.hid (readsV_put (b := w4.heap.size) V2.out (fun y hy => by have := F5.out y hy; have := ZL.out; omega) (.slice a2 n2 c2) (.int .i64 k2) (.int .i64 d2) (.int .i64 g2))
    have HB6 := Lib.hid (put4_below H5.out (Nat.le_refl _) (.slice a2 n2 c2) (.int .i64 k2) (.int .i64 d2) (.int .i64 g2))
    clear z0 z1 z2 z3 zf
    obtain ⟨W6, hW6⟩ : ∃ W, (((w5.setCell ⟨w4.heap.size, 0, none⟩ (.slice a2 n2 c2)).setCell ⟨w4.heap.size, 1, none⟩ (.int .i64 k2)).setCell ⟨w4.heap.size, 2, none⟩ (.int .i64 d2)).setCell ⟨w4.heap.size, 3, none⟩ (.int .i64 g2) = W := ⟨_, rfl⟩
    clear b0 b1 b2 b3 b4 s0 s1
    rw [hW6] at T6 T61 V61 V62 HB6 ⊢
    clear hW6
    have HBW := Lib.hid (below_on H4.out HB6.out)
    by_cases he : e1 = 0
    · subst he
      obtain ⟨hl1, hl2⟩ := HLAW.out _ rfl
      rcases hl2 with hl2 | ⟨um, hl2, hum, hall⟩
      · have h10 : e2 = 10 := (Prod.mk.inj hl2).2
        subst h10
        clear hl1 hl2
        go_wp2_with fail
        go_ret
        exact ⟨rfl, HBW.out⟩
      · obtain ⟨h0, h00⟩ := Prod.mk.inj hl2
        subst h00
        subst h0
        dsimp only at hl1 hum hall
        have HALL := Lib.hid hall
        have h2m : n2 = m := by rw [← HN2.out]; exact hum
        have h1l : n1 = lS := by rw [← HN1.out]; exact hl1
        have HM2 := Lib.hid hum
        have HM1 := Lib.hid hl1
        subst h2m
        subst h1l
        clear hl1 hl2 hum hall
        obtain ⟨t0, t1, t2, t3⟩ := T6.out
        have HBR := Lib.hid (Below.refl W6.heap.size W6)
        go_wp2_with fail
        clear t0 t1 t2 t3
        go_loopw [58] (fun i wr => ∃ j : Nat, j ≤ n2 ∧ i = .int .i64 j ∧ Below W6.heap.size W6 wr) (fun i wr => n2 - (intOf i).toNat)
        case atStart => exact ⟨0, by omega, rfl, HBR.out⟩
        case round =>
          obtain ⟨j, hj, rfl, hb⟩ := hrel
          have HBJ := Lib.hid hb; clear hb
          by_cases hlt : j < n2
          · obtain ⟨b2, o2, ha2, hc2⟩ := (V62.out.below HBJ.out) (by rw [HM2.out]; omega)
            obtain ⟨e0, e1, e2, e3⟩ := visCells_at (hc2 j (by rw [HM2.out]; exact hlt))
            obtain ⟨b1, o1, ha1, hc1⟩ := (V61.out.below HBJ.out) (by rw [HM1.out]; omega)
            obtain ⟨f0, f1, f2, f3⟩ := visCells_at (hc1 j (by rw [HM1.out]; omega))
            rw [HALL.out j hlt] at e0 e1 e2 e3
            obtain ⟨v, hv⟩ : ∃ v, visAt v1 j = v := ⟨_, rfl⟩
            rw [hv] at e0 e1 e2 e3 f0 f1 f2 f3
            obtain ⟨r0, r1, r2, r3⟩ := T61.out.on HBJ.out
            subst ha1
            subst ha2
            have HNW := Lib.hid (below_new wr (.cells #[.int .i64 v.order, .int .i64 v.arrive, .int .i64 v.start, .int .i64 v.leave] 72))
            have g0 := cell_on HNW.out r0
            have i0 := cell_on HNW.out f0; have i1 := cell_on HNW.out f1; have i2 := cell_on HNW.out f2; have i3 := cell_on HNW.out f3
            have m0 := box_cell wr #[.int .i64 v.order, .int .i64 v.arrive, .int .i64 v.start, .int .i64 v.leave] 72 0 _ rfl
            have m1 := box_cell wr #[.int .i64 v.order, .int .i64 v.arrive, .int .i64 v.start, .int .i64 v.leave] 72 1 _ rfl
            have m2 := box_cell wr #[.int .i64 v.order, .int .i64 v.arrive, .int .i64 v.start, .int .i64 v.leave] 72 2 _ rfl
            have m3 := box_cell wr #[.int .i64 v.order, .int .i64 v.arrive, .int .i64 v.start, .int .i64 v.leave] 72 3 _ rfl
            have hjl : j < n1 := by omega
            clear hc1 hc2 hv r0 r1 r2 r3 f0 f1 f2 f3
            go_wp2_with fail
            go_region_held_law (fun w' => (w'.cell? ⟨wr.heap.size, 0, none⟩ = some (.int .i64 v.order) ∧ w'.cell? ⟨wr.heap.size, 1, none⟩ = some (.int .i64 v.arrive) ∧ w'.cell? ⟨wr.heap.size, 2, none⟩ = some (.int .i64 v.start) ∧ w'.cell? ⟨wr.heap.size, 3, none⟩ = some (.int .i64 v.leave)) ∧ w'.cell? ⟨w3.heap.size, 0, none⟩ = some (.slice (some ⟨b1, o1, none⟩) n1 c1) ∧ (w'.cell? ⟨b1, o1 + j * 4, none⟩ = some (.int .i64 v.order) ∧ w'.cell? ⟨b1, o1 + j * 4 + 1, none⟩ = some (.int .i64 v.arrive) ∧ w'.cell? ⟨b1, o1 + j * 4 + 2, none⟩ = some (.int .i64 v.start) ∧ w'.cell? ⟨b1, o1 + j * 4 + 3, none⟩ = some (.int .i64 v.leave)))
              (first | exact ⟨⟨m0, m1, m2, m3⟩, g0, ⟨i0, i1, i2, i3⟩⟩ | go_keep)
              (first | fail)
            go_wp2_with fail
            go_roundw
            case rel => exact ⟨j + 1, by omega, by go_num, (below_on HBJ.out HNW.out).drew⟩
            case measure => simp [intOf]; omega
          · obtain rfl : j = n2 := by omega
            obtain ⟨t0, t1, t2, t3⟩ := T6.out.on HBJ.out
            go_wp2_with fail
            go_ret
            exact ⟨rfl, below_on HBW.out HBJ.out⟩
    · have heb : (e1 != 0) = true := bne_iff_ne.2 he
      clear he
      go_wp2_with fail
      go_ret
      exact ⟨rfl, HBW.out⟩

theorem first_any (x : Wd) (q : Wp) (id many : Int) (aS : Option Addr) (lS cS : Nat) (S : List Int) (w : World) (h : Lies w x q) (hn : Nums x) (hr : Rt w aS lS cS S) :
    Calls Try.prog 12 #[.agg (wcells x.n q), .agg #[.int .i64 id, .slice aS lS cS], .int .i64 many] w fun e w' => e = .returned (.bool true) ∧ Below w.heap.size w w' := by
  cases hL : largeB q lS with
  | true => exact first_short x q id many aS lS cS w (.inl hL)
  | false =>
    by_cases h1 : many < 1
    · exact first_short x q id many aS lS cS w (.inr ⟨hL, .inl h1⟩)
    by_cases h2 : (lS : Int) < many
    · exact first_short x q id many aS lS cS w (.inr ⟨hL, .inr ⟨by omega, h2⟩⟩)
    obtain ⟨m, rfl⟩ := Int.eq_ofNat_of_zero_le (show 0 ≤ many by omega)
    exact first_core x q id m aS lS cS S w h hn hr hL (by omega) (by omega)

/-! what the row's reading tells of a world and a route -/
open Go.ChangeShapes Go.WideShapes Go.ChangeAt Go.Joins
theorem open_wd {w : World} {v : Value} (h : WorldIn w v) : ∃ (x : Wd) (q : Wp), v = .agg (wcells x.n q) ∧ Lies w x q ∧ Nums x ∧ q.lR ≤ q.cR := by
  obtain ⟨n, aD, lD, cD, aT, lT, cT, D, T, aO, lO, cO, aR, lR, cR, O, R, rfl, h1, h2, h3, h4, h5, h6, h7, h8, _, _, h9, _, h10, h11, _⟩ := h
  exact ⟨⟨n, D, T, O, R⟩, ⟨aD, lD, cD, aT, lT, cT, aO, lO, cO, aR, lR, cR⟩, rfl, ⟨h1, h2, h5, h6, h3, h4, h7, h8⟩, ⟨h10, h11⟩, h9⟩
theorem open_stops {H : Type} {enc : TypeId × Value → H} {w : World} {fuel : Nat} {v : Value} {x : DataW H × List MemPlace} (h : DataW.trod enc Try.prog w 0 (fun _ => true) true fuel 25 [v] = some x) :
    ∃ a len cap L, v = .slice a len cap ∧ Rt w a len cap L := by
  rcases open_ints Try.underlying25 Try.underlying3 (by kernel_rfl) h with ⟨hcs, _⟩ | ⟨y, l, c, zs, hcs, _, hl, hm, hz, _, hcell, hwz⟩
  · cases hcs
    exact ⟨none, 0, 0, [], rfl, rfl, fun h => absurd h (by simp), Nat.le_refl _, by simp⟩
  · cases hcs
    simp only [if_true] at hz
    have hlen : (zs.take l).length = l := by rw [List.length_take]; omega
    refine ⟨some y, l, c, zs.take l, rfl, hlen, fun h0 => ?_, hl, fun s hs => wf_i64 (hwz s (List.mem_of_mem_take hs))⟩
    rw [hlen] at h0
    have hs : y.spot = none := by
      have h1 := hcell 0 (by omega)
      have e0 : y.add 0 = y := by unfold Addr.add; simp
      rw [e0] at h1
      exact spot_none h1
    obtain ⟨b, off, sp⟩ := y
    cases hs
    refine ⟨b, off, rfl, fun k hk => ?_⟩
    rw [hlen] at hk
    have h1 := hcell k (by omega)
    rw [Addr.add_lit] at h1
    rw [h1]
    congr 2
    unfold at_
    simp only [List.getD_eq_getElem?_getD, List.getElem?_take]
    rw [if_pos hk]
theorem open_route_arg {H : Type} {enc : TypeId × Value → H} {w : World} {v : Value} {d : DataW H} {p : List MemPlace} {r : Reach} {b : Nat}
    (hv : Value.okWide Try.prog w r b 55 v) (h : DataW.Trod enc Try.prog w 0 (fun _ => true) true 55 v d p) : ∃ id aS lS cS S, v = .agg #[.int .i64 id, .slice aS lS cS] ∧ Rt w aS lS cS S := by
  obtain ⟨cs, rfl, hsz⟩ := okWide_struct Try.underlying55 hv
  obtain ⟨fuel, hf⟩ := h
  have hf' : DataW.trod enc Try.prog w 0 (fun _ => true) true fuel 55 cs.toList = some (d, p) := by simpa [Value.cells] using hf
  obtain ⟨y0, y1, n, _, hl, h0, h1⟩ := trod_struct2 Try.underlying55 hf'
  have c55 : Try.prog.cellsOf 55 = 2 := by kernel_rfl
  have c3 : Try.prog.cellsOf 3 = 1 := by kernel_rfl
  have c25 : Try.prog.cellsOf 25 = 1 := by kernel_rfl
  rw [c55] at hl
  dsimp only at h0 h1
  rw [c3] at h0
  rw [c25] at h1
  obtain ⟨s0, s1, hs⟩ : ∃ a b, cs.toList = [a, b] := by
    match cs.toList, hl with
    | [a, b], _ => exact ⟨a, b, rfl⟩
  rw [hs] at h0 h1
  simp only [List.drop_zero, List.drop_succ_cons, List.take_succ_cons, List.take_zero] at h0 h1
  obtain ⟨k, hk, _, wk⟩ := DataW.trod_int Try.underlying3 h0
  cases hk
  obtain ⟨a, len, cap, L, rfl, hr⟩ := open_stops h1
  exact ⟨k, a, len, cap, L, congrArg Value.agg (Array.toList_inj.1 hs), hr⟩
end Go.Proofs.Ytakiciemkecgfaa.Route

/-
  The walk of route's Run.
-/
import Derived.Test.YtakiciemkecgfaaRouteOrders
import Derived.Test.YtakiciemkecgfaaLess
namespace Go.Proofs.Ytakiciemkecgfaa.Route
open Go.RowKit Go.Proofs Go.Proofs.Ytakiciemkecgfaa.AreaMath Go.Proofs.Ytakiciemkecgfaa.Area Go.Proofs.Ytakiciemkecgfaa.Load
set_option maxRecDepth 100000
set_option linter.unusedVariables false

structure TripM where
  vs : List Vis
  back : Int
  dist : Int
  cost : Int
def noTrip : TripM := ⟨[], 0, 0, 0⟩
def truckR (R : List Trk) (id : Int) : Int := if R.any (fun t => t.id == id) then ((R.findIdx fun t => t.id == id : Nat) : Int) else -1
theorem trkAt_get (R : List Trk) (k : Nat) (hk : k < R.length) : trkAt R k = R[k] := by
  unfold trkAt; simp [List.getD_eq_getElem?_getD, hk]
theorem truckR_found (R : List Trk) (id : Int) : FoundT R id (truckR R id) := by
  unfold truckR
  cases h : R.any (fun t => t.id == id) with
  | true =>
    have hlt : (R.findIdx fun t => t.id == id) < R.length := by
      rw [List.findIdx_lt_length]; exact List.any_eq_true.1 h
    refine .inr ⟨_, hlt, rfl, ?_, fun j hj => ?_⟩
    · rw [trkAt_get R _ hlt]
      have := List.findIdx_getElem (w := hlt)
      simpa using this
    · have := List.not_of_lt_findIdx hj
      rw [trkAt_get R j (by omega)]
      simpa using this
  | false =>
    refine .inl ⟨rfl, fun j hj => ?_⟩
    rw [List.any_eq_false] at h
    have := h R[j] (List.getElem_mem hj)
    rw [trkAt_get R j hj]
    simpa using this
/-- is any order's beginning too late? -/
def lateB (n : Int) (D T : List Int) (l : List Ord) (p : Place) : Bool := (List.range l.length).any fun j => decide ((ordAt l j).to < (visK n D T l p j).start)
def startP (t : Trk) : Place := ⟨0, t.start, 0⟩
def homeP (n : Int) (D T : List Int) (l : List Ord) (p : Place) : Place := (placeK n D T l p l.length).go n D T 0
/-- the trip, or why there is none -/
def tripR (x : Wd) (t : Trk) (l : List Ord) : TripM × Int :=
  if carriesE t l ≠ 0 then (noTrip, carriesE t l)
  else if lateB x.n x.D x.T l (startP t) = true ∨ t.stop < (homeP x.n x.D x.T l (startP t)).time then (noTrip, 10)
  else (⟨visits x.n x.D x.T l (startP t) l.length, (homeP x.n x.D x.T l (startP t)).time, (homeP x.n x.D x.T l (startP t)).dist, t.fixed + t.rate * (homeP x.n x.D x.T l (startP t)).dist⟩, 0)
def runR (x : Wd) (id : Int) (S : List Int) : TripM × Int :=
  if rworldE x ≠ 0 then (noTrip, rworldE x)
  else if S.length = 0 ∨ 12 < S.length then (noTrip, 2)
  else if truckR x.R id < 0 then (noTrip, 5)
  else if ordersR x.O S ≠ 0 then (noTrip, ordersR x.O S)
  else tripR x (trkAt x.R (truckR x.R id).toNat) (picks x.O S)

theorem trip_ret {a : Option Addr} {k c : Nat} {x1 x2 x3 e : Int} {r : TripM × Int} (h : r = (⟨r.1.vs, x1, x2, x3⟩, e)) (hk : r.1.vs.length = k) :
    Ending.returned (.tuple #[.agg #[.slice a k c, .int .i64 x1, .int .i64 x2, .int .i64 x3], .int .i64 e]) = .returned (.tuple #[.agg #[.slice a r.1.vs.length c, .int .i64 r.1.back, .int .i64 r.1.dist, .int .i64 r.1.cost], .int .i64 r.2]) := by
  rw [hk]; rw [h]
theorem none_ret {e : Int} {r : TripM × Int} (h : r = (noTrip, e)) :
    Ending.returned (.tuple #[.agg #[.slice none 0 0, .int .i64 0, .int .i64 0, .int .i64 0], .int .i64 e]) = .returned (.tuple #[.agg #[.slice none r.1.vs.length 0, .int .i64 r.1.back, .int .i64 r.1.dist, .int .i64 r.1.cost], .int .i64 r.2]) := by
  rw [h]; rfl
/-- a slice that lies in a block made since -/
def Fresh (w : World) (a : Option Addr) : Prop := ∀ y, a = some y → w.heap.size ≤ y.block
/-- the box of a trip, not written yet -/
def ZBox (w : World) (b : Nat) : Prop := w.cell? ⟨b, 0, none⟩ = some (.slice none 0 0) ∧ w.cell? ⟨b, 1, none⟩ = some (.int .i64 0) ∧ w.cell? ⟨b, 2, none⟩ = some (.int .i64 0) ∧ w.cell? ⟨b, 3, none⟩ = some (.int .i64 0)
theorem ZBox.on {w w1 : World} {b : Nat} (h : ZBox w b) (hb : Below w.heap.size w w1) : ZBox w1 b := ⟨cell_on hb h.1, cell_on hb h.2.1, cell_on hb h.2.2.1, cell_on hb h.2.2.2⟩
theorem Soft.on {w w1 : World} {b : Nat} (h : Soft w b) (hlt : b < w.heap.size) (hb : Below w.heap.size w w1) : Soft w1 b := fun j => (hb.frozen (p := ⟨b, j, none⟩) hlt).trans (h j)
/-- a route's box -/
def SBox (w : World) (b : Nat) (id : Int) (v : Value) : Prop := w.cell? ⟨b, 0, none⟩ = some (.int .i64 id) ∧ w.cell? ⟨b, 1, none⟩ = some v
theorem SBox.on {w w1 : World} {b : Nat} {id : Int} {v : Value} (h : SBox w b id v) (hb : Below w.heap.size w w1) : SBox w1 b id v := ⟨cell_on hb h.1, cell_on hb h.2⟩
/-- the three boxes of Run -/
structure Boxes3 (A : Nat) (w : World) (n : Int) (s1 s2 s3 s4 : Value) (id : Int) (v : Value) : Prop where
  fb : FBox w A n s1 s2 s3 s4
  sb : SBox w (A + 1) id v
  zb : ZBox w (A + 1 + 1)
  zf : Soft w (A + 1 + 1)
theorem Boxes3.lt {A : Nat} {w : World} {n : Int} {s1 s2 s3 s4 : Value} {id : Int} {v : Value} (h : Boxes3 A w n s1 s2 s3 s4 id v) : A + 1 + 1 < w.heap.size := World.block_lt_of_cell? w _ h.zb.1
theorem Boxes3.on {A : Nat} {w w1 : World} {n : Int} {s1 s2 s3 s4 : Value} {id : Int} {v : Value} (h : Boxes3 A w n s1 s2 s3 s4 id v) (hb : Below w.heap.size w w1) : Boxes3 A w1 n s1 s2 s3 s4 id v :=
  ⟨h.fb.on hb, h.sb.on hb, h.zb.on hb, h.zf.on h.lt hb⟩
theorem boxes3_new (w : World) (n : Int) (s1 s2 s3 s4 : Value) (id : Int) (v : Value) :
    Boxes3 w.heap.size (((w.alloc (.cells #[.int .i64 n, s1, s2, s3, s4] 40)).alloc (.cells #[.int .i64 id, v] 55)).alloc (.cells #[.slice none 0 0, .int .i64 0, .int .i64 0, .int .i64 0] 59)) n s1 s2 s3 s4 id v := by
  have e1 : (w.alloc (.cells #[.int .i64 n, s1, s2, s3, s4] 40)).heap.size = w.heap.size + 1 := World.size_alloc _ _
  have e2 : ((w.alloc (.cells #[.int .i64 n, s1, s2, s3, s4] 40)).alloc (.cells #[.int .i64 id, v] 55)).heap.size = w.heap.size + 1 + 1 := by rw [World.size_alloc, e1]
  refine ⟨((FBox.new w n s1 s2 s3 s4 40).on (below_new _ _)).on (below_new _ _), ?_, ?_, ?_⟩
  · rw [← e1]
    exact ⟨cell_on (below_new _ _) (box_cell _ _ _ 0 _ rfl), cell_on (below_new _ _) (box_cell _ _ _ 1 _ rfl)⟩
  · rw [← e2]
    exact ⟨box_cell _ _ _ 0 _ rfl, box_cell _ _ _ 1 _ rfl, box_cell _ _ _ 2 _ rfl, box_cell _ _ _ 3 _ rfl⟩
  · intro j
    rw [← e2]
    exact World.frozen?_alloc_new _ _ _ _

/-- a trip is stored into its box -/
theorem put4 {w1 : World} {b : Nat} (h : ZBox w1 b) (v0 v1 v2 v3 : Value) :
    ((((w1.setCell ⟨b, 0, none⟩ v0).setCell ⟨b, 1, none⟩ v1).setCell ⟨b, 2, none⟩ v2).setCell ⟨b, 3, none⟩ v3).cell? ⟨b, 0, none⟩ = some v0 ∧ ((((w1.setCell ⟨b, 0, none⟩ v0).setCell ⟨b, 1, none⟩ v1).setCell ⟨b, 2, none⟩ v2).setCell ⟨b, 3, none⟩ v3).cell? ⟨b, 1, none⟩ = some v1 ∧ ((((w1.setCell ⟨b, 0, none⟩ v0).setCell ⟨b, 1, none⟩ v1).setCell ⟨b, 2, none⟩ v2).setCell ⟨b, 3, none⟩ v3).cell? ⟨b, 2, none⟩ = some v2 ∧ ((((w1.setCell ⟨b, 0, none⟩ v0).setCell ⟨b, 1, none⟩ v1).setCell ⟨b, 2, none⟩ v2).setCell ⟨b, 3, none⟩ v3).cell? ⟨b, 3, none⟩ = some v3 := by
  obtain ⟨z0, z1, z2, z3⟩ := h
  have y0 := World.cell?_setCell_same w1 ⟨b, 0, none⟩ v0 z0
  have y1 := World.cell?_setCell_same (w1.setCell ⟨b, 0, none⟩ v0) ⟨b, 1, none⟩ v1 (cell_set_other z1 (by omega))
  have y2 := World.cell?_setCell_same ((w1.setCell ⟨b, 0, none⟩ v0).setCell ⟨b, 1, none⟩ v1) ⟨b, 2, none⟩ v2 (cell_set_other (cell_set_other z2 (by omega)) (by omega))
  have y3 := World.cell?_setCell_same (((w1.setCell ⟨b, 0, none⟩ v0).setCell ⟨b, 1, none⟩ v1).setCell ⟨b, 2, none⟩ v2) ⟨b, 3, none⟩ v3 (cell_set_other (cell_set_other (cell_set_other z3 (by omega)) (by omega)) (by omega))
  exact ⟨cell_set_other (cell_set_other (cell_set_other y0 (by omega)) (by omega)) (by omega), cell_set_other (cell_set_other y1 (by omega)) (by omega), cell_set_other y2 (by omega), y3⟩
theorem put4_below {w w1 : World} {b : Nat} (h : Below w.heap.size w w1) (hb : w.heap.size ≤ b) (v0 v1 v2 v3 : Value) : Below w.heap.size w ((((w1.setCell ⟨b, 0, none⟩ v0).setCell ⟨b, 1, none⟩ v1).setCell ⟨b, 2, none⟩ v2).setCell ⟨b, 3, none⟩ v3) :=
  (((h.setCell hb _).setCell hb _).setCell hb _).setCell hb _
theorem run_results (tmps : Array Value) (W : World) (b : Nat) (a : Option Addr) (k c : Nat) (x1 x2 x3 : Int) (hp : tmps.getD 4 undef = .pointer (some ⟨b, 0, none⟩)) (c0 : W.cell? ⟨b, 0, none⟩ = some (.slice a k c)) (c1 : W.cell? ⟨b, 1, none⟩ = some (.int .i64 x1)) (c2 : W.cell? ⟨b, 2, none⟩ = some (.int .i64 x2)) (c3 : W.cell? ⟨b, 3, none⟩ = some (.int .i64 x3)) :
    (results Try.f37 tmps).run Try.prog W = .ok (.tuple #[.agg #[.slice a k c, .int .i64 x1, .int .i64 x2, .int .i64 x3], tmps.getD 5 undef]) W := by
  rw [results_cell_tmp rfl, hp]
  go_simp
theorem run_done {Post : Ending → World → Prop} {act : Act} {w1 : World} {b : Nat} (hz : ZBox w1 b) (a : Option Addr) (k c : Nat) (x1 x2 x3 E : Int) (hp : act.tmps.getD 4 undef = .pointer (some ⟨b, 0, none⟩)) (h5 : act.tmps.getD 5 undef = .int .i64 E) (hd : act.defers = [])
    (hR : Post (.returned (.tuple #[.agg #[.slice a k c, .int .i64 x1, .int .i64 x2, .int .i64 x3], .int .i64 E])) ((((w1.setCell ⟨b, 0, none⟩ (.slice a k c)).setCell ⟨b, 1, none⟩ (.int .i64 x1)).setCell ⟨b, 2, none⟩ (.int .i64 x2)).setCell ⟨b, 3, none⟩ (.int .i64 x3))) :
    bodyPost Try.prog Try.f37 Post .ret act ((((w1.setCell ⟨b, 0, none⟩ (.slice a k c)).setCell ⟨b, 1, none⟩ (.int .i64 x1)).setCell ⟨b, 2, none⟩ (.int .i64 x2)).setCell ⟨b, 3, none⟩ (.int .i64 x3)) := by
  obtain ⟨c0, c1, c2, c3⟩ := put4 hz (.slice a k c) (.int .i64 x1) (.int .i64 x2) (.int .i64 x3)
  refine bodyPost_ret (run_results act.tmps _ b a k c x1 x2 x3 hp c0 c1 c2 c3) hd ?_
  rw [h5]
  exact hR
theorem err_post {w w' : World} {RR : TripM × Int} {E : Int} (F : RR = (noTrip, E)) (hb : Below w.heap.size w w') :
    ∃ a c, Ending.returned (.tuple #[.agg #[.slice none 0 0, .int .i64 0, .int .i64 0, .int .i64 0], .int .i64 E]) = .returned (.tuple #[.agg #[.slice a RR.1.vs.length c, .int .i64 RR.1.back, .int .i64 RR.1.dist, .int .i64 RR.1.cost], .int .i64 RR.2]) ∧
      ReadsV w' a RR.1.vs ∧ RR.1.vs.length ≤ c ∧ Below w.heap.size w w' ∧ Fresh w a :=
  ⟨none, 0, none_ret F, by rw [F]; exact fun h => absurd h (by simp [noTrip]), by rw [F]; exact Nat.le_refl _, hb, fun y h => by cases h⟩

theorem rworld_ok {x : Wd} (h : rworldE x = 0) : validB x.n x.D x.T = true ∧ worldE x.n x.O x.R = 0 := by
  unfold rworldE at h
  by_cases h1 : errC x.n x.D x.T = 0
  · rw [if_pos h1] at h
    refine ⟨?_, h⟩
    unfold errC at h1
    cases hv : validB x.n x.D x.T with
    | true => rfl
    | false => rw [hv] at h1; simp at h1
  · rw [if_neg h1] at h
    exact absurd h h1
theorem picks_ok {O : List Ord} {S : List Int} (h : ordersR O S = 0) : ∀ o ∈ picks O S, o ∈ O := by
  unfold ordersR at h
  cases ha : S.all (hasB O) with
  | false => rw [ha] at h; simp at h
  | true =>
    intro o ho
    obtain ⟨s, hs, rfl⟩ := List.mem_map.1 ho
    exact (pick_mem (List.all_eq_true.1 ha s hs)).1
theorem lateB_of {n : Int} {D T : List Int} {l : List Ord} {p : Place} {j : Nat} (hj : j < l.length) (h : (ordAt l j).to < (visK n D T l p j).start) : lateB n D T l p = true := by
  unfold lateB
  rw [List.any_eq_true]
  exact ⟨j, List.mem_range.2 hj, decide_eq_true h⟩
theorem lateB_not {n : Int} {D T : List Int} {l : List Ord} {p : Place} (h : ∀ j, j < l.length → ¬ (ordAt l j).to < (visK n D T l p j).start) : lateB n D T l p = false := by
  unfold lateB
  rw [List.any_eq_false]
  intro j hj
  simpa using h j (List.mem_range.1 hj)
theorem home_range {n : Int} {D T : List Int} (hv : validB n D T = true) {l : List Ord} (ho : ∀ o ∈ l, OrdOk n o) {p : Place} (hp : PlOk n 0 p) (hl : l.length ≤ 12) :
    (0 ≤ (homeP n D T l p).time ∧ (homeP n D T l p).time ≤ 1000000000) ∧ (0 ≤ (homeP n D T l p).dist ∧ (homeP n D T l p).dist ≤ 13000000) := by
  have h := plOk_at hv ho hp l.length (Nat.le_refl _)
  obtain ⟨v1, v2, v3, v4, v5, v6⟩ := validB_iff.1 hv
  have h0 : nodeB n 0 = true := nodeB_iff.2 (by omega)
  have r1 := leg_range v5 v3 h.1 h0
  have r2 := leg_range v6 v4 h.1 h0
  have h2 := h.2.1
  have h3 := h.2.2
  unfold homeP Place.go
  dsimp only
  omega
theorem mul_range {r d : Int} (h : 0 ≤ r ∧ r ≤ 1000) (k : 0 ≤ d ∧ d ≤ 13000000) : 0 ≤ r * d ∧ r * d ≤ 13000000000 := by
  have h1 := Int.mul_nonneg h.1 k.1
  have h2 := Int.mul_le_mul h.2 k.2 k.1 (by omega)
  omega
/-- the loop: behind j orders -/
structure RunSt (w4 wr : World) (x : Wd) (l : List Ord) (p : Place) (j : Nat) (a2 : Option Addr) (c2 : Nat) : Prop where
  pb : PBox wr w4.heap.size (placeK x.n x.D x.T l p j)
  vb : wr.cell? ⟨w4.heap.size, 3, none⟩ = some (.slice a2 j c2)
  sf : Soft wr w4.heap.size
  own : wr.ownsRow (w4.heap.size + 1) 72 4 (.slice a2 j c2) j (cellsV (visits x.n x.D x.T l p j))
  bel : Below w4.heap.size w4 wr
  ok : ∀ i, i < j → ¬ (ordAt l i).to < (visK x.n x.D x.T l p i).start

set_option maxHeartbeats 8000000 in
theorem run_any (x : Wd) (q : Wp) (id : Int) (aS : Option Addr) (lS cS : Nat) (S : List Int) (w : World) (h : Lies w x q) (hs : Small x) (hS1 : S.length = lS) (hS : ReadsI w aS S) (hm : lS ≤ 200) (hw : ∀ s ∈ S, NumWf s) :
    Calls Try.prog 37 #[.agg (wcells x.n q), .agg #[.int .i64 id, .slice aS lS cS]] w fun e w' => ∃ a c, e = .returned (.tuple #[.agg #[.slice a (runR x id S).1.vs.length c, .int .i64 (runR x id S).1.back, .int .i64 (runR x id S).1.dist, .int .i64 (runR x id S).1.cost], .int .i64 (runR x id S).2]) ∧
      ReadsV w' a (runR x id S).1.vs ∧ (runR x id S).1.vs.length ≤ c ∧ Below w.heap.size w w' ∧ Fresh w a := by
  have HL := Lib.hid h; have HSm := Lib.hid hs; have HSL := Lib.hid hS1; have HSR := Lib.hid hS; have HWF := Lib.hid hw
  have HB3 := Lib.hid (boxes3_new w x.n (.slice q.aD q.lD q.cD) (.slice q.aT q.lT q.cT) (.slice q.aO q.lO q.cO) (.slice q.aR q.lR q.cR) id (.slice aS lS cS))
  have HB0 : Hid (Below w.heap.size w (((w.alloc (.cells #[.int .i64 x.n, .slice q.aD q.lD q.cD, .slice q.aT q.lT q.cT, .slice q.aO q.lO q.cO, .slice q.aR q.lR q.cR] 40)).alloc (.cells #[.int .i64 id, .slice aS lS cS] 55)).alloc (.cells #[.slice none 0 0, .int .i64 0, .int .i64 0, .int .i64 0] 59))) :=
    below_on (below_on (below_new _ _) (below_new _ _)) (below_new _ _)
  have HC1 : Hid (∀ w1, Below w.heap.size w w1 → Calls Try.prog 41 #[.agg #[.int .i64 x.n, .slice q.aD q.lD q.cD, .slice q.aT q.lT q.cT, .slice q.aO q.lO q.cO, .slice q.aR q.lR q.cR]] w1 fun e w' => e = .returned (.int .i64 (rworldE x)) ∧ Below w1.heap.size w1 w') := fun w1 hw1 => rworld_any x q w1 (h.below hw1) hs
  have HC2 : Hid (∀ w1, Below w.heap.size w w1 → Calls Try.prog 43 #[.agg #[.int .i64 x.n, .slice q.aD q.lD q.cD, .slice q.aT q.lT q.cT, .slice q.aO q.lO q.cO, .slice q.aR q.lR q.cR], .int .i64 id] w1 fun e w' => e = .returned (.int .i64 (truckR x.R id)) ∧ Below w1.heap.size w1 w') := fun w1 hw1 => by
    refine (rtruck_any x q id w1 (h.below hw1) (by have := hs.lR; omega)).mono ?_
    rintro _ w2 ⟨r, rfl, hf, hb⟩
    exact ⟨ret_i64 (hf.same (truckR_found x.R id)), hb⟩
  have HC3 : Hid (∀ w1, Below w.heap.size w w1 → Calls Try.prog 60 #[.agg #[.int .i64 x.n, .slice q.aD q.lD q.cD, .slice q.aT q.lT q.cT, .slice q.aO q.lO q.cO, .slice q.aR q.lR q.cR], .slice aS lS cS] w1 fun e w' => ∃ a len c, e = .returned (.tuple #[.slice a len c, .int .i64 (ordersR x.O S)]) ∧ (ordersR x.O S = 0 → len = lS ∧ ReadsO w' a (picks x.O S)) ∧ Below w1.heap.size w1 w') := fun w1 hw1 =>
    orders_any x q aS lS cS S w1 (h.below hw1) hs.lO hS1 (hS.below hw1) hm hw
  clear h hs hS1 hS hw
  obtain ⟨RR, hRR⟩ : ∃ r, runR x id S = r := ⟨_, rfl⟩
  have HRR := Lib.hid hRR
  rw [hRR]
  clear hRR
  unfold wcells
  go_enter Try.func37, Try.ntmps37
  go_wp2_with fail
  refine (HC1.out _ HB0.out).mono ?_
  rintro _ w1 ⟨rfl, hw1⟩
  have H1 := Lib.hid (below_on HB0.out hw1)
  have B1 := Lib.hid (HB3.out.on hw1)
  clear hw1 HB3 HB0 HC1
  by_cases h1 : rworldE x = 0
  · obtain ⟨b0, b1, b2, b3, b4⟩ := B1.out.fb
    obtain ⟨s0, s1⟩ := B1.out.sb
    have HRW := Lib.hid h1
    rw [h1]
    by_cases hz : lS = 0
    · have F := Lib.hid (show RR = (noTrip, 2) by rw [← HRR.out]; unfold runR; rw [if_neg (by rw [HRW.out]; simp), if_pos (.inl (by rw [HSL.out]; exact hz))])
      subst hz
      clear h1
      obtain ⟨z0, z1, z2, z3⟩ := B1.out.zb
      have zf := B1.out.zf
      unfold Soft at zf
      go_wp2_with fail
      (try simp only [Exit.inBlock, Exit.then])
      exact run_done B1.out.zb none 0 0 0 0 0 2 rfl rfl rfl (err_post F.out (put4_below H1.out (by omega) _ _ _ _))
    by_cases hg : 12 < lS
    · have F := Lib.hid (show RR = (noTrip, 2) by rw [← HRR.out]; unfold runR; rw [if_neg (by rw [HRW.out]; simp), if_pos (.inr (by rw [HSL.out]; exact hg))])
      have hk2 : ((lS : Int) == 0) = false := beq_eq_false_iff_ne.2 (by omega)
      clear h1
      obtain ⟨z0, z1, z2, z3⟩ := B1.out.zb
      have zf := B1.out.zf
      unfold Soft at zf
      go_wp2_with fail
      (try simp only [Exit.inBlock, Exit.then])
      exact run_done B1.out.zb none 0 0 0 0 0 2 rfl rfl rfl (err_post F.out (put4_below H1.out (by omega) _ _ _ _))
    have hk2 : ((lS : Int) == 0) = false := beq_eq_false_iff_ne.2 (by omega)
    have HR2 := Lib.hid (show RR = if truckR x.R id < 0 then (noTrip, 5) else if ordersR x.O S ≠ 0 then (noTrip, ordersR x.O S) else tripR x (trkAt x.R (truckR x.R id).toNat) (picks x.O S) by
      rw [← HRR.out]; unfold runR; rw [if_neg (by rw [HRW.out]; simp), if_neg (by rw [HSL.out]; omega)])
    have d12 : decide (12 < (lS : Int)) = false := decide_eq_false (by omega)
    clear h1
    go_wp2_with fail
    refine (HC2.out _ H1.out).mono ?_
    rintro _ w2 ⟨rfl, hw2⟩
    have H2 := Lib.hid (below_on H1.out hw2)
    have B2 := Lib.hid (B1.out.on hw2)
    clear hw2 b0 b1 b2 b3 b4 s0 s1
    rcases truckR_found x.R id with ⟨hr, _⟩ | ⟨m, hml, hr, hid, _⟩
    · have F := Lib.hid (show RR = (noTrip, 5) by rw [HR2.out, if_pos (by rw [hr]; omega)])
      rw [hr]
      clear hr
      obtain ⟨z0, z1, z2, z3⟩ := B2.out.zb
      have zf := B2.out.zf
      unfold Soft at zf
      go_wp2_with fail
      (try simp only [Exit.inBlock, Exit.then])
      exact run_done B2.out.zb none 0 0 0 0 0 5 rfl rfl rfl (err_post F.out (put4_below H2.out (by omega) _ _ _ _))
    have HML := Lib.hid hml
    have HR3 := Lib.hid (show RR = if ordersR x.O S ≠ 0 then (noTrip, ordersR x.O S) else tripR x (trkAt x.R m) (picks x.O S) by rw [HR2.out, if_neg (by rw [hr]; omega), hr]; rfl)
    rw [hr]
    clear hr hid hml
    have hm0 : decide ((m : Int) < 0) = false := decide_eq_false (by omega)
    obtain ⟨b0, b1, b2, b3, b4⟩ := B2.out.fb
    obtain ⟨s0, s1⟩ := B2.out.sb
    go_wp2_with fail
    refine (HC3.out _ H2.out).mono ?_
    rintro _ w3 ⟨al, ll, cl, rfl, hl0, hw3⟩
    have H3 := Lib.hid (below_on H2.out hw3)
    have B3 := Lib.hid (B2.out.on hw3)
    have HL0 := Lib.hid hl0
    clear hw3 hl0 b0 b1 b2 b3 b4 s0 s1
    by_cases h2 : ordersR x.O S = 0
    · have HOS := Lib.hid h2
      have HR4 := Lib.hid (show RR = tripR x (trkAt x.R m) (picks x.O S) by rw [HR3.out, if_neg (by rw [HOS.out]; simp)])
      obtain ⟨hll, hlr⟩ := HL0.out h2
      rw [h2]
      subst hll
      have HLR := Lib.hid hlr
      have hmR : m < q.lR := by rw [← HL.out.lR]; exact HML.out
      obtain ⟨b, off, ha, hc⟩ := (HL.out.below H3.out).R (by have := HML.out; omega)
      obtain ⟨e0, e1, e2, e3, e4, e5, e6⟩ := trkCells_at (hc m HML.out)
      obtain ⟨tr, htr⟩ : ∃ t, trkAt x.R m = t := ⟨_, rfl⟩
      rw [htr] at e0 e1 e2 e3 e4 e5 e6
      have HTR := Lib.hid htr
      obtain ⟨b0, b1, b2, b3, b4⟩ := B3.out.fb
      rw [ha] at b4
      have d4 := b4
      have HCA := Lib.hid (carries_any tr al (picks x.O S) ll cl (w3.alloc (.cells #[.int .i64 tr.id, .int .i64 tr.weight, .int .i64 tr.volume, .int .i64 tr.start, .int .i64 tr.stop, .int .i64 tr.fixed, .int .i64 tr.rate] 42)) (by unfold picks; rw [List.length_map]; exact HSL.out) (hlr.below (below_new _ _)) (by omega))
      have f0 := box_cell w3 #[.int .i64 tr.id, .int .i64 tr.weight, .int .i64 tr.volume, .int .i64 tr.start, .int .i64 tr.stop, .int .i64 tr.fixed, .int .i64 tr.rate] 42 0 _ rfl
      clear h2 hlr hc htr b0 b1 b2 b3
      go_wp2_with fail
      refine HCA.out.mono ?_
      rintro _ w4 ⟨rfl, hw4⟩
      have HW4 := Lib.hid (below_on (below_new w3 (.cells #[.int .i64 tr.id, .int .i64 tr.weight, .int .i64 tr.volume, .int .i64 tr.start, .int .i64 tr.stop, .int .i64 tr.fixed, .int .i64 tr.rate] 42)) hw4)
      have H4 := Lib.hid (below_on H3.out HW4.out)
      have B4 := Lib.hid (B3.out.on HW4.out)
      have T4 := Lib.hid ((TBox.new w3 tr).on hw4)
      clear hw4 e0 e1 e2 e3 e4 e5 e6 b4 d4 f0 HCA
      obtain ⟨l, hl⟩ : ∃ l, picks x.O S = l := ⟨_, rfl⟩
      have HLP := Lib.hid hl
      have HLL := Lib.hid (show l.length = ll by rw [← hl]; unfold picks; rw [List.length_map]; exact HSL.out)
      rw [hl] at HLR HR4 ⊢
      rw [HTR.out] at HR4
      clear hl
      by_cases h3 : carriesE tr l = 0
      · have HCZ := Lib.hid h3
        rw [h3]
        clear h3
        have HPO := Lib.hid (picks_ok HOS.out)
        rw [HLP.out] at HPO
        obtain ⟨hv, hwe⟩ := rworld_ok HRW.out
        have hwk := worldE_ok hwe
        obtain ⟨v1, v2, _⟩ := validB_iff.1 hv
        have HV := Lib.hid hv
        have HOK := Lib.hid (show ∀ o ∈ l, OrdOk x.n o from fun o ho => ord_ok v1 v2 (hwk.2.2.1 o (HPO.out o ho)))
        have HTOK := Lib.hid (show TrkOk tr by
          rw [← HTR.out]
          exact trk_ok (hwk.2.2.2.1 _ (by rw [trkAt_get _ _ HML.out]; exact List.getElem_mem _)))
        have HN0 := Lib.hid (show nodeB x.n 0 = true from nodeB_iff.2 (by omega))
        have HP0 := Lib.hid (show PlOk x.n 0 (startP tr) from ⟨HN0.out, by have := HTOK.out.1; unfold startP; dsimp only; omega, by unfold startP; dsimp only; omega⟩)
        clear hv hwe hwk v1 v2
        obtain ⟨t0, t1, t2, t3, t4, t5, t6⟩ := T4.out
        have HNX : Hid (Below w4.heap.size w4 (w4.alloc (.cells #[.int .i64 0, .int .i64 tr.start, .int .i64 0, .slice none 0 0] 99))) := below_new _ _
        have n0 := box_cell w4 #[.int .i64 0, .int .i64 tr.start, .int .i64 0, .slice none 0 0] 99 0 _ rfl
        have n1 := box_cell w4 #[.int .i64 0, .int .i64 tr.start, .int .i64 0, .slice none 0 0] 99 1 _ rfl
        have n2 := box_cell w4 #[.int .i64 0, .int .i64 tr.start, .int .i64 0, .slice none 0 0] 99 2 _ rfl
        have n3 := box_cell w4 #[.int .i64 0, .int .i64 tr.start, .int .i64 0, .slice none 0 0] 99 3 _ rfl
        have HN := Lib.hid (And.intro n0 (And.intro n1 (And.intro n2 n3)))
        clear n0 n1 n2 n3
        go_wp2_with fail
        clear t0 t1 t2 t3 t4 t5 t6
        go_loopw [68] (fun i wr => ∃ (j : Nat) (a2 : Option Addr) (c2 : Nat), j ≤ ll ∧ i = .int .i64 j ∧ RunSt w4 wr x l (startP tr) j a2 c2) (fun i wr => ll - (intOf i).toNat)
        case atStart => exact ⟨0, none, 0, by omega, rfl, ⟨⟨HN.out.1, HN.out.2.1, HN.out.2.2.1⟩, HN.out.2.2.2, fun j => World.frozen?_alloc_new _ _ _ _, by simpa [cellsV, visits] using World.ownsRow_nil _ _ _ _, HNX.out, fun i hi => by omega⟩⟩
        case round =>
          obtain ⟨j, a2, c2, hj, rfl, hT⟩ := hrel
          have HT := Lib.hid hT; clear hT
          have hbn := Nat.lt_of_lt_of_le B4.out.lt (Nat.le_refl _)
          by_cases hlt : j < ll
          · have hjl : j < l.length := by rw [HLL.out]; exact hlt
            obtain ⟨lb, loff, hla, hlc⟩ := (HLR.out.below HW4.out).below HT.out.bel (by omega)
            obtain ⟨e0, e1, e2, e3, e4, e5, e6, e7⟩ := ordCells_at (hlc j hjl)
            have hoo := HOK.out (ordAt l j) (by unfold ordAt; simp [List.getD_eq_getElem?_getD, List.getElem?_eq_getElem hjl])
            have hpl := plOk_at HV.out HOK.out HP0.out j (by omega)
            have hsu := placeK_succ x.n x.D x.T l (startP tr) j hjl
            have hvs := visits_succ x.n x.D x.T l (startP tr) j
            have HVI := Lib.hid (visit_any x.n q.aD q.aT x.D x.T q.lD q.lT q.cD q.cT w4.heap.size j j a2 c2 (visits x.n x.D x.T l (startP tr) j) (placeK x.n x.D x.T l (startP tr) j) (ordAt l j) (wr.alloc (.cells (ordAt l j).cells 44))
              HL.out.lD HL.out.lT (((HL.out.below H4.out).below HT.out.bel).D.alloc _) (((HL.out.below H4.out).below HT.out.bel).T.alloc _) HV.out hpl (by omega) hoo
              ⟨cell_on (below_new _ _) HT.out.pb.1, cell_on (below_new _ _) HT.out.pb.2.1, cell_on (below_new _ _) HT.out.pb.2.2⟩
              (HT.out.sf.on (World.block_lt_of_cell? _ _ HT.out.vb) (below_new _ _)) (cell_on (below_new _ _) HT.out.vb) (by omega) (HT.out.own.alloc _) trivial)
            rw [← hsu] at HVI
            have hvk : visOf x.n x.T (placeK x.n x.D x.T l (startP tr) j) (ordAt l j) = visK x.n x.D x.T l (startP tr) j := rfl
            rw [hvk, ← hvs] at HVI
            have HBG := Lib.hid (show beginAt x.n x.T (placeK x.n x.D x.T l (startP tr) j) (ordAt l j) = (visK x.n x.D x.T l (startP tr) j).start from rfl)
            obtain ⟨bg, hbg⟩ : ∃ t, beginAt x.n x.T (placeK x.n x.D x.T l (startP tr) j) (ordAt l j) = t := ⟨_, rfl⟩
            rw [hbg] at HVI HBG
            obtain ⟨o, ho⟩ : ∃ o, ordAt l j = o := ⟨_, rfl⟩
            rw [ho] at e0 e1 e2 e3 e4 e5 e6 e7 HVI
            have HO := Lib.hid ho
            obtain ⟨b0, b1, b2, b3, b4⟩ := (B4.out.fb.on HT.out.bel).on (below_new wr (.cells #[.int .i64 o.id, .int .i64 o.owner, .int .i64 o.node, .int .i64 o.weight, .int .i64 o.volume, .int .i64 o.frm, .int .i64 o.to, .int .i64 o.service] 44))
            have HVB := Lib.hid (below_new wr (.cells #[.int .i64 o.id, .int .i64 o.owner, .int .i64 o.node, .int .i64 o.weight, .int .i64 o.volume, .int .i64 o.frm, .int .i64 o.to, .int .i64 o.service] 44))
            have hba := hla
            subst hba
            clear hla hlc hoo hpl hsu hvs hvk hbg ho
            unfold Ord.cells at HVI
            go_wp2_with fail
            refine HVI.out.mono ?_
            rintro _ w5 ⟨rfl, a3, c3, h51, h52, h53, h54, h55⟩
            have K1 := Lib.hid h51; have K2 := Lib.hid h52; have K3 := Lib.hid h53; have K4 := Lib.hid h54
            have K5 := Lib.hid (show Below w4.heap.size w4 w5 from (HT.out.bel.trans (HVB.out.mono HT.out.bel.size)).trans h55)
            clear h51 h52 h53 h54 h55 b0 b1 b2 b3 b4 e0 e1 e2 e3 e4 e5 e6 e7 HVI
            have B5 := Lib.hid (B4.out.on K5.out)
            have H5 := Lib.hid (below_on H4.out K5.out)
            by_cases hlate : bg ≤ o.to
            · have hd : decide (bg ≤ o.to) = true := decide_eq_true hlate
              have HOKJ := Lib.hid (show ∀ i, i < j + 1 → ¬ (ordAt l i).to < (visK x.n x.D x.T l (startP tr) i).start from fun i hi => by
                by_cases e : i = j
                · subst e; rw [← HBG.out, HO.out]; omega
                · exact HT.out.ok i (by omega))
              rw [hd]
              clear hlate hd
              go_wp2_with fail
              go_roundw
              case rel => exact ⟨j + 1, a3, c3, by omega, by go_num, ⟨K1.out, K2.out, K3.out, K4.out, K5.out, fun i hi => by have := HOKJ.out i hi; omega⟩⟩
              case measure => simp [intOf]; omega
            · have hd : decide (bg ≤ o.to) = false := decide_eq_false hlate
              have F := Lib.hid (show RR = (noTrip, 10) by
                rw [HR4.out]; unfold tripR
                rw [if_neg (by rw [HCZ.out]; simp), if_pos (.inl (lateB_of (show j < l.length by rw [HLL.out]; exact hlt) (by rw [← HBG.out, HO.out]; omega)))])
              rw [hd]
              clear hlate hd
              obtain ⟨z0, z1, z2, z3⟩ := B5.out.zb
              have zf := B5.out.zf
              unfold Soft at zf
              go_wp2_with fail
              (try simp only [Exit.inBlock, Exit.then])
              exact run_done B5.out.zb none 0 0 0 0 0 10 rfl rfl rfl (err_post F.out (put4_below H5.out (by omega) _ _ _ _))
          · obtain rfl : j = ll := by omega
            have hpl := plOk_at HV.out HOK.out HP0.out j (by rw [HLL.out]; exact Nat.le_refl _)
            have hlt4 : w4.heap.size < wr.heap.size := World.block_lt_of_cell? _ _ HT.out.vb
            have HWK := Lib.hid (walk_any x.n q.aD q.aT x.D x.T q.lD q.lT q.cD q.cT w4.heap.size (placeK x.n x.D x.T l (startP tr) j) 0 wr HL.out.lD HL.out.lT ((HL.out.below H4.out).below HT.out.bel).D ((HL.out.below H4.out).below HT.out.bel).T HV.out hpl.1 HN0.out (by have := hpl.2.1; omega) (by have := hpl.2.2; omega) HT.out.pb HT.out.sf)
            have hho : (placeK x.n x.D x.T l (startP tr) j).go x.n x.D x.T 0 = homeP x.n x.D x.T l (startP tr) := by unfold homeP; rw [HLL.out]
            rw [hho] at HWK
            have hhb := home_range HV.out HOK.out HP0.out (by rw [HLL.out]; omega)
            obtain ⟨hp, hhp⟩ : ∃ p, homeP x.n x.D x.T l (startP tr) = p := ⟨_, rfl⟩
            rw [hhp] at HWK hhb
            have HHP := Lib.hid hhp
            obtain ⟨b0, b1, b2, b3, b4⟩ := B4.out.fb.on HT.out.bel
            clear hpl hho hhp
            go_wp2_with fail
            refine HWK.out.mono ?_
            rintro _ w6 ⟨rfl, h61, h62, h63, h64⟩
            have x3 := h64 3 _ (by omega) HT.out.vb
            have K2 := Lib.hid x3
            have K4 := Lib.hid (show w6.ownsRow (w4.heap.size + 1) 72 4 (.slice a2 j c2) j (cellsV (visits x.n x.D x.T l (startP tr) j)) from HT.out.own.kept h63 (by
              by_cases e : (Value.slice a2 j c2).ownBlock = none
              · exact .inl e
              · exact .inr (fun e2 => by have := (HT.out.own.lt _ e2).1; omega)))
            have K5 := Lib.hid (show Below w4.heap.size w4 w6 from HT.out.bel.grown h63 HT.out.bel.size (fun j hj => by cases hj; exact Nat.le_refl _))
            have B6 := Lib.hid (B4.out.on K5.out)
            have H6 := Lib.hid (below_on H4.out K5.out)
            have T6 := Lib.hid (T4.out.on K5.out)
            obtain ⟨p0, p1, p2⟩ := h61
            clear h62 h63 h64 b0 b1 b2 b3 b4 HWK
            obtain ⟨t0, t1, t2, t3, t4, t5, t6⟩ := T6.out
            obtain ⟨z0, z1, z2, z3⟩ := B6.out.zb
            have zf := B6.out.zf
            unfold Soft at zf
            by_cases hlate : tr.stop < hp.time
            · have F := Lib.hid (show RR = (noTrip, 10) by
                rw [HR4.out]; unfold tripR
                rw [if_neg (by rw [HCZ.out]; simp), if_pos (.inr (by rw [HHP.out]; exact hlate))])
              go_wp2_with fail
              (try simp only [Exit.inBlock, Exit.then])
              exact run_done B6.out.zb none 0 0 0 0 0 10 rfl rfl rfl (err_post F.out (put4_below H6.out (by omega) _ _ _ _))
            · have F := Lib.hid (show RR = (⟨visits x.n x.D x.T l (startP tr) j, hp.time, hp.dist, tr.fixed + tr.rate * hp.dist⟩, 0) by
                rw [HR4.out]; unfold tripR
                rw [if_neg (by rw [HCZ.out]; simp), if_neg (by rw [HHP.out, lateB_not (by rw [HLL.out]; exact HT.out.ok)]; simp; omega), HHP.out, HLL.out])
              have hpr := mul_range HTOK.out.2.2.1 hhb.2
              have s1 : IntKind.i64.wrap (tr.rate * hp.dist) = tr.rate * hp.dist := IntWalk.i64_in _ (by omega)
              have s2 : IntKind.i64.wrap (tr.fixed + tr.rate * hp.dist) = tr.fixed + tr.rate * hp.dist := IntWalk.i64_in _ (by have := HTOK.out.2.1; omega)
              have hd : decide (tr.stop < hp.time) = false := decide_eq_false hlate
              clear hhb hpr hlate
              go_wp2_with fail
              (try simp only [Exit.inBlock, Exit.then])
              refine run_done B6.out.zb a2 j c2 hp.time hp.dist (tr.fixed + tr.rate * hp.dist) 0 rfl rfl rfl ⟨a2, c2, trip_ret (by rw [F.out]) (by rw [F.out]; exact visits_len _ _ _ _ _ _), ?_, by rw [F.out]; dsimp only; rw [visits_len]; exact own_cap K4.out, put4_below H6.out (by omega) _ _ _ _, fun y hy => by have := (K4.out.lt y.block (by rw [hy]; rfl)).1; have := H4.out.size; omega⟩
              rw [F.out]
              exact ownV_reads (ownsRow_setCell_below (ownsRow_setCell_below (ownsRow_setCell_below (ownsRow_setCell_below K4.out (by show w.heap.size + 1 + 1 < w4.heap.size + 1; omega) _) (by show w.heap.size + 1 + 1 < w4.heap.size + 1; omega) _) (by show w.heap.size + 1 + 1 < w4.heap.size + 1; omega) _) (by show w.heap.size + 1 + 1 < w4.heap.size + 1; omega) _) (visits_len _ _ _ _ _ _)
      · obtain ⟨E, hE⟩ : ∃ E, carriesE tr l = E := ⟨_, rfl⟩
        have F := Lib.hid (show RR = (noTrip, E) by rw [HR4.out]; unfold tripR; rw [if_pos h3, hE])
        rw [hE] at h3 ⊢
        have hb : (E != 0) = true := bne_iff_ne.2 h3
        clear h3 hE
        obtain ⟨z0, z1, z2, z3⟩ := B4.out.zb
        have zf := B4.out.zf
        unfold Soft at zf
        go_wp2_with fail
        (try simp only [Exit.inBlock, Exit.then])
        exact run_done B4.out.zb none 0 0 0 0 0 E rfl rfl rfl (err_post F.out (put4_below H4.out (by omega) _ _ _ _))
    · obtain ⟨E, hE⟩ : ∃ E, ordersR x.O S = E := ⟨_, rfl⟩
      have F := Lib.hid (show RR = (noTrip, E) by rw [HR3.out, if_pos h2, hE])
      rw [hE] at h2 ⊢
      have hb : (E != 0) = true := bne_iff_ne.2 h2
      clear h2 hE
      obtain ⟨z0, z1, z2, z3⟩ := B3.out.zb
      have zf := B3.out.zf
      unfold Soft at zf
      go_wp2_with fail
      (try simp only [Exit.inBlock, Exit.then])
      exact run_done B3.out.zb none 0 0 0 0 0 E rfl rfl rfl (err_post F.out (put4_below H3.out (by omega) _ _ _ _))
  · have F := Lib.hid (show RR = (noTrip, rworldE x) by rw [← HRR.out]; unfold runR; rw [if_pos h1])
    obtain ⟨E, hE⟩ : ∃ E, rworldE x = E := ⟨_, rfl⟩
    rw [hE] at h1 F ⊢
    have hb : (E != 0) = true := bne_iff_ne.2 h1
    obtain ⟨z0, z1, z2, z3⟩ := B1.out.zb
    have zf := B1.out.zf
    unfold Soft at zf
    clear h1 hE
    go_wp2_with fail
    (try simp only [Exit.inBlock, Exit.then])
    exact run_done B1.out.zb none 0 0 0 0 0 E rfl rfl rfl (err_post F.out (put4_below H1.out (by omega) _ _ _ _))
end Go.Proofs.Ytakiciemkecgfaa.Route

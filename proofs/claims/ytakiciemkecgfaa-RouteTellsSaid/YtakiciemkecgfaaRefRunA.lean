/-
  What the walk of the reference's Run (layer 8) needs: its boxes, what its loops keep, and the plain law of its tour.
-/
import Derived.Test.YtakiciemkecgfaaRefLoad
import Derived.Test.YtakiciemkecgfaaRefWorld
import Derived.Test.YtakiciemkecgfaaRefTour
import Derived.Test.YtakiciemkecgfaaRun
namespace Go.Proofs.Ytakiciemkecgfaa.Route
open Go.RowKit Go.Proofs Go.Proofs.Ytakiciemkecgfaa.AreaMath Go.Proofs.Ytakiciemkecgfaa.Area Go.Proofs.Ytakiciemkecgfaa.Load Go.Proofs.Ytakiciemkecgfaa.Append
set_option maxRecDepth 100000
set_option linter.unusedVariables false

theorem info102 : (Try.prog.info? 102).map (fun i => (i.zero, i.size, i.bytes)) = some (some (.agg #[.int .i64 0, .int .i64 0, .int .i64 0, .int .i64 0]), 4, 32) := by kernel_rfl
/-- the four boxes of the reference's Run -/
structure Boxes4 (A : Nat) (w : World) (n : Int) (s1 s2 s3 s4 : Value) (id : Int) (v : Value) : Prop where
  b3 : Boxes3 A w n s1 s2 s3 s4 id v
  nb : ZBox w (A + 1 + 1 + 1)
theorem Boxes4.lt {A : Nat} {w : World} {n : Int} {s1 s2 s3 s4 : Value} {id : Int} {v : Value} (h : Boxes4 A w n s1 s2 s3 s4 id v) : A + 1 + 1 + 1 < w.heap.size := World.block_lt_of_cell? w _ h.nb.1
theorem Boxes4.on {A : Nat} {w w1 : World} {n : Int} {s1 s2 s3 s4 : Value} {id : Int} {v : Value} (h : Boxes4 A w n s1 s2 s3 s4 id v) (hb : Below w.heap.size w w1) : Boxes4 A w1 n s1 s2 s3 s4 id v :=
  ⟨h.b3.on hb, h.nb.on hb⟩
theorem boxes4_new (w : World) (n : Int) (s1 s2 s3 s4 : Value) (id : Int) (v : Value) :
    Boxes4 w.heap.size ((((w.alloc (.cells #[.int .i64 n, s1, s2, s3, s4] 40)).alloc (.cells #[.int .i64 id, v] 55)).alloc (.cells #[.slice none 0 0, .int .i64 0, .int .i64 0, .int .i64 0] 64)).alloc (.cells #[.slice none 0 0, .int .i64 0, .int .i64 0, .int .i64 0] 64)) n s1 s2 s3 s4 id v := by
  have e1 : (w.alloc (.cells #[.int .i64 n, s1, s2, s3, s4] 40)).heap.size = w.heap.size + 1 := World.size_alloc _ _
  have e2 : ((w.alloc (.cells #[.int .i64 n, s1, s2, s3, s4] 40)).alloc (.cells #[.int .i64 id, v] 55)).heap.size = w.heap.size + 1 + 1 := by rw [World.size_alloc, e1]
  have e3 : (((w.alloc (.cells #[.int .i64 n, s1, s2, s3, s4] 40)).alloc (.cells #[.int .i64 id, v] 55)).alloc (.cells #[.slice none 0 0, .int .i64 0, .int .i64 0, .int .i64 0] 64)).heap.size = w.heap.size + 1 + 1 + 1 := by rw [World.size_alloc, e2]
  have hb3 : Boxes3 w.heap.size (((w.alloc (.cells #[.int .i64 n, s1, s2, s3, s4] 40)).alloc (.cells #[.int .i64 id, v] 55)).alloc (.cells #[.slice none 0 0, .int .i64 0, .int .i64 0, .int .i64 0] 64)) n s1 s2 s3 s4 id v := by
    refine ⟨((FBox.new w n s1 s2 s3 s4 40).on (below_new _ _)).on (below_new _ _), ?_, ?_, ?_⟩
    · rw [← e1]
      exact ⟨cell_on (below_new _ _) (box_cell _ _ _ 0 _ rfl), cell_on (below_new _ _) (box_cell _ _ _ 1 _ rfl)⟩
    · rw [← e2]
      exact ⟨box_cell _ _ _ 0 _ rfl, box_cell _ _ _ 1 _ rfl, box_cell _ _ _ 2 _ rfl, box_cell _ _ _ 3 _ rfl⟩
    · intro j
      rw [← e2]
      exact World.frozen?_alloc_new _ _ _ _
  refine ⟨hb3.on (below_new _ _), ?_⟩
  rw [← e3]
  exact ⟨box_cell _ _ _ 0 _ rfl, box_cell _ _ _ 1 _ rfl, box_cell _ _ _ 2 _ rfl, box_cell _ _ _ 3 _ rfl⟩

theorem rrun_results (tmps : Array Value) (W : World) (b : Nat) (a : Option Addr) (k c : Nat) (x1 x2 x3 : Int) (hp : tmps.getD 4 undef = .pointer (some ⟨b, 0, none⟩)) (c0 : W.cell? ⟨b, 0, none⟩ = some (.slice a k c)) (c1 : W.cell? ⟨b, 1, none⟩ = some (.int .i64 x1)) (c2 : W.cell? ⟨b, 2, none⟩ = some (.int .i64 x2)) (c3 : W.cell? ⟨b, 3, none⟩ = some (.int .i64 x3)) :
    (results Try.f38 tmps).run Try.prog W = .ok (.tuple #[.agg #[.slice a k c, .int .i64 x1, .int .i64 x2, .int .i64 x3], tmps.getD 5 undef]) W := by
  rw [results_cell_tmp rfl, hp]
  go_simp
theorem rrun_done {Post : Ending → World → Prop} {act : Act} {w1 : World} {b : Nat} (hz : ZBox w1 b) (a : Option Addr) (k c : Nat) (x1 x2 x3 E : Int) (hp : act.tmps.getD 4 undef = .pointer (some ⟨b, 0, none⟩)) (h5 : act.tmps.getD 5 undef = .int .i64 E) (hd : act.defers = [])
    (hR : Post (.returned (.tuple #[.agg #[.slice a k c, .int .i64 x1, .int .i64 x2, .int .i64 x3], .int .i64 E])) ((((w1.setCell ⟨b, 0, none⟩ (.slice a k c)).setCell ⟨b, 1, none⟩ (.int .i64 x1)).setCell ⟨b, 2, none⟩ (.int .i64 x2)).setCell ⟨b, 3, none⟩ (.int .i64 x3))) :
    bodyPost Try.prog Try.f38 Post .ret act ((((w1.setCell ⟨b, 0, none⟩ (.slice a k c)).setCell ⟨b, 1, none⟩ (.int .i64 x1)).setCell ⟨b, 2, none⟩ (.int .i64 x2)).setCell ⟨b, 3, none⟩ (.int .i64 x3)) := by
  obtain ⟨c0, c1, c2, c3⟩ := put4 hz (.slice a k c) (.int .i64 x1) (.int .i64 x2) (.int .i64 x3)
  refine bodyPost_ret (rrun_results act.tmps _ b a k c x1 x2 x3 hp c0 c1 c2 c3) hd ?_
  rw [h5]
  exact hR

def nodesOf (l : List Ord) : List Int := l.map Ord.node
/-- the stops' loop: behind k stops -/
structure StopsSt (B : Nat) (W wr : World) (O : List Ord) (S : List Int) (k : Nat) (v10 v11 : Value) : Prop where
  has : ∀ j, j < k → hasB O (at_ S j) = true
  ownO : wr.ownsRow B 44 8 v10 k (cellsO (picks O (S.take k)))
  ownN : wr.ownsRow B 3 1 v11 k (intsV (nodesOf (picks O (S.take k))))
  ap : Apart v10 v11
  bel : Below B W wr
theorem row_on {w w1 : World} {base e size n : Nat} {v : Value} {xs : List Value} (h : w.ownsRow base e size v n xs) (hb : Below w.heap.size w w1) : w1.ownsRow base e size v n xs :=
  h.kept (below_grown hb) (by by_cases e : v.ownBlock = none; · exact .inl e
                              · exact .inr e)
theorem StopsSt.on {B : Nat} {W wr w1 : World} {O : List Ord} {S : List Int} {k : Nat} {v10 v11 : Value} (h : StopsSt B W wr O S k v10 v11) (hb : Below wr.heap.size wr w1) (hB : B ≤ wr.heap.size) : StopsSt B W w1 O S k v10 v11 :=
  ⟨h.has, row_on h.ownO hb, row_on h.ownN hb, h.ap, h.bel.trans (hb.mono hB)⟩
theorem stops_start (W : World) (O : List Ord) (S : List Int) :
    StopsSt W.heap.size W ((W.alloc (.cells #[] 44)).alloc (.cells #[] 3)) O S 0 (.slice (some ⟨W.heap.size, 0, none⟩) 0 0) (.slice (some ⟨W.heap.size + 1, 0, none⟩) 0 0) := by
  have h1 := World.ownsRow_lit (base := W.heap.size) (e := 44) (size := 8) W #[] 0 (Nat.le_refl _) (by decide) rfl
  have h2 := World.ownsRow_lit (base := W.heap.size) (e := 3) (size := 1) (W.alloc (.cells #[] 44)) #[] 0 (by rw [World.size_alloc]; omega) (by decide) rfl
  rw [World.size_alloc] at h2
  exact ⟨fun j hj => by omega, h1.alloc _, h2, .inr (by show some W.heap.size ≠ some (W.heap.size + 1); intro h; have := Option.some.inj h; omega), below_on (below_new _ _) (below_new _ _)⟩
theorem nodes_snoc (O : List Ord) (S : List Int) (k : Nat) (hk : k < S.length) : intsV (nodesOf (picks O (S.take k))) ++ [.int .i64 (pick O (at_ S k)).node] = intsV (nodesOf (picks O (S.take (k + 1)))) := by
  rw [take_snoc S k hk]
  unfold picks intsV nodesOf
  simp

/-- is any of the first j orders' beginnings too late? -/
def lateUp (n : Int) (D T : List Int) (l : List Ord) (p : Place) (j : Nat) : Bool := (List.range j).any fun i => decide ((ordAt l i).to < (visK n D T l p i).start)
theorem lateUp_succ (n : Int) (D T : List Int) (l : List Ord) (p : Place) (j : Nat) : lateUp n D T l p (j + 1) = (lateUp n D T l p j || decide ((ordAt l j).to < (visK n D T l p j).start)) := by
  unfold lateUp; rw [List.range_succ, List.any_append]; simp
/-- the visits' loop: behind j orders -/
structure RefSt (b : Nat) (w4 wr : World) (x : Wd) (l : List Ord) (p : Place) (j : Nat) (a2 : Option Addr) (c2 : Nat) : Prop where
  z0 : wr.cell? ⟨b, 0, none⟩ = some (.slice a2 j c2)
  z1 : wr.cell? ⟨b, 1, none⟩ = some (.int .i64 0)
  z2 : wr.cell? ⟨b, 2, none⟩ = some (.int .i64 0)
  z3 : wr.cell? ⟨b, 3, none⟩ = some (.int .i64 0)
  sf : Soft wr b
  own : wr.ownsRow (b + 1) 102 4 (.slice a2 j c2) j (cellsV (visits x.n x.D x.T l p j))
  bel : Below b w4 wr
theorem refSt_start (w4 : World) (x : Wd) (l : List Ord) (p : Place) : RefSt w4.heap.size w4 (w4.alloc (.cells #[.slice none 0 0, .int .i64 0, .int .i64 0, .int .i64 0] 64)) x l p 0 none 0 :=
  ⟨box_cell _ _ _ 0 _ rfl, box_cell _ _ _ 1 _ rfl, box_cell _ _ _ 2 _ rfl, box_cell _ _ _ 3 _ rfl, fun j => World.frozen?_alloc_new _ _ _ _, by simpa [cellsV, visits] using World.ownsRow_nil _ _ _ _, below_new _ _⟩
theorem RefSt.on {b : Nat} {w4 wr w1 : World} {x : Wd} {l : List Ord} {p : Place} {j : Nat} {a2 : Option Addr} {c2 : Nat} (h : RefSt b w4 wr x l p j a2 c2) (hb : Below wr.heap.size wr w1) : RefSt b w4 w1 x l p j a2 c2 :=
  have hlt := World.block_lt_of_cell? _ _ h.z0
  ⟨cell_on hb h.z0, cell_on hb h.z1, cell_on hb h.z2, cell_on hb h.z3, h.sf.on hlt hb, row_on h.own hb, h.bel.trans (hb.mono (Nat.le_of_lt hlt))⟩
theorem below_on0 {b : Nat} {w4 wr w1 : World} {x : Wd} {l : List Ord} {p : Place} {j : Nat} {a2 : Option Addr} {c2 : Nat} (h : RefSt b w4 wr x l p j a2 c2) (hb : Below wr.heap.size wr w1) : Below b w4 w1 := (h.on hb).bel
/-- a visit's box -/
structure VBox (w : World) (g : Nat) (v0 v1 v2 v3 : Int) : Prop where
  c0 : w.cell? ⟨g, 0, none⟩ = some (.int .i64 v0)
  c1 : w.cell? ⟨g, 1, none⟩ = some (.int .i64 v1)
  c2 : w.cell? ⟨g, 2, none⟩ = some (.int .i64 v2)
  c3 : w.cell? ⟨g, 3, none⟩ = some (.int .i64 v3)
  sf : Soft w g
theorem vbox_new (w : World) (v0 v1 v2 v3 : Int) : VBox (w.alloc (.cells #[.int .i64 v0, .int .i64 v1, .int .i64 v2, .int .i64 v3] 102)) w.heap.size v0 v1 v2 v3 :=
  ⟨box_cell _ _ _ 0 _ rfl, box_cell _ _ _ 1 _ rfl, box_cell _ _ _ 2 _ rfl, box_cell _ _ _ 3 _ rfl, fun j => World.frozen?_alloc_new _ _ _ _⟩
theorem VBox.set2 {w : World} {g : Nat} {v0 v1 v2 v3 : Int} (h : VBox w g v0 v1 v2 v3) (u : Int) : VBox (w.setCell ⟨g, 2, none⟩ (.int .i64 u)) g v0 v1 u v3 :=
  ⟨cell_set_other h.c0 (by omega), cell_set_other h.c1 (by omega), World.cell?_setCell_same _ _ _ h.c2, cell_set_other h.c3 (by omega), fun j => by rw [World.frozen?_setCell]; exact h.sf j⟩
theorem VBox.set3 {w : World} {g : Nat} {v0 v1 v2 v3 : Int} (h : VBox w g v0 v1 v2 v3) (u : Int) : VBox (w.setCell ⟨g, 3, none⟩ (.int .i64 u)) g v0 v1 v2 u :=
  ⟨cell_set_other h.c0 (by omega), cell_set_other h.c1 (by omega), cell_set_other h.c2 (by omega), World.cell?_setCell_same _ _ _ h.c3, fun j => by rw [World.frozen?_setCell]; exact h.sf j⟩
theorem VBox.drewN {w : World} {g : Nat} {v0 v1 v2 v3 : Int} (h : VBox w g v0 v1 v2 v3) (n : Nat) : VBox (w.drewN n) g v0 v1 v2 v3 := ⟨h.c0, h.c1, h.c2, h.c3, h.sf⟩
theorem VBox.drew {w : World} {g : Nat} {v0 v1 v2 v3 : Int} (h : VBox w g v0 v1 v2 v3) : VBox w.drew g v0 v1 v2 v3 := ⟨h.c0, h.c1, h.c2, h.c3, h.sf⟩
theorem vbox_news {w : World} {g : Nat} (v : Vis) : ∀ j u, v.cells.toList[j]? = some u → (w.alloc (.cells v.cells 102)).cell? ((⟨w.heap.size, 0, none⟩ : Addr).add j) = some u := by
  intro j u hu
  rw [Addr.add_lit, Nat.zero_add]
  exact box_cell w v.cells 102 j u (by rw [← Array.getElem?_toList]; exact hu)

/-- the tour of the nodes is as far as the way of the places -/
theorem tour_home (n : Int) (D T : List Int) : ∀ (l : List Ord) (p : Place), ((l.foldl (nextP n D T) p).go n D T 0).dist = p.dist + tour n D p.node (nodesOf l)
  | [], p => rfl
  | o :: l, p => by
    have h := tour_home n D T l (nextP n D T p o)
    show ((l.foldl (nextP n D T) (nextP n D T p o)).go n D T 0).dist = _
    rw [h]
    have e : tour n D p.node (nodesOf (o :: l)) = leg n D p.node o.node + tour n D o.node (nodesOf l) := rfl
    rw [e]
    show p.dist + leg n D p.node o.node + tour n D o.node (nodesOf l) = _
    omega
theorem home_tour (n : Int) (D T : List Int) (l : List Ord) (t : Trk) : (homeP n D T l (startP t)).dist = tour n D 0 (nodesOf l) := by
  unfold homeP placeK
  rw [List.take_length, tour_home]
  unfold startP
  simp
theorem nodes_ok {n : Int} {l : List Ord} (h : ∀ o ∈ l, OrdOk n o) : nodesB n (nodesOf l) = true := by
  unfold nodesB nodesOf
  rw [List.all_eq_true]
  intro y hy
  obtain ⟨o, ho, rfl⟩ := List.mem_map.1 hy
  exact (h o ho).1
theorem tourE_ok {n : Int} {D T : List Int} (hv : validB n D T = true) {l : List Ord} (h : ∀ o ∈ l, OrdOk n o) (hl : l.length ≤ 12) : tourE n D T (nodesOf l) = 0 := by
  unfold tourE
  rw [if_pos (allE_zero.2 ⟨hv, nodes_ok h⟩), if_neg (by unfold nodesOf; rw [List.length_map]; omega)]
end Go.Proofs.Ytakiciemkecgfaa.Route

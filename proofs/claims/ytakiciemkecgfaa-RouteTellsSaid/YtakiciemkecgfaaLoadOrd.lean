/-
  Orders and trucks as data, and the walks of load's Order and Truck.
-/
import Derived.Test.YtakiciemkecgfaaWithin
namespace Go.Proofs.Ytakiciemkecgfaa.Load
open Go.RowKit Go.Proofs Go.Proofs.Ytakiciemkecgfaa.AreaMath Go.Proofs.Ytakiciemkecgfaa.Area
set_option maxRecDepth 100000
set_option linter.unusedVariables false

structure Ord where
  id : Int
  owner : Int
  node : Int
  weight : Int
  volume : Int
  frm : Int
  to : Int
  service : Int
def Ord.cells (o : Ord) : Array Value := #[.int .i64 o.id, .int .i64 o.owner, .int .i64 o.node, .int .i64 o.weight, .int .i64 o.volume, .int .i64 o.frm, .int .i64 o.to, .int .i64 o.service]
structure Trk where
  id : Int
  weight : Int
  volume : Int
  start : Int
  stop : Int
  fixed : Int
  rate : Int
def Trk.cells (t : Trk) : Array Value := #[.int .i64 t.id, .int .i64 t.weight, .int .i64 t.volume, .int .i64 t.start, .int .i64 t.stop, .int .i64 t.fixed, .int .i64 t.rate]
/-- what is asked of an order, m: the last node -/
def Ord.spans (o : Ord) (m : Int) : List Span := [⟨o.id, 1, 1000000⟩, ⟨o.owner, 0, 31⟩, ⟨o.node, 1, m⟩, ⟨o.weight, 1, 1000000⟩, ⟨o.volume, 1, 1000000⟩, ⟨o.frm, 0, o.to⟩, ⟨o.to, 0, 1000000⟩, ⟨o.service, 0, 10000⟩]
def Trk.spans (t : Trk) : List Span := [⟨t.id, 1, 1000000⟩, ⟨t.weight, 1, 1000000⟩, ⟨t.volume, 1, 1000000⟩, ⟨t.start, 0, t.stop⟩, ⟨t.stop, 0, 1000000⟩, ⟨t.fixed, 0, 1000000⟩, ⟨t.rate, 0, 1000⟩]
def ordE (o : Ord) (nodes : Int) : Int := withinE (o.spans (wrap64 (nodes - 1)))
def trkE (t : Trk) : Int := withinE t.spans

theorem spans_lit (w : World) (cs : Array Value) (l : List Span) (t : TypeId) (h : ∀ k, k < l.length → cs[k * 3]? = some (.int .i64 (spanAt l k).n) ∧ cs[k * 3 + 1]? = some (.int .i64 (spanAt l k).low) ∧ cs[k * 3 + 2]? = some (.int .i64 (spanAt l k).high)) :
    ReadsS (w.alloc (.cells cs t)) (some ⟨w.heap.size, 0, none⟩) l := by
  intro _
  refine ⟨_, _, rfl, fun k hk => ?_⟩
  obtain ⟨h0, h1, h2⟩ := h k hk
  simp only [Nat.zero_add]
  exact ⟨box_cell w _ _ _ _ h0, box_cell w _ _ _ _ h1, box_cell w _ _ _ _ h2⟩

set_option maxHeartbeats 2000000 in
theorem order_any (o : Ord) (nodes : Int) (w : World) :
    Calls Try.prog 23 #[.agg o.cells, .int .i64 nodes] w fun e w' => e = .returned (.int .i64 (ordE o nodes)) ∧ Below w.heap.size w w' := by
  obtain ⟨id, owner, node, weight, volume, frm, to, service⟩ := o
  unfold Ord.cells
  dsimp only
  have HB : Hid (Below w.heap.size w (w.alloc (.cells #[.int .i64 id, .int .i64 owner, .int .i64 node, .int .i64 weight, .int .i64 volume, .int .i64 frm, .int .i64 to, .int .i64 service] 44))) := (Below.refl _ _).alloc (Nat.le_refl _) _
  go_enter Try.func23, Try.ntmps23
  go_wp2_with fail
  refine (within_any _ (Ord.spans ⟨id, owner, node, weight, volume, frm, to, service⟩ (wrap64 (nodes - 1))) 8 8 _ rfl ?_ (by omega)).mono ?_
  · have h := spans_lit (w.alloc (.cells #[.int .i64 id, .int .i64 owner, .int .i64 node, .int .i64 weight, .int .i64 volume, .int .i64 frm, .int .i64 to, .int .i64 service] 44))
      #[.int .i64 id, .int .i64 1, .int .i64 1000000, .int .i64 owner, .int .i64 0, .int .i64 31, .int .i64 node, .int .i64 1, .int .i64 (wrap64 (nodes - 1)), .int .i64 weight, .int .i64 1, .int .i64 1000000, .int .i64 volume, .int .i64 1, .int .i64 1000000, .int .i64 frm, .int .i64 0, .int .i64 to, .int .i64 to, .int .i64 0, .int .i64 1000000, .int .i64 service, .int .i64 0, .int .i64 10000]
      (Ord.spans ⟨id, owner, node, weight, volume, frm, to, service⟩ (wrap64 (nodes - 1))) 83 (by
        intro k hk
        simp only [Ord.spans, List.length_cons, List.length_nil] at hk
        rcases (by omega : k = 0 ∨ k = 1 ∨ k = 2 ∨ k = 3 ∨ k = 4 ∨ k = 5 ∨ k = 6 ∨ k = 7) with rfl | rfl | rfl | rfl | rfl | rfl | rfl | rfl <;> exact ⟨rfl, rfl, rfl⟩)
    rw [World.size_alloc] at h
    exact h
  rintro _ w1 ⟨rfl, hw1⟩
  have H1 := Lib.hid (below_on (HB.out.alloc HB.out.size _) hw1)
  clear hw1
  go_wp2_with fail
  go_ret
  exact ⟨rfl, H1.out⟩

set_option maxHeartbeats 2000000 in
theorem truck_any (t : Trk) (w : World) :
    Calls Try.prog 29 #[.agg t.cells] w fun e w' => e = .returned (.int .i64 (trkE t)) ∧ Below w.heap.size w w' := by
  obtain ⟨id, weight, volume, start, stop, fixed, rate⟩ := t
  unfold Trk.cells
  dsimp only
  have HB : Hid (Below w.heap.size w (w.alloc (.cells #[.int .i64 id, .int .i64 weight, .int .i64 volume, .int .i64 start, .int .i64 stop, .int .i64 fixed, .int .i64 rate] 42))) := (Below.refl _ _).alloc (Nat.le_refl _) _
  go_enter Try.func29, Try.ntmps29
  go_wp2_with fail
  refine (within_any _ (Trk.spans ⟨id, weight, volume, start, stop, fixed, rate⟩) 7 7 _ rfl ?_ (by omega)).mono ?_
  · have h := spans_lit (w.alloc (.cells #[.int .i64 id, .int .i64 weight, .int .i64 volume, .int .i64 start, .int .i64 stop, .int .i64 fixed, .int .i64 rate] 42))
      #[.int .i64 id, .int .i64 1, .int .i64 1000000, .int .i64 weight, .int .i64 1, .int .i64 1000000, .int .i64 volume, .int .i64 1, .int .i64 1000000, .int .i64 start, .int .i64 0, .int .i64 stop, .int .i64 stop, .int .i64 0, .int .i64 1000000, .int .i64 fixed, .int .i64 0, .int .i64 1000000, .int .i64 rate, .int .i64 0, .int .i64 1000]
      (Trk.spans ⟨id, weight, volume, start, stop, fixed, rate⟩) 83 (by
        intro k hk
        simp only [Trk.spans, List.length_cons, List.length_nil] at hk
        rcases (by omega : k = 0 ∨ k = 1 ∨ k = 2 ∨ k = 3 ∨ k = 4 ∨ k = 5 ∨ k = 6) with rfl | rfl | rfl | rfl | rfl | rfl | rfl <;> exact ⟨rfl, rfl, rfl⟩)
    rw [World.size_alloc] at h
    exact h
  rintro _ w1 ⟨rfl, hw1⟩
  have H1 := Lib.hid (below_on (HB.out.alloc HB.out.size _) hw1)
  clear hw1
  go_wp2_with fail
  go_ret
  exact ⟨rfl, H1.out⟩
end Go.Proofs.Ytakiciemkecgfaa.Load

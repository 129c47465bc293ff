/-
  The walk of groupagelaw08's awake.
-/
import Derived.Test.YtakiciemkecgfaaRun
import Derived.Test.YtakiciemkecgfaaAwakeA
import Derived.Test.YtakiciemkecgfaaAwakeL
namespace Go.Proofs.Ytakiciemkecgfaa.Route
open Go.RowKit Go.Proofs Go.Proofs.Ytakiciemkecgfaa.AreaMath Go.Proofs.Ytakiciemkecgfaa.Area Go.Proofs.Ytakiciemkecgfaa.Load
set_option maxRecDepth 100000
set_option linter.unusedVariables false

def x0 : Wd := ⟨2, [0, 5, 5, 0], [0, 5, 5, 0], [⟨7, 0, 1, 1, 1, 9, 9, 2⟩], [⟨3, 1, 1, 0, 16, 4, 2⟩]⟩
def x1 : Wd := ⟨2, [0, 5, 5, 0], [0, 5, 5, 0], [⟨7, 0, 1, 1, 1, 9, 9, 2⟩], [⟨3, 1, 1, 0, 15, 4, 2⟩]⟩
def q0 (A : Nat) : Wp := ⟨some ⟨A, 0, none⟩, 4, 4, some ⟨A + 1, 0, none⟩, 4, 4, some ⟨A + 1 + 1, 0, none⟩, 1, 1, some ⟨A + 1 + 1 + 1, 0, none⟩, 1, 1⟩
def xz : Wd := ⟨0, [], [], [], []⟩
def qz : Wp := ⟨none, 0, 0, none, 0, 0, none, 0, 0, none, 0, 0⟩
theorem num0 {z : Int} (h : -1000 ≤ z ∧ z ≤ 1000) : NumWf z := ⟨by omega, by omega⟩
theorem small0 : Small x0 := ⟨by decide, by decide, by
  intro o ho
  obtain rfl : o = ⟨7, 0, 1, 1, 1, 9, 9, 2⟩ := by simpa [x0] using ho
  exact ⟨num0 (by decide), num0 (by decide), num0 (by decide), num0 (by decide), num0 (by decide), num0 (by decide), num0 (by decide), num0 (by decide)⟩, by
  intro o ho
  obtain rfl : o = ⟨3, 1, 1, 0, 16, 4, 2⟩ := by simpa [x0] using ho
  exact ⟨num0 (by decide), num0 (by decide), num0 (by decide), num0 (by decide), num0 (by decide), num0 (by decide), num0 (by decide)⟩⟩
theorem small1 : Small x1 := ⟨by decide, by decide, by
  intro o ho
  obtain rfl : o = ⟨7, 0, 1, 1, 1, 9, 9, 2⟩ := by simpa [x1] using ho
  exact ⟨num0 (by decide), num0 (by decide), num0 (by decide), num0 (by decide), num0 (by decide), num0 (by decide), num0 (by decide), num0 (by decide)⟩, by
  intro o ho
  obtain rfl : o = ⟨3, 1, 1, 0, 15, 4, 2⟩ := by simpa [x1] using ho
  exact ⟨num0 (by decide), num0 (by decide), num0 (by decide), num0 (by decide), num0 (by decide), num0 (by decide), num0 (by decide)⟩⟩
theorem world0 : rworldE x0 = 0 := by
  unfold rworldE
  have e0 : errC x0.n x0.D x0.T = 0 := by decide +kernel
  rw [if_pos e0]
  refine worldE_mk (by decide) (by decide) ?_ ?_ (by decide) (by decide)
  · intro o ho
    obtain rfl : o = ⟨7, 0, 1, 1, 1, 9, 9, 2⟩ := by simpa [x0] using ho
    decide +kernel
  · intro o ho
    obtain rfl : o = ⟨3, 1, 1, 0, 16, 4, 2⟩ := by simpa [x0] using ho
    decide +kernel
theorem world1 : rworldE x1 = 0 := by
  unfold rworldE
  have e0 : errC x1.n x1.D x1.T = 0 := by decide +kernel
  rw [if_pos e0]
  refine worldE_mk (by decide) (by decide) ?_ ?_ (by decide) (by decide)
  · intro o ho
    obtain rfl : o = ⟨7, 0, 1, 1, 1, 9, 9, 2⟩ := by simpa [x1] using ho
    decide +kernel
  · intro o ho
    obtain rfl : o = ⟨3, 1, 1, 0, 15, 4, 2⟩ := by simpa [x1] using ho
    decide +kernel
theorem worldz : rworldE xz = 1 := by
  unfold rworldE
  have e0 : errC xz.n xz.D xz.T = 1 := by decide +kernel
  rw [e0, if_neg (by decide)]
theorem orders7 : ordersR x0.O [7] = 0 := by
  unfold ordersR
  have e1 : [7].all (hasB x0.O) = true := by decide
  rw [e1, (dupB_false _).2 (by decide)]; rfl
theorem orders77 : ordersR x0.O [7, 7] = 6 := by
  unfold ordersR
  have e1 : [7, 7].all (hasB x0.O) = true := by decide
  rw [e1, (dupB_iff _).2 (by decide)]; rfl
theorem run1 : runR x0 3 [7] = (⟨[⟨7, 5, 9, 11⟩], 16, 10, 24⟩, 0) := by
  unfold runR
  rw [if_neg (by rw [world0]; decide), if_neg (by decide), if_neg (by decide), if_neg (by rw [orders7]; decide)]
  have e1 : trkAt x0.R (truckR x0.R 3).toNat = ⟨3, 1, 1, 0, 16, 4, 2⟩ := rfl
  have e2 : picks x0.O [7] = [⟨7, 0, 1, 1, 1, 9, 9, 2⟩] := rfl
  rw [e1, e2]
  unfold tripR
  rw [if_neg (by decide +kernel), if_neg (by decide +kernel)]
  rfl
theorem run2 : runR x0 4 [7] = (noTrip, 5) := by
  unfold runR
  rw [if_neg (by rw [world0]; decide), if_neg (by decide), if_pos (by decide)]
theorem run3 : runR x0 3 [] = (noTrip, 2) := by
  unfold runR
  rw [if_neg (by rw [world0]; decide), if_pos (by decide)]
theorem run4 : runR x0 3 [7, 7] = (noTrip, 6) := by
  unfold runR
  rw [if_neg (by rw [world0]; decide), if_neg (by decide), if_neg (by decide), if_pos (by rw [orders77]; decide), orders77]
theorem run5 : runR x1 3 [7] = (noTrip, 10) := by
  unfold runR
  have o7 : ordersR x1.O [7] = 0 := orders7
  rw [if_neg (by rw [world1]; decide), if_neg (by decide), if_neg (by decide), if_neg (by rw [o7]; decide)]
  have e1 : trkAt x1.R (truckR x1.R 3).toNat = ⟨3, 1, 1, 0, 15, 4, 2⟩ := rfl
  have e2 : picks x1.O [7] = [⟨7, 0, 1, 1, 1, 9, 9, 2⟩] := rfl
  rw [e1, e2]
  unfold tripR
  rw [if_neg (by decide +kernel), if_pos (by decide +kernel)]
theorem truck3 : truckR x1.R 3 = 0 := rfl
theorem truck4 : truckR x1.R 4 = -1 := rfl

def CD : Array Value := #[.int .i64 0, .int .i64 5, .int .i64 5, .int .i64 0]
def CO : Array Value := #[.int .i64 7, .int .i64 0, .int .i64 1, .int .i64 1, .int .i64 1, .int .i64 9, .int .i64 9, .int .i64 2]
def CR : Array Value := #[.int .i64 3, .int .i64 1, .int .i64 1, .int .i64 0, .int .i64 16, .int .i64 4, .int .i64 2]
def RW4 (w : World) : World := (((w.alloc (.cells #[.int .i64 0, .int .i64 5, .int .i64 5, .int .i64 0] 2)).alloc (.cells #[.int .i64 0, .int .i64 5, .int .i64 5, .int .i64 0] 2)).alloc (.cells #[.int .i64 7, .int .i64 0, .int .i64 1, .int .i64 1, .int .i64 1, .int .i64 9, .int .i64 9, .int .i64 2] 44)).alloc (.cells #[.int .i64 3, .int .i64 1, .int .i64 1, .int .i64 0, .int .i64 16, .int .i64 4, .int .i64 2] 42)
def RW (w : World) : World := (RW4 w).alloc (.cells #[.int .i64 2, .slice (some ⟨w.heap.size, 0, none⟩) 4 4, .slice (some ⟨w.heap.size + 1, 0, none⟩) 4 4, .slice (some ⟨w.heap.size + 1 + 1, 0, none⟩) 1 1, .slice (some ⟨w.heap.size + 1 + 1 + 1, 0, none⟩) 1 1] 40)
theorem rw4_size (w : World) : (RW4 w).heap.size = w.heap.size + 1 + 1 + 1 + 1 := by unfold RW4; simp
theorem rw_below (w : World) : Below w.heap.size w (RW w) := below_on (below_on (below_on (below_on (below_new w _) (below_new _ _)) (below_new _ _)) (below_new _ _)) (below_new _ _)
theorem rw_box (w : World) : FBox (RW w) (w.heap.size + 1 + 1 + 1 + 1) 2 (.slice (some ⟨w.heap.size, 0, none⟩) 4 4) (.slice (some ⟨w.heap.size + 1, 0, none⟩) 4 4) (.slice (some ⟨w.heap.size + 1 + 1, 0, none⟩) 1 1) (.slice (some ⟨w.heap.size + 1 + 1 + 1, 0, none⟩) 1 1) := by
  have h := FBox.new (RW4 w) 2 (.slice (some ⟨w.heap.size, 0, none⟩) 4 4) (.slice (some ⟨w.heap.size + 1, 0, none⟩) 4 4) (.slice (some ⟨w.heap.size + 1 + 1, 0, none⟩) 1 1) (.slice (some ⟨w.heap.size + 1 + 1 + 1, 0, none⟩) 1 1) 40
  rw [rw4_size] at h
  exact h
theorem rw_tbox (w : World) : TBox (RW w) (w.heap.size + 1 + 1 + 1) ⟨3, 1, 1, 0, 16, 4, 2⟩ := by
  have h := (TBox.new (((w.alloc (.cells #[.int .i64 0, .int .i64 5, .int .i64 5, .int .i64 0] 2)).alloc (.cells #[.int .i64 0, .int .i64 5, .int .i64 5, .int .i64 0] 2)).alloc (.cells #[.int .i64 7, .int .i64 0, .int .i64 1, .int .i64 1, .int .i64 1, .int .i64 9, .int .i64 9, .int .i64 2] 44)) ⟨3, 1, 1, 0, 16, 4, 2⟩).on (below_new _ (.cells #[.int .i64 2, .slice (some ⟨w.heap.size, 0, none⟩) 4 4, .slice (some ⟨w.heap.size + 1, 0, none⟩) 4 4, .slice (some ⟨w.heap.size + 1 + 1, 0, none⟩) 1 1, .slice (some ⟨w.heap.size + 1 + 1 + 1, 0, none⟩) 1 1] 40))
  have e : (((w.alloc (.cells #[.int .i64 0, .int .i64 5, .int .i64 5, .int .i64 0] 2)).alloc (.cells #[.int .i64 0, .int .i64 5, .int .i64 5, .int .i64 0] 2)).alloc (.cells #[.int .i64 7, .int .i64 0, .int .i64 1, .int .i64 1, .int .i64 1, .int .i64 9, .int .i64 9, .int .i64 2] 44)).heap.size = w.heap.size + 1 + 1 + 1 := by simp
  rw [e] at h
  exact h
theorem rw_soft (w : World) : Soft (RW w) (w.heap.size + 1 + 1 + 1) := fun j => by
  have e : (((w.alloc (.cells #[.int .i64 0, .int .i64 5, .int .i64 5, .int .i64 0] 2)).alloc (.cells #[.int .i64 0, .int .i64 5, .int .i64 5, .int .i64 0] 2)).alloc (.cells #[.int .i64 7, .int .i64 0, .int .i64 1, .int .i64 1, .int .i64 1, .int .i64 9, .int .i64 9, .int .i64 2] 44)).heap.size = w.heap.size + 1 + 1 + 1 := by simp
  have h1 : (RW4 w).frozen? ⟨w.heap.size + 1 + 1 + 1, j, none⟩ = false := by rw [← e]; exact World.frozen?_alloc_new _ _ _ _
  exact ((below_new (RW4 w) _).frozen (p := ⟨w.heap.size + 1 + 1 + 1, j, none⟩) (by rw [rw4_size]; show w.heap.size + 1 + 1 + 1 < _; omega)).trans h1
theorem rw_lies (w : World) : Lies (RW w) x0 (q0 w.heap.size) := by
  refine ⟨rfl, rfl, rfl, rfl, ?_, ?_, ?_, ?_⟩
  · exact ((((reads_lit w #[.int .i64 0, .int .i64 5, .int .i64 5, .int .i64 0] [0, 5, 5, 0] 2 rfl).alloc _).alloc _).alloc _).alloc _
  · have h := reads_lit (w.alloc (.cells #[.int .i64 0, .int .i64 5, .int .i64 5, .int .i64 0] 2)) #[.int .i64 0, .int .i64 5, .int .i64 5, .int .i64 0] [0, 5, 5, 0] 2 rfl
    rw [World.size_alloc] at h
    exact ((h.alloc _).alloc _).alloc _
  · have h := reads_ords ((w.alloc (.cells #[.int .i64 0, .int .i64 5, .int .i64 5, .int .i64 0] 2)).alloc (.cells #[.int .i64 0, .int .i64 5, .int .i64 5, .int .i64 0] 2)) (Load.Ord.cells ⟨7, 0, 1, 1, 1, 9, 9, 2⟩) [⟨7, 0, 1, 1, 1, 9, 9, 2⟩] 44 (lit_ord1 _)
    have e : ((w.alloc (.cells #[.int .i64 0, .int .i64 5, .int .i64 5, .int .i64 0] 2)).alloc (.cells #[.int .i64 0, .int .i64 5, .int .i64 5, .int .i64 0] 2)).heap.size = w.heap.size + 1 + 1 := by simp
    rw [e] at h
    exact (h.below (below_new _ _)).below (below_new _ _)
  · have h := reads_trks (((w.alloc (.cells #[.int .i64 0, .int .i64 5, .int .i64 5, .int .i64 0] 2)).alloc (.cells #[.int .i64 0, .int .i64 5, .int .i64 5, .int .i64 0] 2)).alloc (.cells #[.int .i64 7, .int .i64 0, .int .i64 1, .int .i64 1, .int .i64 1, .int .i64 9, .int .i64 9, .int .i64 2] 44)) (Trk.cells ⟨3, 1, 1, 0, 16, 4, 2⟩) [⟨3, 1, 1, 0, 16, 4, 2⟩] 42 (lit_trk1 _)
    have e : (((w.alloc (.cells #[.int .i64 0, .int .i64 5, .int .i64 5, .int .i64 0] 2)).alloc (.cells #[.int .i64 0, .int .i64 5, .int .i64 5, .int .i64 0] 2)).alloc (.cells #[.int .i64 7, .int .i64 0, .int .i64 1, .int .i64 1, .int .i64 1, .int .i64 9, .int .i64 9, .int .i64 2] 44)).heap.size = w.heap.size + 1 + 1 + 1 := by simp
    rw [e] at h
    exact h.below (below_new _ _)
/-- End is made 15 -/
theorem lies_set {w w1 : World} (h : Lies w1 x0 (q0 w.heap.size)) : Lies (w1.setCell ⟨w.heap.size + 1 + 1 + 1, 4, none⟩ (.int .i64 15)) x1 (q0 w.heap.size) := by
  obtain ⟨_, _, _, _, d, t, o, r⟩ := h
  refine ⟨rfl, rfl, rfl, rfl, ?_, ?_, ?_, ?_⟩
  · intro hl
    obtain ⟨b, off, ha, hc⟩ := d hl
    have ha' := ha
    simp only [q0, Option.some.injEq, Addr.mk.injEq] at ha'
    exact ⟨b, off, ha, fun k hk => setR_far (by omega) (hc k hk)⟩
  · intro hl
    obtain ⟨b, off, ha, hc⟩ := t hl
    have ha' := ha
    simp only [q0, Option.some.injEq, Addr.mk.injEq] at ha'
    exact ⟨b, off, ha, fun k hk => setR_far (by omega) (hc k hk)⟩
  · intro hl
    obtain ⟨b, off, ha, hc⟩ := o hl
    have ha' := ha
    simp only [q0, Option.some.injEq, Addr.mk.injEq] at ha'
    exact ⟨b, off, ha, fun k hk j v hv => setR_far (by omega) (hc k hk j v hv)⟩
  · intro hl
    obtain ⟨b, off, ha, hc⟩ := r (by decide)
    have ha' := ha
    simp only [q0, Option.some.injEq, Addr.mk.injEq] at ha'
    obtain ⟨rfl, rfl, _⟩ := ha'
    refine ⟨_, _, ha, fun k hk j v hv => ?_⟩
    obtain rfl : k = 0 := by simpa [x1] using hk
    by_cases hj : j = 4
    · subst hj
      have hv' : v = .int .i64 15 := by
        have : (trkAt x1.R 0).cells[4]? = some (.int .i64 15) := rfl
        rw [this] at hv; exact (Option.some.inj hv).symm
      rw [hv']
      exact World.cell?_setCell_same w1 ⟨w.heap.size + 1 + 1 + 1, 4, none⟩ (.int .i64 15) (hc 0 (by decide) 4 (.int .i64 16) rfl)
    · refine cell_set_other (hc 0 (by decide) j v ?_) (by omega)
      have hj7 : j < 7 := by
        have := (Array.getElem?_eq_some_iff.1 hv).1
        simpa [Trk.cells] using this
      rcases (by omega : j = 0 ∨ j = 1 ∨ j = 2 ∨ j = 3 ∨ j = 5 ∨ j = 6) with rfl | rfl | rfl | rfl | rfl | rfl <;> exact hv

theorem wf7 : ∀ s ∈ [(7 : Int)], NumWf s := by
  intro s hs
  have e : s = 7 := by simpa using hs
  rw [e]; exact num0 (by decide)
theorem wf77 : ∀ s ∈ [(7 : Int), 7], NumWf s := by
  intro s hs
  have e : s = 7 := by simpa using hs
  rw [e]; exact num0 (by decide)
theorem reads_lit' (w : World) (b : Nat) (hb : w.heap.size = b) (cs : Array Value) (l : List Int) (t : TypeId) (h : cs = (intsV l).toArray) : Hid (ReadsI (w.alloc (.cells cs t)) (some ⟨b, 0, none⟩) l) := by
  subst hb; exact reads_lit w cs l t h
theorem hid_lies {w0 w : World} {x : Wd} {q : Wp} (h : Hid (Lies w0 x q)) (hb : Hid (Below w0.heap.size w0 w)) : Hid (Lies w x q) := h.out.below hb.out
theorem rw_size (w : World) : (RW w).heap.size = w.heap.size + 1 + 1 + 1 + 1 + 1 := by unfold RW; rw [World.size_alloc, rw4_size]
theorem ar_run {w0 w : World} {x : Wd} {q : Wp} {aS : Option Addr} {S : List Int} {id : Int} {lS : Nat} (hb : Hid (Below w0.heap.size w0 w)) (hL : Hid (Lies w x q)) (hs : Small x) (hS1 : S.length = lS) (hS : Hid (ReadsI w aS S)) (hm : lS ≤ 200) (hw : ∀ s ∈ S, NumWf s) (e : Int) (hr : runR x id S = (noTrip, e)) :
    Calls Try.prog 37 #[.agg (wcells x.n q), .agg #[.int .i64 id, .slice aS lS lS]] w fun r w' => (∃ a c, r = .returned (.tuple #[.agg #[.slice a 0 c, .int .i64 0, .int .i64 0, .int .i64 0], .int .i64 e])) ∧ Hid (Below w0.heap.size w0 w') := by
  refine (run_any x q id aS lS lS S w hL.out hs hS1 hS.out hm hw).mono ?_
  rintro _ w1 ⟨a, c, rfl, _, _, h1, _⟩
  rw [hr]
  exact ⟨⟨a, c, rfl⟩, below_on hb.out h1⟩
theorem ar_run1 {w0 w : World} {q : Wp} {aS : Option Addr} (hb : Hid (Below w0.heap.size w0 w)) (hL : Hid (Lies w x0 q)) (hS : Hid (ReadsI w aS [7])) :
    Calls Try.prog 37 #[.agg (wcells 2 q), .agg #[.int .i64 3, .slice aS 1 1]] w fun r w' => ∃ a c, r = .returned (.tuple #[.agg #[.slice a 1 c, .int .i64 16, .int .i64 10, .int .i64 24], .int .i64 0]) ∧ ReadsV w' a [⟨7, 5, 9, 11⟩] ∧ Hid (Below w0.heap.size w0 w') := by
  refine (run_any x0 q 3 aS 1 1 [7] w hL.out small0 rfl hS.out (by omega) wf7).mono ?_
  rintro _ w1 ⟨a, c, rfl, hv, _, h1, _⟩
  rw [run1] at hv ⊢
  exact ⟨a, c, rfl, hv, below_on hb.out h1⟩

theorem ar_world {w0 w : World} {q : Wp} (hb : Hid (Below w0.heap.size w0 w)) (hL : Hid (Lies w x1 q)) :
    Calls Try.prog 41 #[.agg (wcells 2 q)] w fun r w' => r = .returned (.int .i64 0) ∧ Hid (Below w0.heap.size w0 w') := by
  refine (rworld_any x1 q w hL.out small1).mono ?_
  rintro _ w1 ⟨rfl, h1⟩
  exact ⟨ret_i64 world1, below_on hb.out h1⟩
theorem ar_worldz {w0 w : World} (hb : Hid (Below w0.heap.size w0 w)) :
    Calls Try.prog 41 #[.agg #[.int .i64 0, .slice none 0 0, .slice none 0 0, .slice none 0 0, .slice none 0 0]] w fun r w' => r = .returned (.int .i64 1) ∧ Hid (Below w0.heap.size w0 w') := by
  refine (rworld_any xz qz w ⟨rfl, rfl, rfl, rfl, fun h => absurd h (by decide), fun h => absurd h (by decide), fun h => absurd h (by decide), fun h => absurd h (by decide)⟩ ⟨by decide, by decide, by simp [xz], by simp [xz]⟩).mono ?_
  rintro _ w1 ⟨rfl, h1⟩
  exact ⟨ret_i64 worldz, below_on hb.out h1⟩
theorem ar_truck {w0 w : World} {q : Wp} (hb : Hid (Below w0.heap.size w0 w)) (hL : Hid (Lies w x1 q)) (id r : Int) (hr : truckR x1.R id = r) :
    Calls Try.prog 43 #[.agg (wcells 2 q), .int .i64 id] w fun e w' => e = .returned (.int .i64 r) ∧ Hid (Below w0.heap.size w0 w') := by
  refine (rtruck_any x1 q id w hL.out (by decide)).mono ?_
  rintro _ w1 ⟨s, rfl, hf, h1⟩
  exact ⟨ret_i64 ((hf.same (truckR_found x1.R id)).trans hr), below_on hb.out h1⟩

set_option maxHeartbeats 8000000 in
theorem awake_route (w : World) : Calls Try.prog 35 #[] w fun e w' => e = .returned (.bool true) ∧ Below w.heap.size w w' := by
  have HL := Lib.hid (rw_lies w); have HB := Lib.hid (rw_box w); have HW := Lib.hid (rw_below w); have HT := Lib.hid (rw_tbox w); have HS := Lib.hid (rw_soft w)
  go_enter Try.func35, Try.ntmps35
  go_wp2_with fail
  refine (ar_run1 (w0 := RW w) (q := q0 w.heap.size) ?hb1 ?hl1 ?hs1).mono ?_
  case hb1 => exact hid_new (Below.refl _ (RW w)) _
  case hl1 => exact hid_lies HL (hid_new (Below.refl _ (RW w)) _)
  case hs1 => exact reads_lit' (RW w) _ (rw_size w) _ [7] 3 rfl
  rintro _ w1 ⟨a1, c1, rfl, hv1, H1⟩
  obtain ⟨vb, voff, ha, hvc⟩ := hv1 (by decide)
  subst ha
  have hvc := hvc 0 (by decide)
  have HV := Lib.hid (show w1.cell? ⟨vb, voff, none⟩ = some (.int .i64 7) ∧ w1.cell? ⟨vb, voff + 1, none⟩ = some (.int .i64 5) ∧ w1.cell? ⟨vb, voff + 2, none⟩ = some (.int .i64 9) ∧ w1.cell? ⟨vb, voff + 3, none⟩ = some (.int .i64 11) from ⟨hvc 0 _ rfl, hvc 1 _ rfl, hvc 2 _ rfl, hvc 3 _ rfl⟩)
  clear hvc hv1
  have HN1 := Lib.hid (below_new w1 (.cells #[.slice (some ⟨vb, voff, none⟩) 1 c1, .int .i64 16, .int .i64 10, .int .i64 24] 59))
  have HTB := Lib.hid (show ∀ k v, (#[.slice (some ⟨vb, voff, none⟩) 1 c1, .int .i64 16, .int .i64 10, .int .i64 24] : Array Value)[k]? = some v → (w1.alloc (.cells #[.slice (some ⟨vb, voff, none⟩) 1 c1, .int .i64 16, .int .i64 10, .int .i64 24] 59)).cell? ⟨w1.heap.size, k, none⟩ = some v from fun k v h => box_cell w1 _ 59 k v h)
  have HX1 := Lib.hid (below_on H1.out HN1.out)
  obtain ⟨b0, b1, b2, b3, b4⟩ := HB.out.on HX1.out
  obtain ⟨V1, hV1⟩ : ∃ V, w1.alloc (.cells #[.slice (some ⟨vb, voff, none⟩) 1 c1, .int .i64 16, .int .i64 10, .int .i64 24] 59) = V := ⟨_, rfl⟩
  have EV1 := Lib.hid hV1
  clear hV1
  go_wp2_with fail
  rw [EV1.out] at HTB HX1 HN1 b0 b1 b2 b3 b4 ⊢
  have HL1 := hid_lies HL HX1
  have hA0 := Lib.hid (Below.refl V1.heap.size V1)
  refine (ar_run (w0 := V1) (x := x0) (q := q0 w.heap.size) (lS := 1) ?hb2 ?hl2 small0 rfl ?hs2 (by omega) wf7 5 run2).mono ?_
  case hb2 => exact hid_new hA0 _
  case hl2 => exact hid_lies HL1 (hid_new hA0 _)
  case hs2 => exact reads_lit' V1 _ (by rw [← EV1.out]; exact World.size_alloc _ _) #[.int .i64 7] [7] 3 rfl
  rintro _ w2 ⟨⟨a2, c2, rfl⟩, H2⟩
  clear b0 b1 b2 b3 b4
  have HN2 := Lib.hid (show Below V1.heap.size V1 (w2.alloc (.cells #[.slice a2 0 c2, .int .i64 0, .int .i64 0, .int .i64 0] 59)) from below_on H2.out (below_new _ _))
  obtain ⟨b0, b1, b2, b3, b4⟩ := HB.out.on (below_on HX1.out HN2.out)
  go_wp2_with fail
  obtain ⟨V2, hV2⟩ : ∃ V, w2.alloc (.cells #[.slice a2 0 c2, .int .i64 0, .int .i64 0, .int .i64 0] 59) = V := ⟨_, rfl⟩
  rw [hV2] at HN2 b0 b1 b2 b3 b4 ⊢
  clear hV2
  refine (ar_run (w0 := V1) (x := x0) (q := q0 w.heap.size) (lS := 0) HN2 (hid_lies HL1 HN2) small0 rfl ?hs3 (by omega) (by simp) 2 run3).mono ?_
  case hs3 => exact fun h => absurd h (by simp)
  rintro _ w3 ⟨⟨a3, c3, rfl⟩, H3⟩
  clear b0 b1 b2 b3 b4
  have HN3 := Lib.hid (show Below V1.heap.size V1 (w3.alloc (.cells #[.slice a3 0 c3, .int .i64 0, .int .i64 0, .int .i64 0] 59)) from below_on H3.out (below_new _ _))
  obtain ⟨b0, b1, b2, b3, b4⟩ := HB.out.on (below_on HX1.out HN3.out)
  go_wp2_with fail
  obtain ⟨V3, hV3⟩ : ∃ V, w3.alloc (.cells #[.slice a3 0 c3, .int .i64 0, .int .i64 0, .int .i64 0] 59) = V := ⟨_, rfl⟩
  rw [hV3] at HN3 b0 b1 b2 b3 b4 ⊢
  have EV3 := Lib.hid hV3
  clear hV3
  refine (ar_run (w0 := V1) (x := x0) (q := q0 w.heap.size) (lS := 2) ?hb4 ?hl4 small0 rfl ?hs4 (by omega) wf77 6 run4).mono ?_
  case hb4 => exact hid_new HN3 _
  case hl4 => exact hid_lies HL1 (hid_new HN3 _)
  case hs4 => exact reads_lit' V3 _ (by rw [← EV3.out]; exact World.size_alloc _ _) #[.int .i64 7, .int .i64 7] [7, 7] 3 rfl
  rintro _ w4 ⟨⟨a4, c4, rfl⟩, H4⟩
  clear b0 b1 b2 b3 b4
  have HN4 := Lib.hid (show Below V1.heap.size V1 (w4.alloc (.cells #[.slice a4 0 c4, .int .i64 0, .int .i64 0, .int .i64 0] 59)) from below_on H4.out (below_new _ _))
  obtain ⟨b0, b1, b2, b3, b4⟩ := HB.out.on (below_on HX1.out HN4.out)
  obtain ⟨V4, hV4⟩ : ∃ V, w4.alloc (.cells #[.slice a4 0 c4, .int .i64 0, .int .i64 0, .int .i64 0] 59) = V := ⟨_, rfl⟩
  rw [hV4] at HN4 b0 b1 b2 b3 b4
  have EV4 := Lib.hid hV4
  have HX4 := Lib.hid (below_on HX1.out HN4.out)
  obtain ⟨r0, r1, r2, r3, r4, r5, r6⟩ := HT.out.on HX4.out
  have rf := (HS.out.on (by rw [rw_size]; omega) HX4.out) 4
  dsimp only at r0 r1 r2 r3 r4 r5 r6
  have L5 := Lib.hid (lies_set (w := w) (HL.out.below HX4.out))
  have F5 := (HB.out.on HX4.out).far (w1 := V4.setCell ⟨w.heap.size + 1 + 1 + 1, 4, none⟩ (.int .i64 15)) (fun k x h => setR_far (by omega) h)
  have HN4' := Lib.hid HN4.out
  have T5 := Lib.hid (show ∀ k v, (#[.slice (some ⟨vb, voff, none⟩) 1 c1, .int .i64 16, .int .i64 10, .int .i64 24] : Array Value)[k]? = some v → (V4.setCell ⟨w.heap.size + 1 + 1 + 1, 4, none⟩ (.int .i64 15)).cell? ⟨w1.heap.size, k, none⟩ = some v from fun k v h =>
    setR_far (by have h9 : w.heap.size + 1 + 1 + 1 < w1.heap.size := by have := H1.out.size; rw [rw_size] at this; omega
                 omega) (cell_on HN4.out (HTB.out k v h)))
  have r4h := Lib.hid r4
  have vset : ∀ j v, w1.cell? ⟨vb, j, none⟩ = some v → v ≠ .int .i64 16 → (V4.setCell ⟨w.heap.size + 1 + 1 + 1, 4, none⟩ (.int .i64 15)).cell? ⟨vb, j, none⟩ = some v := fun j v h hne => by
    have h1 := cell_on HN4.out (cell_on HN1.out h)
    rw [World.cell?_setCell_other V4 _ _ _ (by intro e; rw [← e, r4h.out] at h1; exact hne (Option.some.inj h1).symm)]
    exact h1
  have V5 := Lib.hid (And.intro (vset _ _ HV.out.1 (by simp)) (And.intro (vset _ _ HV.out.2.1 (by simp)) (And.intro (vset _ _ HV.out.2.2.1 (by simp)) (vset _ _ HV.out.2.2.2 (by simp)))))
  have HBW := Lib.hid (show Below w.heap.size w (V4.setCell ⟨w.heap.size + 1 + 1 + 1, 4, none⟩ (.int .i64 15)) from (below_on HW.out HX4.out).setCell (by show w.heap.size ≤ w.heap.size + 1 + 1 + 1; omega) _)
  have F5h := Lib.hid F5
  obtain ⟨f0, f1, f2, f3, f4⟩ := F5
  rw [← hV4] at b0 b1 b2 b3 b4 r4 rf f0 f1 f2 f3 f4
  clear r0 r1 r2 r3 r5 r6 vset hV4
  go_wp2_with fail
  rw [EV4.out]
  obtain ⟨U5, hU5⟩ : ∃ U, V4.setCell ⟨w.heap.size + 1 + 1 + 1, 4, none⟩ (.int .i64 15) = U := ⟨_, rfl⟩
  rw [hU5] at L5 T5 V5 HBW F5h ⊢
  have HS5 := Lib.hid (show U5.heap.size = w4.heap.size + 1 by rw [← hU5, World.size_setCell, ← EV4.out]; exact World.size_alloc _ _)
  clear hU5 b0 b1 b2 b3 b4 f0 f1 f2 f3 f4 r4 rf
  have hA5 := Lib.hid (Below.refl U5.heap.size U5)
  refine (ar_run (w0 := U5) (x := x1) (q := q0 w.heap.size) (lS := 1) ?hb6 ?hl6 small1 rfl ?hs6 (by omega) wf7 10 run5).mono ?_
  case hb6 => exact hid_new hA5 _
  case hl6 => exact hid_lies L5 (hid_new hA5 _)
  case hs6 => exact reads_lit' U5 _ HS5.out #[.int .i64 7] [7] 3 rfl
  rintro _ w6 ⟨⟨a6, c6, rfl⟩, H6⟩
  have HN6 := Lib.hid (show Below U5.heap.size U5 (w6.alloc (.cells #[.slice a6 0 c6, .int .i64 0, .int .i64 0, .int .i64 0] 59)) from below_on H6.out (below_new _ _))
  obtain ⟨b0, b1, b2, b3, b4⟩ := F5h.out.on HN6.out
  have t0 := cell_on HN6.out (T5.out 0 _ rfl)
  have t1 := cell_on HN6.out (T5.out 1 _ rfl)
  have t2 := cell_on HN6.out (T5.out 2 _ rfl)
  have t3 := cell_on HN6.out (T5.out 3 _ rfl)
  have u0 := cell_on HN6.out V5.out.1
  have u1 := cell_on HN6.out V5.out.2.1
  have u2 := cell_on HN6.out V5.out.2.2.1
  have u3 := cell_on HN6.out V5.out.2.2.2
  go_wp2_with fail
  refine (ar_world (w0 := U5) (q := q0 w.heap.size) HN6 (hid_lies L5 HN6)).mono ?_
  rintro _ w7 ⟨rfl, H7⟩
  clear b0 b1 b2 b3 b4 t0 t1 t2 t3 u0 u1 u2 u3
  obtain ⟨b0, b1, b2, b3, b4⟩ := F5h.out.on H7.out
  go_wp2_with fail
  refine (ar_worldz (w0 := U5) H7).mono ?_
  rintro _ w8 ⟨rfl, H8⟩
  clear b0 b1 b2 b3 b4
  obtain ⟨b0, b1, b2, b3, b4⟩ := F5h.out.on H8.out
  go_wp2_with fail
  refine (ar_truck (w0 := U5) (q := q0 w.heap.size) H8 (hid_lies L5 H8) 3 0 truck3).mono ?_
  rintro _ w9 ⟨rfl, H9⟩
  clear b0 b1 b2 b3 b4
  obtain ⟨b0, b1, b2, b3, b4⟩ := F5h.out.on H9.out
  go_wp2_with fail
  refine (ar_truck (w0 := U5) (q := q0 w.heap.size) H9 (hid_lies L5 H9) 4 (-1) truck4).mono ?_
  rintro _ w10 ⟨rfl, H10⟩
  clear b0 b1 b2 b3 b4
  go_wp2_with fail
  go_ret
  exact ⟨rfl, below_on HBW.out H10.out⟩
end Go.Proofs.Ytakiciemkecgfaa.Route

/-
  The walks of route's walk and visit: methods that turn their receiver.
-/
import Derived.Test.YtakiciemkecgfaaRouteMath
import Derived.BigRegion
namespace Go.Proofs.Ytakiciemkecgfaa.Route
open Go.RowKit Go.Proofs Go.Proofs.Ytakiciemkecgfaa.AreaMath Go.Proofs.Ytakiciemkecgfaa.Area Go.Proofs.Ytakiciemkecgfaa.Load
set_option maxRecDepth 100000
set_option linter.unusedVariables false

/-- nothing of what was there has turned but block b -/
theorem turn_below {w w1 : World} (b : Nat) (h : Below w.heap.size w w1) : w.grownBy w1 (some b) := ⟨h.os, h.tape, h.output, h.size, fun k hk _ => h.block k hk⟩
theorem turn_trans {w w1 w2 : World} {b : Nat} (h : w.grownBy w1 (some b)) (h2 : w1.grownBy w2 (some b)) : w.grownBy w2 (some b) :=
  ⟨h2.os.trans h.os, h2.tape.trans h.tape, h2.output.trans h.output, Nat.le_trans h.size h2.size, fun k hk hne => (h2.block k (Nat.lt_of_lt_of_le hk h.size) hne).trans (h.block k hk hne)⟩
theorem turn_set (w : World) (b j : Nat) (u : Value) : w.grownBy (w.setCell ⟨b, j, none⟩ u) (some b) :=
  ⟨rfl, rfl, rfl, by rw [World.size_setCell]; exact Nat.le_refl _, fun k hk hne => Below.heap_setCell w ⟨b, j, none⟩ u k (fun e => hne (by rw [e]))⟩
theorem turn_drew {w w1 : World} {b : Nat} (h : w.grownBy w1 (some b)) : w.grownBy w1.drew (some b) := ⟨h.os, h.tape, h.output, h.size, h.block⟩
theorem turn_cell {w w1 : World} {b : Nat} (h : w.grownBy w1 (some b)) {c j : Nat} {x : Value} (hc : w.cell? ⟨c, j, none⟩ = some x) (hne : c ≠ b) : w1.cell? ⟨c, j, none⟩ = some x :=
  (h.cell_far _ (World.block_lt_of_cell? w _ hc) (by intro e; cases e; exact hne rfl)).trans hc
/-- the cells of a place -/
def PBox (w : World) (b : Nat) (p : Place) : Prop := w.cell? ⟨b, 0, none⟩ = some (.int .i64 p.node) ∧ w.cell? ⟨b, 1, none⟩ = some (.int .i64 p.time) ∧ w.cell? ⟨b, 2, none⟩ = some (.int .i64 p.dist)
def Soft (w : World) (b : Nat) : Prop := ∀ j, w.frozen? ⟨b, j, none⟩ = false

set_option maxHeartbeats 4000000 in
theorem walk_any (n : Int) (aD aT : Option Addr) (D T : List Int) (lD lT cD cT : Nat) (b : Nat) (p : Place) (to : Int) (w : World) (lD1 : D.length = lD) (lT1 : T.length = lT) (hD : ReadsI w aD D) (hT : ReadsI w aT T)
    (hv : validB n D T = true) (hn : nodeB n p.node = true) (ht : nodeB n to = true) (hp1 : 0 ≤ p.time ∧ p.time ≤ 1000000000) (hp2 : 0 ≤ p.dist ∧ p.dist ≤ 1000000000) (hB : PBox w b p) (hS : Soft w b) :
    Calls Try.prog 62 #[.pointer (some ⟨b, 0, none⟩), .agg #[.int .i64 n, .slice aD lD cD, .slice aT lT cT], .int .i64 to] w fun e w' => e = .returned (.tuple #[]) ∧ PBox w' b (p.go n D T to) ∧ Soft w' b ∧ w.grownBy w' (some b) ∧ ∀ j x, 3 ≤ j → w.cell? ⟨b, j, none⟩ = some x → w'.cell? ⟨b, j, none⟩ = some x := by
  obtain ⟨node, time, dist⟩ := p
  dsimp only at hn hp1 hp2
  obtain ⟨v1, v2, v3, v4, v5, v6⟩ := validB_iff.1 hv
  have r1 := leg_range v5 v3 hn ht
  have r2 := leg_range v6 v4 hn ht
  have hE : legE n D T node to = 0 := legE_zero.2 ⟨hv, hn, ht⟩
  obtain ⟨dl, hdl⟩ : ∃ x, leg n D node to = x := ⟨_, rfl⟩
  obtain ⟨tl, htl⟩ : ∃ x, leg n T node to = x := ⟨_, rfl⟩
  have HL : Hid (∀ w1, Below w.heap.size w w1 → Calls Try.prog 14 #[.agg #[.int .i64 n, .slice aD lD cD, .slice aT lT cT], .int .i64 node, .int .i64 to] w1 fun e w' => e = .returned (.tuple #[.int .i64 dl, .int .i64 tl, .int .i64 0]) ∧ Below w1.heap.size w1 w') := fun w1 hw1 => by
    refine (leg_any n node to aD aT D T lD lT cD cT w1 lD1 lT1 (hD.below hw1) (hT.below hw1)).mono ?_
    rintro _ w2 ⟨rfl, h2⟩
    exact ⟨three_ret (by unfold legV; rw [if_pos hE, hdl]) (by unfold legV; rw [if_pos hE, htl]) hE, h2⟩
  have HG : Hid (Place.go n D T ⟨node, time, dist⟩ to = ⟨to, time + tl, dist + dl⟩) := by unfold Place.go; dsimp only; rw [hdl, htl]; exact rfl
  rw [hdl] at r1; rw [htl] at r2
  have HB := Lib.hid hB; have HS := Lib.hid hS
  clear hdl htl hE v1 v2 v3 v4 v5 v6 hv hn ht hD hT lD1 lT1 hB hS
  have hb : b < w.heap.size := World.block_lt_of_cell? w _ HB.out.1
  have nb : b ≠ w.heap.size := by omega
  have HA := Lib.hid (below_new w (.cells #[.int .i64 n, .slice aD lD cD, .slice aT lT cT] 24))
  obtain ⟨p0, p1, p2⟩ := HB.out
  have q0 := cell_on HA.out p0; have q1 := cell_on HA.out p1; have q2 := cell_on HA.out p2
  dsimp only at p0 p1 p2 q0 q1 q2
  have a0 := box_cell w #[.int .i64 n, .slice aD lD cD, .slice aT lT cT] 24 0 _ rfl
  have a1 := box_cell w #[.int .i64 n, .slice aD lD cD, .slice aT lT cT] 24 1 _ rfl
  have a2 := box_cell w #[.int .i64 n, .slice aD lD cD, .slice aT lT cT] 24 2 _ rfl
  go_enter Try.func62, Try.ntmps62
  go_wp2_with fail
  go_region_held_law (fun w' => (w'.cell? ⟨w.heap.size, 0, none⟩ = some (.int .i64 n) ∧ w'.cell? ⟨w.heap.size, 1, none⟩ = some (.slice aD lD cD) ∧ w'.cell? ⟨w.heap.size, 2, none⟩ = some (.slice aT lT cT)) ∧ w'.cell? ⟨b, 0, none⟩ = some (.int .i64 node))
    (first | exact HS3.out | exact ⟨⟨a0, a1, a2⟩, q0⟩ | go_keep)
    (first
      | (go_at_call 14; refine (HL.out _ HA.out.drew).mono ?_; rintro _ w3 ⟨rfl, h3⟩; have H3 := Lib.hid h3; have HS3 := Lib.hid (And.intro (And.intro (cell_on h3 a0) (And.intro (cell_on h3 a1) (cell_on h3 a2))) (cell_on h3 q0)); clear h3))
  have z0 := cell_on H3.out q0; have z1 := cell_on H3.out q1; have z2 := cell_on H3.out q2
  have s1 : IntKind.i64.wrap (time + tl) = time + tl := IntWalk.i64_in _ (by omega)
  have s2 : IntKind.i64.wrap (dist + dl) = dist + dl := IntWalk.i64_in _ (by omega)
  have H4 := Lib.hid (below_on HA.out.drew H3.out)
  have sf : ∀ j, w3.frozen? ⟨b, j, none⟩ = false := fun j => (H4.out.frozen (p := ⟨b, j, none⟩) hb).trans (HS.out j)
  clear p0 p1 p2 q0 q1 q2 a0 a1 a2 r1 r2
  go_wp2_with fail
  go_region
  have E0 := World.cell?_setCell_same w3 ⟨b, 0, none⟩ (.int .i64 to) z0
  have E1 := World.cell?_setCell_same (w3.setCell ⟨b, 0, none⟩ (.int .i64 to)) ⟨b, 1, none⟩ (.int .i64 (time + tl)) (cell_set_other z1 (by omega))
  have E2 := World.cell?_setCell_same ((w3.setCell ⟨b, 0, none⟩ (.int .i64 to)).setCell ⟨b, 1, none⟩ (.int .i64 (time + tl))) ⟨b, 2, none⟩ (.int .i64 (dist + dl)) (cell_set_other (cell_set_other z2 (by omega)) (by omega))
  have F : Hid (PBox ((((w3.setCell ⟨b, 0, none⟩ (.int .i64 to)).setCell ⟨b, 1, none⟩ (.int .i64 (time + tl))).setCell ⟨b, 2, none⟩ (.int .i64 (dist + dl))).drew) b (Place.go n D T ⟨node, time, dist⟩ to)) := by
    rw [HG.out]
    exact ⟨cell_set_other (cell_set_other E0 (by omega)) (by omega), cell_set_other E1 (by omega), E2⟩
  have F2 : Hid (Soft ((((w3.setCell ⟨b, 0, none⟩ (.int .i64 to)).setCell ⟨b, 1, none⟩ (.int .i64 (time + tl))).setCell ⟨b, 2, none⟩ (.int .i64 (dist + dl))).drew) b) := fun j => by
    show (((w3.setCell ⟨b, 0, none⟩ (.int .i64 to)).setCell ⟨b, 1, none⟩ (.int .i64 (time + tl))).setCell ⟨b, 2, none⟩ (.int .i64 (dist + dl))).frozen? _ = false
    rw [World.frozen?_setCell, World.frozen?_setCell, World.frozen?_setCell]; exact sf j
  have F3 := Lib.hid (turn_drew (turn_trans (turn_trans (turn_trans (turn_below b H4.out) (turn_set w3 b 0 (.int .i64 to))) (turn_set _ b 1 (.int .i64 (time + tl)))) (turn_set _ b 2 (.int .i64 (dist + dl)))))
  have F4 : Hid (∀ j x, 3 ≤ j → w.cell? ⟨b, j, none⟩ = some x → ((((w3.setCell ⟨b, 0, none⟩ (.int .i64 to)).setCell ⟨b, 1, none⟩ (.int .i64 (time + tl))).setCell ⟨b, 2, none⟩ (.int .i64 (dist + dl))).drew).cell? ⟨b, j, none⟩ = some x) := fun j x hj h =>
    cell_set_other (cell_set_other (cell_set_other (cell_on H4.out h) (by omega)) (by omega)) (by omega)
  clear E0 E1 E2 z0 z1 z2 s1 s2 sf
  go_wp2_with fail
  go_end0
  exact ⟨rfl, F.out, F2.out, F3.out, F4.out⟩
end Go.Proofs.Ytakiciemkecgfaa.Route

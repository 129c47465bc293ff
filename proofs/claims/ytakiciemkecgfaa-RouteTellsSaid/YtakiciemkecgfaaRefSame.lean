/-
  The walk of the reference's Same (layer 8): a trip is the same as itself.
-/
import Derived.Test.YtakiciemkecgfaaRefRunA
import Derived.BigQuiet
namespace Go.Proofs.Ytakiciemkecgfaa.Route
open Go.RowKit Go.Proofs Go.Proofs.Ytakiciemkecgfaa.AreaMath Go.Proofs.Ytakiciemkecgfaa.Area Go.Proofs.Ytakiciemkecgfaa.Load Go.Proofs.Ytakiciemkecgfaa.Append
set_option maxRecDepth 100000
set_option linter.unusedVariables false

/-- a trip's box -/
def TripB (w : World) (b : Nat) (v : Value) (x1 x2 x3 : Int) : Prop := w.cell? ⟨b, 0, none⟩ = some v ∧ w.cell? ⟨b, 1, none⟩ = some (.int .i64 x1) ∧ w.cell? ⟨b, 2, none⟩ = some (.int .i64 x2) ∧ w.cell? ⟨b, 3, none⟩ = some (.int .i64 x3)
theorem TripB.on {w w1 : World} {b : Nat} {v : Value} {x1 x2 x3 : Int} (h : TripB w b v x1 x2 x3) (hb : Below w.heap.size w w1) : TripB w1 b v x1 x2 x3 := ⟨cell_on hb h.1, cell_on hb h.2.1, cell_on hb h.2.2.1, cell_on hb h.2.2.2⟩
theorem TripB.new (w : World) (v : Value) (x1 x2 x3 : Int) (t : TypeId) : TripB (w.alloc (.cells #[v, .int .i64 x1, .int .i64 x2, .int .i64 x3] t)) w.heap.size v x1 x2 x3 :=
  ⟨box_cell _ _ _ 0 _ rfl, box_cell _ _ _ 1 _ rfl, box_cell _ _ _ 2 _ rfl, box_cell _ _ _ 3 _ rfl⟩

set_option maxHeartbeats 8000000 in
theorem rsame_any (l : List Vis) (a a' : Option Addr) (k c c' : Nat) (x1 x2 x3 : Int) (w : World) (hl : l.length = k) (hk : k ≤ 1000) (hr : ReadsV w a l) (hr' : ReadsV w a' l) :
    Calls Try.prog 39 #[.agg #[.slice a k c, .int .i64 x1, .int .i64 x2, .int .i64 x3], .agg #[.slice a' k c', .int .i64 x1, .int .i64 x2, .int .i64 x3]] w fun e w' => e = .returned (.bool true) ∧ Below w.heap.size w w' := by
  have HL := Lib.hid hl; have HR := Lib.hid hr; have HR' := Lib.hid hr'
  have HB := Lib.hid (below_on (below_new w (.cells #[.slice a k c, .int .i64 x1, .int .i64 x2, .int .i64 x3] 64)) (below_new (w.alloc (.cells #[.slice a k c, .int .i64 x1, .int .i64 x2, .int .i64 x3] 64)) (.cells #[.slice a' k c', .int .i64 x1, .int .i64 x2, .int .i64 x3] 64)))
  have e1 : (w.alloc (.cells #[.slice a k c, .int .i64 x1, .int .i64 x2, .int .i64 x3] 64)).heap.size = w.heap.size + 1 := by rw [World.size_alloc]
  have T1 := Lib.hid ((TripB.new w (.slice a k c) x1 x2 x3 64).on (below_new _ (.cells #[.slice a' k c', .int .i64 x1, .int .i64 x2, .int .i64 x3] 64)))
  have T2 := Lib.hid (TripB.new (w.alloc (.cells #[.slice a k c, .int .i64 x1, .int .i64 x2, .int .i64 x3] 64)) (.slice a' k c') x1 x2 x3 64)
  rw [e1] at T2
  have n1 : (x1 != x1) = false := bne_self_eq_false x1
  have n2 : (x2 != x2) = false := bne_self_eq_false x2
  have n3 : (x3 != x3) = false := bne_self_eq_false x3
  clear hl hr hr' e1
  go_enter Try.func39, Try.ntmps39
  go_wp2_with fail
  obtain ⟨W, hW⟩ : ∃ W, (w.alloc (.cells #[.slice a k c, .int .i64 x1, .int .i64 x2, .int .i64 x3] 64)).alloc (.cells #[.slice a' k c', .int .i64 x1, .int .i64 x2, .int .i64 x3] 64) = W := ⟨_, rfl⟩
  rw [hW] at HB T1 T2 ⊢
  clear hW
  go_loopw [5] (fun i wr => ∃ (j : Nat), j ≤ k ∧ i = .int .i64 j ∧ Below W.heap.size W wr) (fun i wr => k - (intOf i).toNat)
  case atStart => exact ⟨0, by omega, rfl, Below.refl _ _⟩
  case round =>
    obtain ⟨j, hj, rfl, hT⟩ := hrel
    have HT := Lib.hid hT; clear hT
    have HBW := Lib.hid (below_on HB.out HT.out)
    obtain ⟨p0, p1, p2, p3⟩ := T1.out.on HT.out
    obtain ⟨q0, q1, q2, q3⟩ := T2.out.on HT.out
    by_cases hlt : j < k
    · have hjl : j < l.length := by rw [HL.out]; exact hlt
      obtain ⟨vb, voff, ha, hc⟩ := (HR.out.below HBW.out) (by omega)
      obtain ⟨ub, uoff, ha', hc'⟩ := (HR'.out.below HBW.out) (by omega)
      have hcj := hc j hjl
      have hcj' := hc' j hjl
      subst ha
      subst ha'
      clear hc hc' hjl
      obtain ⟨v, hv⟩ : ∃ v, visAt l j = v := ⟨_, rfl⟩
      rw [hv] at hcj hcj'
      clear hv
      obtain ⟨v0, v1, v2, v3⟩ := v
      have c0 : wr.cell? ⟨vb, voff + j * 4, none⟩ = some (.int .i64 v0) := hcj 0 _ rfl
      have c1 : wr.cell? ⟨vb, voff + j * 4 + 1, none⟩ = some (.int .i64 v1) := hcj 1 _ rfl
      have c2 : wr.cell? ⟨vb, voff + j * 4 + 2, none⟩ = some (.int .i64 v2) := hcj 2 _ rfl
      have c3 : wr.cell? ⟨vb, voff + j * 4 + 3, none⟩ = some (.int .i64 v3) := hcj 3 _ rfl
      have d0 : wr.cell? ⟨ub, uoff + j * 4, none⟩ = some (.int .i64 v0) := hcj' 0 _ rfl
      have d1 : wr.cell? ⟨ub, uoff + j * 4 + 1, none⟩ = some (.int .i64 v1) := hcj' 1 _ rfl
      have d2 : wr.cell? ⟨ub, uoff + j * 4 + 2, none⟩ = some (.int .i64 v2) := hcj' 2 _ rfl
      have d3 : wr.cell? ⟨ub, uoff + j * 4 + 3, none⟩ = some (.int .i64 v3) := hcj' 3 _ rfl
      have m0 : (v0 != v0) = false := bne_self_eq_false v0
      have m1 : (v1 != v1) = false := bne_self_eq_false v1
      have m2 : (v2 != v2) = false := bne_self_eq_false v2
      have m3 : (v3 != v3) = false := bne_self_eq_false v3
      clear hcj hcj'
      go_wp2_with fail
      go_quiet (fail)
      go_wp2_with fail
      go_roundw
      case rel => exact ⟨j + 1, by omega, by go_num, below_drewN HT.out _⟩
      case measure => simp [intOf]; omega
    · obtain rfl : j = k := by omega
      go_wp2_with fail
      go_ret
      exact ⟨rfl, HBW.out⟩
end Go.Proofs.Ytakiciemkecgfaa.Route

/-
  The walks of the reference's Order and Truck (layer 7): the same as the program's, where the area may be.
-/
import Derived.Test.YtakiciemkecgfaaFirstMath
namespace Go.Proofs.Ytakiciemkecgfaa.Route
open Go.RowKit Go.Proofs Go.Proofs.Ytakiciemkecgfaa.AreaMath Go.Proofs.Ytakiciemkecgfaa.Area Go.Proofs.Ytakiciemkecgfaa.Load
set_option maxRecDepth 100000
set_option linter.unusedVariables false

theorem withinE_mk {l : List Span} (h : ∀ s ∈ l, s.low ≤ s.n ∧ s.n ≤ s.high) : withinE l = 0 := by
  unfold withinE
  rw [if_pos]
  rw [List.all_eq_true]
  intro s hs
  have := h s hs
  unfold Span.ok
  rw [decide_eq_true this.1, decide_eq_true this.2]; rfl
theorem withinE_bad {l : List Span} (h : ∃ s ∈ l, s.n < s.low ∨ s.high < s.n) : withinE l = 1 := by
  unfold withinE
  rw [if_neg]
  rw [List.all_eq_true]
  intro hall
  obtain ⟨s, hs, hb⟩ := h
  have := hall s hs
  simp [Span.ok] at this
  omega
theorem ordE_span {o : Ord} {n : Int} (h1 : 1 ≤ n) (h2 : n ≤ 16) : o.spans (wrap64 (n - 1)) = o.spans (n - 1) := by rw [IntWalk.wrap64_in _ (by omega)]

set_option maxHeartbeats 8000000 in
theorem rorder_any (o : Ord) (n : Int) (w : World) (h1 : 1 ≤ n) (h2 : n ≤ 16) :
    Calls Try.prog 24 #[.agg o.cells, .int .i64 n] w fun e w' => e = .returned (.int .i64 (ordE o n)) ∧ Below w.heap.size w w' := by
  obtain ⟨E, hE⟩ : ∃ E, ordE o n = E := ⟨_, rfl⟩
  have HE := Lib.hid (show E = withinE (o.spans (n - 1)) by rw [← hE]; unfold ordE; rw [ordE_span h1 h2])
  rw [hE]
  clear hE
  obtain ⟨id, owner, node, weight, volume, frm, to, service⟩ := o
  unfold Ord.cells
  dsimp only
  have HB : Hid (Below w.heap.size w (w.alloc (.cells #[.int .i64 id, .int .i64 owner, .int .i64 node, .int .i64 weight, .int .i64 volume, .int .i64 frm, .int .i64 to, .int .i64 service] 44))) := below_new _ _
  clear h1 h2
  rcases (by omega : id < 1 ∨ (1 ≤ id ∧ (1000000 < id ∨ (id ≤ 1000000 ∧ (owner < 0 ∨ (0 ≤ owner ∧ (31 < owner ∨ (owner ≤ 31 ∧ (node < 1 ∨ (1 ≤ node ∧ (n ≤ node ∨ node < n))))))))))) with h | ⟨a1, h | ⟨a2, h | ⟨a3, h | ⟨a4, h | ⟨a5, h | a6⟩⟩⟩⟩⟩
  case inr.inr.inr.inr.inr.inr =>
    rcases (by omega : weight < 1 ∨ (1 ≤ weight ∧ (1000000 < weight ∨ (weight ≤ 1000000 ∧ (volume < 1 ∨ (1 ≤ volume ∧ (1000000 < volume ∨ volume ≤ 1000000))))))) with h | ⟨b1, h | ⟨b2, h | ⟨b3, h | b4⟩⟩⟩
    case inr.inr.inr.inr =>
      rcases (by omega : frm < 0 ∨ (0 ≤ frm ∧ (to < frm ∨ (frm ≤ to ∧ (1000000 < to ∨ (to ≤ 1000000 ∧ (service < 0 ∨ (0 ≤ service ∧ (10000 < service ∨ service ≤ 10000))))))))) with h | ⟨c1, h | ⟨c2, h | ⟨c3, h | ⟨c4, h | c5⟩⟩⟩⟩
      case inr.inr.inr.inr.inr =>
        have F := Lib.hid (show (0 : Int) = E by
          rw [HE.out]
          refine (withinE_mk fun s hs => ?_).symm
          simp only [Ord.spans, List.mem_cons, List.not_mem_nil, or_false] at hs
          rcases hs with rfl | rfl | rfl | rfl | rfl | rfl | rfl | rfl <;> dsimp only <;> omega)
        go_enter Try.func24, Try.ntmps24
        go_wp2_with fail
        go_ret
        exact ⟨ret_i64 F.out, HB.out⟩
      all_goals
        have F := Lib.hid (show (1 : Int) = E by
          rw [HE.out]
          refine (withinE_bad ?_).symm
          first
            | exact ⟨⟨frm, 0, to⟩, by simp [Ord.spans], by dsimp only; omega⟩
            | exact ⟨⟨to, 0, 1000000⟩, by simp [Ord.spans], by dsimp only; omega⟩
            | exact ⟨⟨service, 0, 10000⟩, by simp [Ord.spans], by dsimp only; omega⟩)
        go_enter Try.func24, Try.ntmps24
        go_wp2_with fail
        go_ret
        exact ⟨ret_i64 F.out, HB.out⟩
    all_goals
      have F := Lib.hid (show (1 : Int) = E by
        rw [HE.out]
        refine (withinE_bad ?_).symm
        first
          | exact ⟨⟨weight, 1, 1000000⟩, by simp [Ord.spans], by dsimp only; omega⟩
          | exact ⟨⟨volume, 1, 1000000⟩, by simp [Ord.spans], by dsimp only; omega⟩)
      go_enter Try.func24, Try.ntmps24
      go_wp2_with fail
      go_ret
      exact ⟨ret_i64 F.out, HB.out⟩
  all_goals
    have F := Lib.hid (show (1 : Int) = E by
      rw [HE.out]
      refine (withinE_bad ?_).symm
      first
        | exact ⟨⟨id, 1, 1000000⟩, by simp [Ord.spans], by dsimp only; omega⟩
        | exact ⟨⟨owner, 0, 31⟩, by simp [Ord.spans], by dsimp only; omega⟩
        | exact ⟨⟨node, 1, n - 1⟩, by simp [Ord.spans], by dsimp only; omega⟩)
    go_enter Try.func24, Try.ntmps24
    go_wp2_with fail
    go_ret
    exact ⟨ret_i64 F.out, HB.out⟩

set_option maxHeartbeats 8000000 in
theorem rtrk_any (t : Trk) (w : World) :
    Calls Try.prog 30 #[.agg t.cells] w fun e w' => e = .returned (.int .i64 (trkE t)) ∧ Below w.heap.size w w' := by
  obtain ⟨E, hE⟩ : ∃ E, trkE t = E := ⟨_, rfl⟩
  have HE := Lib.hid (show E = withinE t.spans by rw [← hE]; rfl)
  rw [hE]
  clear hE
  obtain ⟨id, weight, volume, start, stop, fixed, rate⟩ := t
  unfold Trk.cells
  dsimp only
  have HB : Hid (Below w.heap.size w (w.alloc (.cells #[.int .i64 id, .int .i64 weight, .int .i64 volume, .int .i64 start, .int .i64 stop, .int .i64 fixed, .int .i64 rate] 42))) := below_new _ _
  rcases (by omega : id < 1 ∨ (1 ≤ id ∧ (1000000 < id ∨ (id ≤ 1000000 ∧ (weight < 1 ∨ (1 ≤ weight ∧ (1000000 < weight ∨ (weight ≤ 1000000 ∧ (volume < 1 ∨ (1 ≤ volume ∧ (1000000 < volume ∨ volume ≤ 1000000))))))))))) with h | ⟨a1, h | ⟨a2, h | ⟨a3, h | ⟨a4, h | ⟨a5, h | a6⟩⟩⟩⟩⟩
  case inr.inr.inr.inr.inr.inr =>
    rcases (by omega : start < 0 ∨ (0 ≤ start ∧ (stop < start ∨ (start ≤ stop ∧ (1000000 < stop ∨ (stop ≤ 1000000 ∧ (fixed < 0 ∨ (0 ≤ fixed ∧ (1000000 < fixed ∨ (fixed ≤ 1000000 ∧ (rate < 0 ∨ (0 ≤ rate ∧ (1000 < rate ∨ rate ≤ 1000))))))))))))) with h | ⟨c1, h | ⟨c2, h | ⟨c3, h | ⟨c4, h | ⟨c5, h | ⟨c6, h | c7⟩⟩⟩⟩⟩⟩
    case inr.inr.inr.inr.inr.inr.inr =>
      have F := Lib.hid (show (0 : Int) = E by
        rw [HE.out]
        refine (withinE_mk fun s hs => ?_).symm
        simp only [Trk.spans, List.mem_cons, List.not_mem_nil, or_false] at hs
        rcases hs with rfl | rfl | rfl | rfl | rfl | rfl | rfl <;> dsimp only <;> omega)
      go_enter Try.func30, Try.ntmps30
      go_wp2_with fail
      go_ret
      exact ⟨ret_i64 F.out, HB.out⟩
    all_goals
      have F := Lib.hid (show (1 : Int) = E by
        rw [HE.out]
        refine (withinE_bad ?_).symm
        first
          | exact ⟨⟨start, 0, stop⟩, by simp [Trk.spans], by dsimp only; omega⟩
          | exact ⟨⟨stop, 0, 1000000⟩, by simp [Trk.spans], by dsimp only; omega⟩
          | exact ⟨⟨fixed, 0, 1000000⟩, by simp [Trk.spans], by dsimp only; omega⟩
          | exact ⟨⟨rate, 0, 1000⟩, by simp [Trk.spans], by dsimp only; omega⟩)
      go_enter Try.func30, Try.ntmps30
      go_wp2_with fail
      go_ret
      exact ⟨ret_i64 F.out, HB.out⟩
  all_goals
    have F := Lib.hid (show (1 : Int) = E by
      rw [HE.out]
      refine (withinE_bad ?_).symm
      first
        | exact ⟨⟨id, 1, 1000000⟩, by simp [Trk.spans], by dsimp only; omega⟩
        | exact ⟨⟨weight, 1, 1000000⟩, by simp [Trk.spans], by dsimp only; omega⟩
        | exact ⟨⟨volume, 1, 1000000⟩, by simp [Trk.spans], by dsimp only; omega⟩)
    go_enter Try.func30, Try.ntmps30
    go_wp2_with fail
    go_ret
    exact ⟨ret_i64 F.out, HB.out⟩
end Go.Proofs.Ytakiciemkecgfaa.Route

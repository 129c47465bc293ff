/-
  The walk of RouteTells.
-/
import Derived.Test.YtakiciemkecgfaaFirst
import Derived.Test.YtakiciemkecgfaaRefRun
import Derived.Test.YtakiciemkecgfaaRefOwn
import Derived.Test.YtakiciemkecgfaaRefSame
import Derived.Deep.RegionHeldLaw
namespace Go.Proofs.Ytakiciemkecgfaa.Route
open Go.RowKit Go.Proofs Go.Proofs.Ytakiciemkecgfaa.AreaMath Go.Proofs.Ytakiciemkecgfaa.Area Go.Proofs.Ytakiciemkecgfaa.Load
set_option maxRecDepth 100000
set_option linter.unusedVariables false

set_option maxHeartbeats 4000000 in
theorem tells_short (x : Wd) (q : Wp) (id : Int) (aS : Option Addr) (lS cS : Nat) (w : World) (h : largeB q lS = true) :
    Calls Try.prog 9 #[.agg (wcells x.n q), .agg #[.int .i64 id, .slice aS lS cS]] w fun e w' => e = .returned (.bool true) ∧ Below w.heap.size w w' := by
  have HC := Lib.hid (fun w => large_any x.n q lS w)
  rw [h] at HC
  have HB3 := Lib.hid (lbox_new w x.n q id (.slice aS lS cS))
  have HB : Hid (Below w.heap.size w ((w.alloc (.cells #[.int .i64 x.n, .slice q.aD q.lD q.cD, .slice q.aT q.lT q.cT, .slice q.aO q.lO q.cO, .slice q.aR q.lR q.cR] 40)).alloc (.cells #[.int .i64 id, .slice aS lS cS] 55))) := below_on (below_new _ _) (below_new _ _)
  clear h
  unfold wcells at *
  go_enter Try.func9, Try.ntmps9
  go_wp2_with fail
  refine (awake_route _).mono ?_; rintro _ w1 ⟨rfl, hw1⟩
  have H1 := Lib.hid (below_on HB.out hw1)
  have L1 := Lib.hid (HB3.out.on hw1)
  clear hw1
  obtain ⟨⟨b0, b1, b2, b3, b4⟩, s0, s1⟩ := L1.out
  go_wp2_with fail
  refine (HC.out _).mono ?_
  rintro _ w2 ⟨rfl, hw2⟩
  have H2 := Lib.hid (below_on H1.out hw2)
  clear hw2 b0 b1 b2 b3 b4 s0 s1
  go_wp2_with fail
  go_ret
  exact ⟨rfl, H2.out⟩

theorem runR_len (x : Wd) (id : Int) (S : List Int) : (runR x id S).1.vs.length ≤ S.length := by
  unfold runR
  split
  · exact Nat.zero_le _
  split
  · exact Nat.zero_le _
  split
  · exact Nat.zero_le _
  split
  · exact Nat.zero_le _
  unfold tripR
  split
  · exact Nat.zero_le _
  split
  · exact Nat.zero_le _
  dsimp only
  rw [visits_len]
  unfold picks
  rw [List.length_map]
  exact Nat.le_refl _
/-- a trip's cells, of any type -/
theorem trip64_new (w : World) (a : Option Addr) (k c : Nat) (x1 x2 x3 : Int) : TripBox (w.alloc (.cells #[.slice a k c, .int .i64 x1, .int .i64 x2, .int .i64 x3] 64)) w.heap.size a k c x1 x2 x3 :=
  ⟨box_cell _ _ _ 0 _ rfl, box_cell _ _ _ 1 _ rfl, box_cell _ _ _ 2 _ rfl, box_cell _ _ _ 3 _ rfl⟩

set_option maxHeartbeats 16000000 in
theorem tells_core (x : Wd) (q : Wp) (id : Int) (aS : Option Addr) (lS cS : Nat) (S : List Int) (w : World) (h : Lies w x q) (hn : Nums x) (hr : Rt w aS lS cS S) (hL : largeB q lS = false) :
    Calls Try.prog 9 #[.agg (wcells x.n q), .agg #[.int .i64 id, .slice aS lS cS]] w fun e w' => e = .returned (.bool true) ∧ Below w.heap.size w w' := by
  have hsm := small_of h hn hL
  have h100 : lS ≤ 100 := by have := largeB_not hL; omega
  have HR1 := Lib.hid (run_to (id := id) h hsm hr (by omega))
  have HR2 : Hid (∀ w1, Below w.heap.size w w1 → Calls Try.prog 38 #[.agg (wcells x.n q), .agg #[.int .i64 id, .slice aS lS cS]] w1 fun e w' => ∃ a c, e = .returned (.tuple #[.agg #[.slice a (runR x id S).1.vs.length c, .int .i64 (runR x id S).1.back, .int .i64 (runR x id S).1.dist, .int .i64 (runR x id S).1.cost], .int .i64 (runR x id S).2]) ∧ ReadsV w' a (runR x id S).1.vs ∧ Below w1.heap.size w1 w') := fun w1 hw1 => by
    refine (rrun_any x q id aS lS cS S w1 (h.below hw1) hsm hr.len (hr.rd.below hw1) (by omega)).mono ?_
    rintro _ w2 ⟨a, c, rfl, h1, _, h2, _⟩
    exact ⟨a, c, rfl, h1, h2⟩
  have HC : Hid (∀ w, Calls Try.prog 36 #[.agg (wcells x.n q), .int .i64 lS] w fun e w' => e = .returned (.bool false) ∧ Below w.heap.size w w') := fun w => by
    have := large_any x.n q lS w
    rw [hL] at this
    exact this
  have C43 : Hid (∀ w0, Below w.heap.size w w0 → ∀ w1, Below w0.heap.size w0 w1 → Calls Try.prog 43 #[.agg (wcells x.n q), .int .i64 id] w1 fun e w' => e = .returned (.int .i64 (truckR x.R id)) ∧ Below w0.heap.size w0 w') := fun w0 hw0 w1 hw1 => by
    refine (rtruck_any x q id w1 (h.below (below_on hw0 hw1)) (by have := hsm.lR; omega)).mono ?_
    rintro _ w2 ⟨r, rfl, hf, hb⟩
    exact ⟨ret_i64 (hf.same (truckR_found x.R id)), below_on hw1 hb⟩
  have C44 : Hid (∀ w0, Below w.heap.size w w0 → ∀ w1, Below w0.heap.size w0 w1 → Calls Try.prog 44 #[.agg (wcells x.n q), .int .i64 id] w1 fun e w' => e = .returned (.int .i64 (truckR x.R id)) ∧ Below w0.heap.size w0 w') := fun w0 hw0 w1 hw1 => by
    refine (reftruck_any x q id w1 (h.below (below_on hw0 hw1)) (by have := hsm.lR; have := h.lR; omega)).mono ?_
    rintro _ w2 ⟨r, rfl, hf, hb⟩
    exact ⟨ret_i64 (hf.same (truckR_found x.R id)), below_on hw1 hb⟩
  have C41 : Hid (∀ w0, Below w.heap.size w w0 → ∀ w1, Below w0.heap.size w0 w1 → Calls Try.prog 41 #[.agg (wcells x.n q)] w1 fun e w' => e = .returned (.int .i64 (rworldE x)) ∧ Below w0.heap.size w0 w') := fun w0 hw0 w1 hw1 =>
    (rworld_any x q w1 (h.below (below_on hw0 hw1)) hsm).mono fun e w' ⟨he, hb⟩ => ⟨he, below_on hw1 hb⟩
  have C42 : Hid (∀ w0, Below w.heap.size w w0 → ∀ w1, Below w0.heap.size w0 w1 → Calls Try.prog 42 #[.agg (wcells x.n q)] w1 fun e w' => e = .returned (.int .i64 (rworldE x)) ∧ Below w0.heap.size w0 w') := fun w0 hw0 w1 hw1 =>
    (r8world_any x q w1 (h.below (below_on hw0 hw1))).mono fun e w' ⟨he, hb⟩ => ⟨he, below_on hw1 hb⟩
  have hlen := runR_len x id S
  rw [hr.len] at hlen
  obtain ⟨r1, hr1⟩ : ∃ r, runR x id S = r := ⟨_, rfl⟩
  obtain ⟨tk, htk⟩ : ∃ t, truckR x.R id = t := ⟨_, rfl⟩
  obtain ⟨we, hwe⟩ : ∃ t, rworldE x = t := ⟨_, rfl⟩
  rw [hr1] at HR1 HR2 hlen
  rw [htk] at C43 C44
  rw [hwe] at C41 C42
  clear hr1 htk hwe
  obtain ⟨⟨v1, k1, d1, g1⟩, e1⟩ := r1
  unfold RunTo at HR1
  dsimp only at HR1 HR2 hlen
  obtain ⟨n1, hn1⟩ : ∃ n, v1.length = n := ⟨_, rfl⟩
  rw [hn1] at HR1 HR2 hlen
  have HN1 := Lib.hid hn1
  have HB3 := Lib.hid (lbox_new w x.n q id (.slice aS lS cS))
  have HB0 : Hid (Below w.heap.size w ((w.alloc (.cells #[.int .i64 x.n, .slice q.aD q.lD q.cD, .slice q.aT q.lT q.cT, .slice q.aO q.lO q.cO, .slice q.aR q.lR q.cR] 40)).alloc (.cells #[.int .i64 id, .slice aS lS cS] 55))) := below_on (below_new _ _) (below_new _ _)
  have hk1 : n1 ≤ 1000 := by omega
  have HK1 := Lib.hid hk1
  clear h hn hr hL hn1 hsm hlen hk1 h100
  unfold wcells at *
  go_enter Try.func9, Try.ntmps9
  go_wp2_with fail
  refine (awake_route _).mono ?_; rintro _ w1 ⟨rfl, hw1⟩
  have H1 := Lib.hid (below_on HB0.out hw1)
  have L1 := Lib.hid (HB3.out.on hw1)
  clear hw1 HB3 HB0
  obtain ⟨⟨b0, b1, b2, b3, b4⟩, s0, s1⟩ := L1.out
  go_wp2_with fail
  refine (HC.out _).mono ?_
  rintro _ w2 ⟨rfl, hw2⟩
  have H2 := Lib.hid (below_on H1.out hw2)
  have L2 := Lib.hid (L1.out.on hw2)
  clear hw2 b0 b1 b2 b3 b4 s0 s1
  obtain ⟨⟨b0, b1, b2, b3, b4⟩, s0, s1⟩ := L2.out
  go_wp2_with fail
  refine (HR1.out _ H2.out).mono ?_
  rintro _ w3 ⟨a1, c1, rfl, hv1, hw3, -⟩
  have H3 := Lib.hid (below_on H2.out hw3)
  have L3 := Lib.hid (L2.out.on hw3)
  have V1 := Lib.hid hv1
  clear hw3 b0 b1 b2 b3 b4 s0 s1 hv1 HR1
  have T4 := Lib.hid (tripBox_new w3 a1 n1 c1 k1 d1 g1)
  have H34 := Lib.hid (below_new w3 (.cells #[.slice a1 n1 c1, .int .i64 k1, .int .i64 d1, .int .i64 g1] 59))
  have L4 := Lib.hid (L3.out.on H34.out)
  obtain ⟨⟨b0, b1, b2, b3, b4⟩, s0, s1⟩ := L4.out
  go_wp2_with fail
  refine (HR2.out _ (below_on H3.out H34.out)).mono ?_
  rintro _ w4 ⟨a2, c2, rfl, hv2, hw4⟩
  have H4 := Lib.hid (below_on (below_on H3.out H34.out) hw4)
  have L5 := Lib.hid (L4.out.on hw4)
  have T5 := Lib.hid (T4.out.on hw4)
  have V5 := Lib.hid ((V1.out.below H34.out).below hw4)
  have V2 := Lib.hid hv2
  clear hw4 b0 b1 b2 b3 b4 s0 s1 hv2 HR2
  have H46 := Lib.hid (below_new w4 (.cells #[.slice a2 n1 c2, .int .i64 k1, .int .i64 d1, .int .i64 g1] 64))
  have T6 := Lib.hid (T5.out.on H46.out)
  have U6 := Lib.hid (trip64_new w4 a2 n1 c2 k1 d1 g1)
  have L6 := Lib.hid (L5.out.on H46.out)
  have V6 := Lib.hid (V5.out.below H46.out)
  have Z6 := Lib.hid (V2.out.below H46.out)
  have H6 := Lib.hid (below_on H4.out H46.out)
  go_wp2_with fail
  obtain ⟨W, hW⟩ : ∃ W, w4.alloc (.cells #[.slice a2 n1 c2, .int .i64 k1, .int .i64 d1, .int .i64 g1] 64) = W := ⟨_, rfl⟩
  rw [hW] at T6 U6 L6 V6 Z6 H6 ⊢
  clear hW T4 T5 L1 L2 L3 L4 L5 V1 V2 V5
  have D41 := Lib.hid (C41.out W H6.out)
  have D42 := Lib.hid (C42.out W H6.out)
  have D43 := Lib.hid (C43.out W H6.out)
  have D44 := Lib.hid (C44.out W H6.out)
  have D40 := Lib.hid (show ∀ w1, Below W.heap.size W w1 → Calls Try.prog 40 #[.agg #[.slice a1 n1 c1, .int .i64 k1, .int .i64 d1, .int .i64 g1]] w1 fun e w' => ∃ a' c', e = .returned (.agg #[.slice a' n1 c', .int .i64 k1, .int .i64 d1, .int .i64 g1]) ∧ ReadsV w' a' v1 ∧ Below W.heap.size W w' from fun w1 hw1 =>
    (rown_any v1 a1 n1 c1 k1 d1 g1 w1 HN1.out HK1.out (V6.out.below hw1)).mono fun e w' ⟨a', c', he, hv, hb⟩ => ⟨a', c', he, hv, below_on hw1 hb⟩)
  have D39 := Lib.hid (show ∀ w1 a' c', Below W.heap.size W w1 → ReadsV w1 a' v1 → Calls Try.prog 39 #[.agg #[.slice a' n1 c', .int .i64 k1, .int .i64 d1, .int .i64 g1], .agg #[.slice a2 n1 c2, .int .i64 k1, .int .i64 d1, .int .i64 g1]] w1 fun e w' => e = .returned (.bool true) ∧ Below W.heap.size W w' from fun w1 a' c' hw1 hr =>
    (rsame_any v1 a' a2 n1 c' c2 k1 d1 g1 w1 HN1.out HK1.out hr (Z6.out.below hw1)).mono fun e w' ⟨he, hb⟩ => ⟨he, below_on hw1 hb⟩)
  have S0 := Lib.hid (show ∀ w1, Below W.heap.size W w1 → ((w1.cell? ⟨w.heap.size, 0, none⟩ = some (.int .i64 x.n) ∧ w1.cell? ⟨w.heap.size, 1, none⟩ = some (.slice q.aD q.lD q.cD) ∧ w1.cell? ⟨w.heap.size, 2, none⟩ = some (.slice q.aT q.lT q.cT) ∧ w1.cell? ⟨w.heap.size, 3, none⟩ = some (.slice q.aO q.lO q.cO) ∧ w1.cell? ⟨w.heap.size, 4, none⟩ = some (.slice q.aR q.lR q.cR)) ∧ w1.cell? ⟨w.heap.size + 1, 0, none⟩ = some (.int .i64 id)) ∧ (w1.cell? ⟨w3.heap.size, 0, none⟩ = some (.slice a1 n1 c1) ∧ w1.cell? ⟨w3.heap.size, 1, none⟩ = some (.int .i64 k1) ∧ w1.cell? ⟨w3.heap.size, 2, none⟩ = some (.int .i64 d1) ∧ w1.cell? ⟨w3.heap.size, 3, none⟩ = some (.int .i64 g1)) ∧ (w1.cell? ⟨w4.heap.size, 0, none⟩ = some (.slice a2 n1 c2) ∧ w1.cell? ⟨w4.heap.size, 1, none⟩ = some (.int .i64 k1) ∧ w1.cell? ⟨w4.heap.size, 2, none⟩ = some (.int .i64 d1) ∧ w1.cell? ⟨w4.heap.size, 3, none⟩ = some (.int .i64 g1))
    from fun w1 hw1 => ⟨⟨(L6.out.on hw1).1, (L6.out.on hw1).2.1⟩, T6.out.on hw1, U6.out.on hw1⟩)
  have S1 := Lib.hid (S0.out _ (Below.refl W.heap.size W).drew)
  have BD := Lib.hid (Below.refl W.heap.size W).drew
  go_region_held_law (fun w1 => ((w1.cell? ⟨w.heap.size, 0, none⟩ = some (.int .i64 x.n) ∧ w1.cell? ⟨w.heap.size, 1, none⟩ = some (.slice q.aD q.lD q.cD) ∧ w1.cell? ⟨w.heap.size, 2, none⟩ = some (.slice q.aT q.lT q.cT) ∧ w1.cell? ⟨w.heap.size, 3, none⟩ = some (.slice q.aO q.lO q.cO) ∧ w1.cell? ⟨w.heap.size, 4, none⟩ = some (.slice q.aR q.lR q.cR)) ∧ w1.cell? ⟨w.heap.size + 1, 0, none⟩ = some (.int .i64 id)) ∧ (w1.cell? ⟨w3.heap.size, 0, none⟩ = some (.slice a1 n1 c1) ∧ w1.cell? ⟨w3.heap.size, 1, none⟩ = some (.int .i64 k1) ∧ w1.cell? ⟨w3.heap.size, 2, none⟩ = some (.int .i64 d1) ∧ w1.cell? ⟨w3.heap.size, 3, none⟩ = some (.int .i64 g1)) ∧ (w1.cell? ⟨w4.heap.size, 0, none⟩ = some (.slice a2 n1 c2) ∧ w1.cell? ⟨w4.heap.size, 1, none⟩ = some (.int .i64 k1) ∧ w1.cell? ⟨w4.heap.size, 2, none⟩ = some (.int .i64 d1) ∧ w1.cell? ⟨w4.heap.size, 3, none⟩ = some (.int .i64 g1)))
    (first | exact S1.out | exact S0.out _ h8 | go_keep)
    (first
      | (go_at_call 40; refine (D40.out _ ?_).mono ?_; (first | assumption | exact BD.out); rintro _ w8 ⟨aN, cN, rfl, hvN, h8⟩)
      | (go_at_call 39; refine (D39.out _ _ _ ?_ ?_).mono ?_; assumption; assumption; rintro _ w8 ⟨rfl, h8⟩)
      | (go_at_call 41; refine (D41.out _ ?_).mono ?_; assumption; rintro _ w8 ⟨rfl, h8⟩)
      | (go_at_call 42; refine (D42.out _ ?_).mono ?_; assumption; rintro _ w8 ⟨rfl, h8⟩)
      | (go_at_call 43; refine (D43.out _ ?_).mono ?_; assumption; rintro _ w8 ⟨rfl, h8⟩)
      | (go_at_call 44; refine (D44.out _ ?_).mono ?_; assumption; rintro _ w8 ⟨rfl, h8⟩))
  all_goals
    go_wp2_with fail
    go_ret
    exact ⟨rfl, below_on H6.out h8⟩

theorem tells_any (x : Wd) (q : Wp) (id : Int) (aS : Option Addr) (lS cS : Nat) (S : List Int) (w : World) (h : Lies w x q) (hn : Nums x) (hr : Rt w aS lS cS S) :
    Calls Try.prog 9 #[.agg (wcells x.n q), .agg #[.int .i64 id, .slice aS lS cS]] w fun e w' => e = .returned (.bool true) ∧ Below w.heap.size w w' := by
  cases hL : largeB q lS with
  | true => exact tells_short x q id aS lS cS w hL
  | false => exact tells_core x q id aS lS cS S w h hn hr hL
end Go.Proofs.Ytakiciemkecgfaa.Route

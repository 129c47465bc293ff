/-
  The walk of the reference's Large; the plain law of RouteFirst; what came in.
-/
import Derived.Test.YtakiciemkecgfaaAwakeR
namespace Go.Proofs.Ytakiciemkecgfaa.Route
open Go.RowKit Go.Proofs Go.Proofs.Ytakiciemkecgfaa.AreaMath Go.Proofs.Ytakiciemkecgfaa.Area Go.Proofs.Ytakiciemkecgfaa.Load
open Go.ChangeShapes Go.WideShapes Go.ChangeAt Go.Joins
set_option maxRecDepth 100000
set_option linter.unusedVariables false

def largeB (q : Wp) (k : Int) : Bool := decide ((50 : Int) < q.lO) || decide ((50 : Int) < q.lR) || decide ((400 : Int) < q.lD) || decide ((400 : Int) < q.lT) || decide (100 < k)
set_option maxHeartbeats 2000000 in
theorem large_any (n : Int) (q : Wp) (k : Int) (w : World) :
    Calls Try.prog 36 #[.agg (wcells n q), .int .i64 k] w fun e w' => e = .returned (.bool (largeB q k)) ∧ Below w.heap.size w w' := by
  obtain ⟨aD, lD, cD, aT, lT, cT, aO, lO, cO, aR, lR, cR⟩ := q
  unfold wcells
  dsimp only
  obtain ⟨L, hL⟩ : ∃ L, largeB ⟨aD, lD, cD, aT, lT, cT, aO, lO, cO, aR, lR, cR⟩ k = L := ⟨_, rfl⟩
  have HL := Lib.hid hL
  rw [hL]
  clear hL
  have HB := Lib.hid (below_new w (.cells #[.int .i64 n, .slice aD lD cD, .slice aT lT cT, .slice aO lO cO, .slice aR lR cR] 40))
  by_cases h1 : 50 < lO
  · have F := Lib.hid (show true = L by rw [← HL.out]; unfold largeB; dsimp only; rw [decide_eq_true (show (50 : Int) < lO by omega)]; rfl)
    go_enter Try.func36, Try.ntmps36
    go_wp2_with fail
    go_ret
    exact ⟨ret_bool F.out, HB.out⟩
  have d1 : decide ((50 : Int) < lO) = false := decide_eq_false (by omega)
  by_cases h2 : 50 < lR
  · have F := Lib.hid (show true = L by rw [← HL.out]; unfold largeB; dsimp only; rw [d1, decide_eq_true (show (50 : Int) < lR by omega)]; rfl)
    go_enter Try.func36, Try.ntmps36
    go_wp2_with fail
    go_ret
    exact ⟨ret_bool F.out, HB.out⟩
  have d2 : decide ((50 : Int) < lR) = false := decide_eq_false (by omega)
  by_cases h3 : 400 < lD
  · have F := Lib.hid (show true = L by rw [← HL.out]; unfold largeB; dsimp only; rw [d1, d2, decide_eq_true (show (400 : Int) < lD by omega)]; rfl)
    go_enter Try.func36, Try.ntmps36
    go_wp2_with fail
    go_ret
    exact ⟨ret_bool F.out, HB.out⟩
  have d3 : decide ((400 : Int) < lD) = false := decide_eq_false (by omega)
  by_cases h4 : 400 < lT
  · have F := Lib.hid (show true = L by rw [← HL.out]; unfold largeB; dsimp only; rw [d1, d2, d3, decide_eq_true (show (400 : Int) < lT by omega)]; rfl)
    go_enter Try.func36, Try.ntmps36
    go_wp2_with fail
    go_ret
    exact ⟨ret_bool F.out, HB.out⟩
  have d4 : decide ((400 : Int) < lT) = false := decide_eq_false (by omega)
  have F := Lib.hid (show decide (100 < k) = L by rw [← HL.out]; unfold largeB; dsimp only; rw [d1, d2, d3, d4]; rfl)
  go_enter Try.func36, Try.ntmps36
  go_wp2_with fail
  go_ret
  exact ⟨ret_bool F.out, HB.out⟩
theorem largeB_not {q : Wp} {k : Int} (h : largeB q k = false) : q.lO ≤ 50 ∧ q.lR ≤ 50 ∧ q.lD ≤ 400 ∧ q.lT ≤ 400 ∧ k ≤ 100 := by
  unfold largeB at h
  simp only [Bool.or_eq_false_iff, decide_eq_false_iff_not] at h
  omega

/-! what a run tells that is one -/
structure RunOk (x : Wd) (id : Int) (S : List Int) (tm : TripM) (t : Trk) (l : List Ord) : Prop where
  world : rworldE x = 0
  len : 1 ≤ S.length ∧ S.length ≤ 12
  truck : 0 ≤ truckR x.R id
  trk : t = trkAt x.R (truckR x.R id).toNat
  ords : ordersR x.O S = 0
  picks : l = picks x.O S
  car : carriesE t l = 0
  late : lateB x.n x.D x.T l (startP t) = false
  back : (homeP x.n x.D x.T l (startP t)).time ≤ t.stop
  trip : tm = ⟨visits x.n x.D x.T l (startP t) l.length, (homeP x.n x.D x.T l (startP t)).time, (homeP x.n x.D x.T l (startP t)).dist, t.fixed + t.rate * (homeP x.n x.D x.T l (startP t)).dist⟩
theorem run_ok {x : Wd} {id : Int} {S : List Int} {tm : TripM} (h : runR x id S = (tm, 0)) : RunOk x id S tm (trkAt x.R (truckR x.R id).toNat) (picks x.O S) := by
  unfold runR at h
  by_cases n1 : rworldE x ≠ 0
  · rw [if_pos n1] at h; exact absurd (Prod.mk.inj h).2 n1
  rw [if_neg n1] at h
  have h1 := Decidable.not_not.1 n1
  by_cases h2 : S.length = 0 ∨ 12 < S.length
  · rw [if_pos h2] at h; exact absurd (Prod.mk.inj h).2 (by decide)
  rw [if_neg h2] at h
  by_cases h3 : truckR x.R id < 0
  · rw [if_pos h3] at h; exact absurd (Prod.mk.inj h).2 (by decide)
  rw [if_neg h3] at h
  by_cases n4 : ordersR x.O S ≠ 0
  · rw [if_pos n4] at h; exact absurd (Prod.mk.inj h).2 n4
  rw [if_neg n4] at h
  have h4 := Decidable.not_not.1 n4
  unfold tripR at h
  by_cases n5 : carriesE (trkAt x.R (truckR x.R id).toNat) (picks x.O S) ≠ 0
  · rw [if_pos n5] at h; exact absurd (Prod.mk.inj h).2 n5
  rw [if_neg n5] at h
  have h5 := Decidable.not_not.1 n5
  by_cases h6 : lateB x.n x.D x.T (picks x.O S) (startP (trkAt x.R (truckR x.R id).toNat)) = true ∨ (trkAt x.R (truckR x.R id).toNat).stop < (homeP x.n x.D x.T (picks x.O S) (startP (trkAt x.R (truckR x.R id).toNat))).time
  · rw [if_pos h6] at h; exact absurd (Prod.mk.inj h).2 (by decide)
  rw [if_neg h6] at h
  have h7 := (Prod.mk.inj h).1
  exact ⟨h1, by omega, by omega, rfl, h4, rfl, h5, by simpa using fun e => h6 (.inl e), by
    have : ¬ (trkAt x.R (truckR x.R id).toNat).stop < (homeP x.n x.D x.T (picks x.O S) (startP (trkAt x.R (truckR x.R id).toNat))).time := fun e => h6 (.inr e)
    omega, h7.symm⟩
theorem run_of {x : Wd} {id : Int} {S : List Int} (h1 : rworldE x = 0) (h2 : 1 ≤ S.length ∧ S.length ≤ 12) (h3 : 0 ≤ truckR x.R id) (h4 : ordersR x.O S = 0) : runR x id S = tripR x (trkAt x.R (truckR x.R id).toNat) (picks x.O S) := by
  unfold runR
  rw [if_neg (by rw [h1]; simp), if_neg (by omega), if_neg (by omega), if_neg (by rw [h4]; simp)]
theorem RunOk.ordOk {x : Wd} {id : Int} {S : List Int} {tm : TripM} {t : Trk} {l : List Ord} (h : RunOk x id S tm t l) : validB x.n x.D x.T = true ∧ (∀ o ∈ l, OrdOk x.n o) ∧ TrkOk t ∧ PlOk x.n 0 (startP t) := by
  obtain ⟨hv, hwe⟩ := rworld_ok h.world
  have hwk := worldE_ok hwe
  obtain ⟨v1, v2, _⟩ := validB_iff.1 hv
  have ht : TrkOk t := by
    rw [h.trk]
    rcases truckR_found x.R id with ⟨hr, _⟩ | ⟨m, hml, hr, _, _⟩
    · have := h.truck; omega
    · rw [hr]
      exact trk_ok (hwk.2.2.2.1 _ (by rw [Int.toNat_natCast, trkAt_get _ _ hml]; exact List.getElem_mem _))
  exact ⟨hv, fun o ho => ord_ok v1 v2 (hwk.2.2.1 o (picks_ok h.ords o (by rw [← h.picks]; exact ho))), ht, nodeB_iff.2 (by unfold startP; dsimp only; omega), by have := ht.1; unfold startP; dsimp only; omega, by unfold startP; dsimp only; omega⟩

/-! RouteFirst -/
theorem placeK_take (n : Int) (D T : List Int) (l : List Ord) (p : Place) (m k : Nat) (h : k ≤ m) : placeK n D T (l.take m) p k = placeK n D T l p k := by
  unfold placeK; rw [List.take_take, Nat.min_eq_left h]
theorem ordAt_take (l : List Ord) (m k : Nat) (h : k < m) : ordAt (l.take m) k = ordAt l k := by
  unfold ordAt; simp [List.getD, h]
theorem visK_take (n : Int) (D T : List Int) (l : List Ord) (p : Place) (m k : Nat) (h : k < m) : visK n D T (l.take m) p k = visK n D T l p k := by
  unfold visK; rw [placeK_take _ _ _ _ _ _ _ (by omega), ordAt_take _ _ _ h]
theorem picks_take (O : List Ord) (S : List Int) (m : Nat) : picks O (S.take m) = (picks O S).take m := by unfold picks; rw [List.map_take]
theorem picks_len (O : List Ord) (S : List Int) : (picks O S).length = S.length := by unfold picks; rw [List.length_map]
theorem ordersR_take {O : List Ord} {S : List Int} (h : ordersR O S = 0) (m : Nat) : ordersR O (S.take m) = 0 := by
  unfold ordersR at h ⊢
  cases ha : S.all (hasB O) with
  | false => rw [ha] at h; simp at h
  | true =>
    rw [ha] at h
    have hd : dupB S = false := by
      cases hb : dupB S with
      | false => rfl
      | true => rw [hb] at h; simp at h
    have ha' : (S.take m).all (hasB O) = true := by
      rw [List.all_eq_true] at ha ⊢
      exact fun s hs => ha s (List.mem_of_mem_take hs)
    have hd' : dupB (S.take m) = false := (dupB_false _).2 (List.Pairwise.sublist (List.take_sublist _ _) ((dupB_false _).1 hd))
    rw [ha', hd']; rfl
theorem first_law {x : Wd} {id : Int} {S : List Int} {tm : TripM} (h : runR x id S = (tm, 0)) {m : Nat} (h1 : 1 ≤ m) (h2 : m ≤ S.length) :
    tm.vs.length = S.length ∧ (runR x id (S.take m) = (noTrip, 10) ∨ ∃ um, runR x id (S.take m) = (um, 0) ∧ um.vs.length = m ∧ ∀ j, j < m → visAt um.vs j = visAt tm.vs j) := by
  have hk := run_ok h
  obtain ⟨hv, hoo, hto, hp0⟩ := hk.ordOk
  generalize ht : trkAt x.R (truckR x.R id).toNat = t at hk hto hp0
  have hl : (picks x.O S).length = S.length := picks_len _ _
  have hlt : (picks x.O (S.take m)).length = m := by rw [picks_len, List.length_take]; omega
  refine ⟨by rw [hk.trip]; dsimp only; rw [visits_len, hl], ?_⟩
  rw [run_of hk.world (by rw [List.length_take]; have := hk.len; omega) hk.truck (ordersR_take hk.ords m), ht]
  have hmay : MayAll (picks x.O S) := fun o ho => by have := (hoo o ho).2.2.2; omega
  have hc : carriesE t (picks x.O (S.take m)) = 0 := by
    have c1 := hk.car
    rw [carries_may hmay (by rw [hl]; have := hk.len; omega)] at c1
    rw [picks_take, carries_may (hmay.take m) (by rw [List.length_take, hl]; have := hk.len; omega)]
    have w1 := sumW_parts (picks x.O S) m; have w2 := sumV_parts (picks x.O S) m
    have w3 := sumW_range (hmay.drop m); have w4 := sumV_range (hmay.drop m)
    by_cases hx : t.weight < sumW (picks x.O S) ∨ t.volume < sumV (picks x.O S)
    · rw [if_pos hx] at c1; omega
    · rw [if_neg (by omega)]
  have hla : lateB x.n x.D x.T (picks x.O (S.take m)) (startP t) = false := by
    refine lateB_not fun j hj => ?_
    rw [hlt] at hj
    rw [picks_take, ordAt_take _ _ _ hj, visK_take _ _ _ _ _ _ _ hj]
    have h3 := hk.late
    unfold lateB at h3
    rw [List.any_eq_false] at h3
    have := h3 j (List.mem_range.2 (by rw [hl]; omega))
    simpa using this
  unfold tripR
  rw [if_neg (by rw [hc]; simp), hla]
  by_cases hs : t.stop < (homeP x.n x.D x.T (picks x.O (S.take m)) (startP t)).time
  · exact .inl (by rw [if_pos (.inr hs)])
  · right
    refine ⟨_, by rw [if_neg (by simp; omega)], by dsimp only; rw [visits_len, hlt], fun j hj => ?_⟩
    rw [hk.trip]
    dsimp only
    rw [visits_at _ _ _ _ _ _ _ (by rw [hlt]; exact hj), visits_at _ _ _ _ _ _ _ (by rw [hl]; omega), picks_take, visK_take _ _ _ _ _ _ _ hj]
end Go.Proofs.Ytakiciemkecgfaa.Route

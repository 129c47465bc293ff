/-
  The walk of RouteHolds.
-/
import Derived.Test.YtakiciemkecgfaaFirst
import Derived.BigQuiet
namespace Go.Proofs.Ytakiciemkecgfaa.Route
open Go.RowKit Go.Proofs Go.Proofs.Ytakiciemkecgfaa.AreaMath Go.Proofs.Ytakiciemkecgfaa.Area Go.Proofs.Ytakiciemkecgfaa.Load
set_option maxRecDepth 100000
set_option linter.unusedVariables false

set_option maxHeartbeats 4000000 in
theorem holds_short (x : Wd) (q : Wp) (id : Int) (aS : Option Addr) (lS cS : Nat) (w : World) (h : largeB q lS = true) :
    Calls Try.prog 11 #[.agg (wcells x.n q), .agg #[.int .i64 id, .slice aS lS cS]] w fun e w' => e = .returned (.bool true) ∧ Below w.heap.size w w' := by
  have HC := Lib.hid (fun w => large_any x.n q lS w)
  rw [h] at HC
  have HB3 := Lib.hid (lbox_new w x.n q id (.slice aS lS cS))
  have HB : Hid (Below w.heap.size w ((w.alloc (.cells #[.int .i64 x.n, .slice q.aD q.lD q.cD, .slice q.aT q.lT q.cT, .slice q.aO q.lO q.cO, .slice q.aR q.lR q.cR] 40)).alloc (.cells #[.int .i64 id, .slice aS lS cS] 55))) := below_on (below_new _ _) (below_new _ _)
  clear h
  unfold wcells at *
  go_enter Try.func11, Try.ntmps11
  go_wp2_with fail
  refine (awake_route _).mono ?_; rintro _ w1 ⟨rfl, hw1⟩
  have H1 := Lib.hid (below_on HB.out hw1)
  have L1 := Lib.hid (HB3.out.on hw1)
  clear hw1
  obtain ⟨⟨b0, b1, b2, b3, b4⟩, s0, s1⟩ := L1.out
  go_wp2_with fail
  refine (HC.out _).mono ?_
  rintro _ w2 ⟨rfl, hw2⟩
  have H2 := Lib.hid (below_on H1.out hw2)
  clear hw2 b0 b1 b2 b3 b4 s0 s1
  go_wp2_with fail
  go_ret
  exact ⟨rfl, H2.out⟩

/-- behind i visits -/
def stp (x : Wd) (t : Trk) (l : List Ord) (i : Nat) : Place := placeK x.n x.D x.T l (startP t) i
theorem sumW_snoc (l : List Ord) (i : Nat) (hi : i < l.length) : sumW (l.take (i + 1)) = sumW (l.take i) + (ordAt l i).weight := by
  unfold sumW weights
  rw [List.take_succ_eq_append_getElem hi, List.map_append, List.sum_append, ordAt_get l i hi]
  simp
theorem sumV_snoc (l : List Ord) (i : Nat) (hi : i < l.length) : sumV (l.take (i + 1)) = sumV (l.take i) + (ordAt l i).volume := by
  unfold sumV volumes
  rw [List.take_succ_eq_append_getElem hi, List.map_append, List.sum_append, ordAt_get l i hi]
  simp
/-- which order a stop is -/
def pix (O : List Ord) (s : Int) : Nat := O.findIdx fun o => o.id == s
theorem picks_at (O : List Ord) (S : List Int) (i : Nat) (hi : i < S.length) : ordAt (picks O S) i = ordAt O (pix O (at_ S i)) := by
  unfold ordAt picks at_ pick pix ordAt
  simp [List.getD_eq_getElem?_getD, hi]
theorem pix_lt {O : List Ord} {S : List Int} (h : ordersR O S = 0) {i : Nat} (hi : i < S.length) : pix O (at_ S i) < O.length ∧ (ordAt O (pix O (at_ S i))).id = at_ S i := by
  unfold ordersR at h
  cases ha : S.all (hasB O) with
  | false => rw [ha] at h; simp at h
  | true =>
    have hh := List.all_eq_true.1 ha _ (at_mem hi)
    have hlt : (O.findIdx fun o => o.id == at_ S i) < O.length := by
      rw [List.findIdx_lt_length]
      unfold hasB at hh
      exact List.any_eq_true.1 hh
    refine ⟨hlt, ?_⟩
    exact (pick_mem hh).2
/-- a leg's place and cells -/
theorem leg_place {n : Int} {l : List Int} (hl : (l.length : Int) = n * n) (hn : 1 ≤ n ∧ n ≤ 16) {a b : Int} (ha : nodeB n a = true) (hb : nodeB n b = true) : 0 ≤ a * n ∧ a * n ≤ 256 ∧ 0 ≤ a * n + b ∧ a * n + b < l.length ∧ leg n l a b = at_ l (a * n + b).toNat := by
  have h1 := nodeB_iff.1 ha
  have h2 := nodeB_iff.1 hb
  have hp := place_lt ha hb
  have e1 : 0 ≤ a * n := Int.mul_nonneg h1.1 (by omega)
  have hb' : n * n ≤ 256 := by have := Int.mul_le_mul hn.2 hn.2 (by omega) (by omega); omega
  exact ⟨e1, by omega, hp.1, by omega, rfl⟩

/-- a visit's box -/
def VBox (w : World) (b : Nat) (i0 va vst vlv : Int) : Prop := w.cell? ⟨b, 0, none⟩ = some (.int .i64 i0) ∧ w.cell? ⟨b, 1, none⟩ = some (.int .i64 va) ∧ w.cell? ⟨b, 2, none⟩ = some (.int .i64 vst) ∧ w.cell? ⟨b, 3, none⟩ = some (.int .i64 vlv)
theorem VBox.on {w w1 : World} {b : Nat} {i0 va vst vlv : Int} (h : VBox w b i0 va vst vlv) (hb : Below w.heap.size w w1) : VBox w1 b i0 va vst vlv := ⟨cell_on hb h.1, cell_on hb h.2.1, cell_on hb h.2.2.1, cell_on hb h.2.2.2⟩
theorem vbox_new (w : World) (i0 va vst vlv : Int) : VBox (w.alloc (.cells #[.int .i64 i0, .int .i64 va, .int .i64 vst, .int .i64 vlv] 72)) w.heap.size i0 va vst vlv := ⟨box_cell _ _ _ 0 _ rfl, box_cell _ _ _ 1 _ rfl, box_cell _ _ _ 2 _ rfl, box_cell _ _ _ 3 _ rfl⟩

set_option maxHeartbeats 16000000 in
theorem holds_core (x : Wd) (q : Wp) (id : Int) (aS : Option Addr) (lS cS : Nat) (S : List Int) (w : World) (h : Lies w x q) (hn : Nums x) (hr : Rt w aS lS cS S) (hL : largeB q lS = false) :
    Calls Try.prog 11 #[.agg (wcells x.n q), .agg #[.int .i64 id, .slice aS lS cS]] w fun e w' => e = .returned (.bool true) ∧ Below w.heap.size w w' := by
  have hsm := small_of h hn hL
  have h100 : lS ≤ 100 := by have := largeB_not hL; omega
  have hR50 : q.lR ≤ 50 := by have := largeB_not hL; omega
  have hO50 : q.lO ≤ 50 := by have := largeB_not hL; omega
  have hD4 : q.lD ≤ 400 := by have := largeB_not hL; omega
  have hT4 : q.lT ≤ 400 := by have := largeB_not hL; omega
  have HR1 := Lib.hid (run_to (id := id) h hsm hr (by omega))
  have HOKR : Hid (∀ tm, runR x id S = (tm, 0) → RunOk x id S tm (trkAt x.R (truckR x.R id).toNat) (picks x.O S)) := fun tm ht => run_ok ht
  have HC : Hid (∀ w, Calls Try.prog 36 #[.agg (wcells x.n q), .int .i64 lS] w fun e w' => e = .returned (.bool false) ∧ Below w.heap.size w w') := fun w => by
    have := large_any x.n q lS w
    rw [hL] at this
    exact this
  have HTR : Hid (∀ w1, Below w.heap.size w w1 → Calls Try.prog 43 #[.agg (wcells x.n q), .int .i64 id] w1 fun e w' => e = .returned (.int .i64 (truckR x.R id)) ∧ Below w1.heap.size w1 w') := fun w1 hw1 => by
    refine (rtruck_any x q id w1 (h.below hw1) (by have := hsm.lR; omega)).mono ?_
    rintro _ w2 ⟨r, rfl, hf, hb⟩
    exact ⟨ret_i64 (hf.same (truckR_found x.R id)), hb⟩
  have HLI := Lib.hid h; have HNU := Lib.hid hn; have HRT := Lib.hid hr
  obtain ⟨r1, hr1⟩ : ∃ r, runR x id S = r := ⟨_, rfl⟩
  rw [hr1] at HR1 HOKR
  clear hr1
  obtain ⟨⟨v1, k1, d1, g1⟩, e1⟩ := r1
  unfold RunTo at HR1
  dsimp only at HR1
  obtain ⟨n1, hn1⟩ : ∃ n, v1.length = n := ⟨_, rfl⟩
  rw [hn1] at HR1
  have HN1 := Lib.hid hn1
  have HB3 := Lib.hid (lbox_new w x.n q id (.slice aS lS cS))
  have HB0 : Hid (Below w.heap.size w ((w.alloc (.cells #[.int .i64 x.n, .slice q.aD q.lD q.cD, .slice q.aT q.lT q.cT, .slice q.aO q.lO q.cO, .slice q.aR q.lR q.cR] 40)).alloc (.cells #[.int .i64 id, .slice aS lS cS] 55))) := below_on (below_new _ _) (below_new _ _)
  clear h hn hr hL hn1 hsm
  unfold wcells at *
  go_enter Try.func11, Try.ntmps11
  go_wp2_with fail
  refine (awake_route _).mono ?_; rintro _ w1 ⟨rfl, hw1⟩
  have H1 := Lib.hid (below_on HB0.out hw1)
  have L1 := Lib.hid (HB3.out.on hw1)
  clear hw1 HB3 HB0
  obtain ⟨⟨b0, b1, b2, b3, b4⟩, s0, s1⟩ := L1.out
  go_wp2_with fail
  refine (HC.out _).mono ?_
  rintro _ w2 ⟨rfl, hw2⟩
  have H2 := Lib.hid (below_on H1.out hw2)
  have L2 := Lib.hid (L1.out.on hw2)
  clear hw2 b0 b1 b2 b3 b4 s0 s1
  obtain ⟨⟨b0, b1, b2, b3, b4⟩, s0, s1⟩ := L2.out
  go_wp2_with fail
  refine (HR1.out _ H2.out).mono ?_
  rintro _ w3 ⟨a1, c1, rfl, hv1, hw3, -⟩
  have H3 := Lib.hid (below_on H2.out hw3)
  have L3 := Lib.hid (L2.out.on hw3)
  have V1 := Lib.hid hv1
  clear hw3 b0 b1 b2 b3 b4 s0 s1 hv1
  have T4 := Lib.hid (tripBox_new w3 a1 n1 c1 k1 d1 g1)
  have H34 := Lib.hid (below_new w3 (.cells #[.slice a1 n1 c1, .int .i64 k1, .int .i64 d1, .int .i64 g1] 59))
  have L4 := Lib.hid (L3.out.on H34.out)
  by_cases he : e1 = 0
  · subst he
    have hk := HOKR.out _ rfl
    obtain ⟨hv, hoo, hto, hp0⟩ := hk.ordOk
    rcases truckR_found x.R id with ⟨hr, _⟩ | ⟨k, hkl, hkt, _, _⟩
    · have := hk.truck; omega
    rw [hkt, Int.toNat_natCast] at hk hto hp0
    obtain ⟨tr, htr⟩ : ∃ t, trkAt x.R k = t := ⟨_, rfl⟩
    rw [htr] at hk hto hp0
    have HTRK := Lib.hid htr
    obtain ⟨l, hl⟩ : ∃ l, picks x.O S = l := ⟨_, rfl⟩
    rw [hl] at hk hoo
    have HL := Lib.hid hl
    have HK := Lib.hid hk; have HV := Lib.hid hv; have HOO := Lib.hid hoo; have HTO := Lib.hid hto; have HP0 := Lib.hid hp0; have HKL := Lib.hid hkl
    have HLL := Lib.hid (show l.length = lS by rw [← hl, picks_len]; exact HRT.out.len)
    have hns : n1 = lS := by rw [← HN1.out]; have := congrArg TripM.vs hk.trip; dsimp only at this; rw [this, visits_len]; exact HLL.out
    subst hns
    have HVI := Lib.hid (show ∀ i, i < n1 → visAt v1 i = visK x.n x.D x.T l (startP tr) i from fun i hi => by
      have := congrArg TripM.vs hk.trip; dsimp only at this
      rw [this, visits_at _ _ _ _ _ _ _ (by rw [HLL.out]; exact hi)])
    have h12 : n1 ≤ 12 := by have := hk.len; rw [HRT.out.len] at this; omega
    have hk2 : k < q.lR := by rw [← HLI.out.lR]; exact hkl
    clear hk hv hoo hto hp0 hkl htr hl
    have hk0 : decide ((k : Int) < 0) = false := decide_eq_false (by omega)
    obtain ⟨⟨b0, b1, b2, b3, b4⟩, s0, s1⟩ := L4.out
    go_wp2_with fail
    refine (HTR.out _ (below_on H3.out H34.out)).mono ?_
    rintro _ w5 ⟨rfl, hw5⟩
    rw [hkt]
    have H45 := Lib.hid (below_on H34.out hw5)
    have L5 := Lib.hid (L4.out.on hw5)
    have T5 := Lib.hid (T4.out.on hw5)
    have V5 := Lib.hid (V1.out.below H45.out)
    have H5 := Lib.hid (below_on H3.out H45.out)
    clear hw5 b0 b1 b2 b3 b4 s0 s1 T4 H34 L4 hkt
    obtain ⟨rb, roff, hra, hrc⟩ := (HLI.out.below H5.out).R (by have := HKL.out; omega)
    obtain ⟨c0, c1', c2, c3, c4, c5, c6⟩ := trkCells_at (hrc k HKL.out)
    rw [HTRK.out] at c0 c1' c2 c3 c4 c5 c6
    obtain ⟨⟨b0, b1, b2, b3, b4⟩, s0, s1⟩ := L5.out
    rw [hra] at b4
    obtain ⟨t0, t1, t2, t3⟩ := T5.out
    have HT8 := Lib.hid (show TBox (w5.alloc (.cells #[.int .i64 tr.id, .int .i64 tr.weight, .int .i64 tr.volume, .int .i64 tr.start, .int .i64 tr.stop, .int .i64 tr.fixed, .int .i64 tr.rate] 42)) w5.heap.size tr from TBox.new w5 tr)
    have HN8 := Lib.hid (below_new w5 (.cells #[.int .i64 tr.id, .int .i64 tr.weight, .int .i64 tr.volume, .int .i64 tr.start, .int .i64 tr.stop, .int .i64 tr.fixed, .int .i64 tr.rate] 42))
    have u0 := cell_on HN8.out t0
    have z3 := box_cell w5 #[.int .i64 tr.id, .int .i64 tr.weight, .int .i64 tr.volume, .int .i64 tr.start, .int .i64 tr.stop, .int .i64 tr.fixed, .int .i64 tr.rate] 42 3 _ rfl
    clear hrc
    go_wp2_with fail
    clear t0 t1 t2 t3 u0 z3 b0 b1 b2 b3 b4 s0 s1 c0 c1' c2 c3 c4 c5 c6
    obtain ⟨w6, hw6⟩ : ∃ W, w5.alloc (.cells #[.int .i64 tr.id, .int .i64 tr.weight, .int .i64 tr.volume, .int .i64 tr.start, .int .i64 tr.stop, .int .i64 tr.fixed, .int .i64 tr.rate] 42) = W := ⟨_, rfl⟩
    rw [hw6] at HT8 HN8 ⊢
    clear hw6
    have L6 := Lib.hid (L5.out.on HN8.out)
    have T6 := Lib.hid (T5.out.on HN8.out)
    have V6 := Lib.hid (V5.out.below HN8.out)
    have H6 := Lib.hid (below_on H5.out HN8.out)
    have hst0 : stp x tr l 0 = ⟨0, tr.start, 0⟩ := rfl
    have HBR := Lib.hid (Below.refl w6.heap.size w6)
    go_loopw [60, 9, 10, 11, 12, 13] (fun i s9 s10 s11 s12 s13 wr => ∃ j : Nat, j ≤ n1 ∧ i = .int .i64 j ∧ s9 = .int .i64 (stp x tr l j).time ∧ s10 = .int .i64 (stp x tr l j).node ∧ s11 = .int .i64 (sumW (l.take j)) ∧ s12 = .int .i64 (sumV (l.take j)) ∧ s13 = .int .i64 (stp x tr l j).dist ∧ Below w6.heap.size w6 wr) (fun i s9 s10 s11 s12 s13 wr => n1 - (intOf i).toNat)
    case atStart => exact ⟨0, by omega, rfl, rfl, rfl, rfl, rfl, rfl, HBR.out⟩
    case round =>
      obtain ⟨j, hj, rfl, rfl, rfl, rfl, rfl, rfl, hb⟩ := hrel
      have HBJ := Lib.hid hb; clear hb hst0
      have hpl := plOk_at HV.out HOO.out HP0.out j (by rw [HLL.out]; exact hj)
      obtain ⟨nv1, nv2, nv3, nv4, nv5, nv6⟩ := validB_iff.1 HV.out
      by_cases hlt : j < n1
      · have hjl : j < l.length := by rw [HLL.out]; exact hlt
        have hjS : j < S.length := by rw [HRT.out.len]; exact hlt
        obtain ⟨hpix, hpid⟩ := pix_lt HK.out.ords hjS
        have hpo : ordAt l j = ordAt x.O (pix x.O (at_ S j)) := by rw [← HL.out]; exact picks_at _ _ _ hjS
        obtain ⟨p, hp⟩ : ∃ p, pix x.O (at_ S j) = p := ⟨_, rfl⟩
        rw [hp] at hpix hpid hpo
        have hoo := HOO.out (ordAt l j) (by rw [ordAt_get _ _ hjl]; exact List.getElem_mem _)
        have hsu : stp x tr l (j + 1) = nextP x.n x.D x.T (stp x tr l j) (ordAt l j) := placeK_succ _ _ _ _ _ _ hjl
        have hvk : visAt v1 j = visOf x.n x.T (stp x tr l j) (ordAt l j) := HVI.out j hlt
        have hsw := sumW_snoc l j hjl
        have hsv := sumV_snoc l j hjl
        have hmay : MayAll l := fun o ho => by have := (HOO.out o ho).2.2.2; omega
        have hrw := sumW_range (hmay.take j)
        have hrv := sumV_range (hmay.take j)
        rw [List.length_take, HLL.out] at hrw hrv
        have lT := leg_place nv4 ⟨nv1, nv2⟩ hpl.1 hoo.1
        have lD := leg_place nv3 ⟨nv1, nv2⟩ hpl.1 hoo.1
        have rT := leg_range nv6 nv4 hpl.1 hoo.1
        have rD := leg_range nv5 nv3 hpl.1 hoo.1
        have hlate : ¬ (ordAt l j).to < (visOf x.n x.T (stp x tr l j) (ordAt l j)).start := by
          have h3 := HK.out.late
          unfold lateB at h3
          rw [List.any_eq_false] at h3
          have h4 : ¬ (ordAt l j).to < (visK x.n x.D x.T l (startP tr) j).start := by simpa using h3 j (List.mem_range.2 hjl)
          exact h4
        obtain ⟨o, ho⟩ : ∃ o, ordAt l j = o := ⟨_, rfl⟩
        have HO := Lib.hid ho
        rw [ho] at hpo hoo hsu hvk hsw hsv lT lD rT rD hlate
        change PlOk x.n j (stp x tr l j) at hpl
        change 0 ≤ (stp x tr l j).node * x.n ∧ (stp x tr l j).node * x.n ≤ 256 ∧ 0 ≤ (stp x tr l j).node * x.n + o.node ∧ (stp x tr l j).node * x.n + o.node < x.T.length ∧ leg x.n x.T (stp x tr l j).node o.node = at_ x.T ((stp x tr l j).node * x.n + o.node).toNat at lT
        change 0 ≤ (stp x tr l j).node * x.n ∧ (stp x tr l j).node * x.n ≤ 256 ∧ 0 ≤ (stp x tr l j).node * x.n + o.node ∧ (stp x tr l j).node * x.n + o.node < x.D.length ∧ leg x.n x.D (stp x tr l j).node o.node = at_ x.D ((stp x tr l j).node * x.n + o.node).toNat at lD
        change 0 ≤ leg x.n x.T (stp x tr l j).node o.node ∧ leg x.n x.T (stp x tr l j).node o.node ≤ 1000000 at rT
        change 0 ≤ leg x.n x.D (stp x tr l j).node o.node ∧ leg x.n x.D (stp x tr l j).node o.node ≤ 1000000 at rD
        obtain ⟨P, hP⟩ : ∃ P, stp x tr l j = P := ⟨_, rfl⟩
        rw [hP] at hpl hsu hvk lT lD rT rD hlate
        obtain ⟨P', hP'⟩ : ∃ P, stp x tr l (j + 1) = P := ⟨_, rfl⟩
        rw [hP'] at hsu
        have HP := Lib.hid hP; have HP' := Lib.hid hP'
        rw [hP]
        obtain ⟨nd, tm, ds⟩ := P
        obtain ⟨sw, hsw0⟩ : ∃ s, sumW (l.take j) = s := ⟨_, rfl⟩
        obtain ⟨sv, hsv0⟩ : ∃ s, sumV (l.take j) = s := ⟨_, rfl⟩
        have HSW := Lib.hid hsw0; have HSV := Lib.hid hsv0
        rw [hsw0] at hsw hrw ⊢
        rw [hsv0] at hsv hrv ⊢
        dsimp only at hpl lT lD rT rD
        obtain ⟨tl, htl⟩ : ∃ t, leg x.n x.T nd o.node = t := ⟨_, rfl⟩
        obtain ⟨dl, hdl⟩ : ∃ t, leg x.n x.D nd o.node = t := ⟨_, rfl⟩
        obtain ⟨nx, hnx⟩ : ∃ t, nd * x.n = t := ⟨_, rfl⟩
        obtain ⟨ix, hix⟩ : ∃ t, nx + o.node = t := ⟨_, rfl⟩
        rw [hnx, hix, htl] at lT
        rw [hnx, hix, hdl] at lD
        rw [htl] at rT
        rw [hdl] at rD
        have hvc : ∃ va vst vlv, visAt v1 j = ⟨o.id, va, vst, vlv⟩ ∧ va = tm + tl ∧ vst = max va o.frm ∧ vlv = vst + o.service := by
          refine ⟨tm + tl, max (tm + tl) o.frm, max (tm + tl) o.frm + o.service, ?_, rfl, rfl, rfl⟩
          rw [hvk]; unfold visOf beginAt; dsimp only; rw [htl]
        obtain ⟨va, vst, vlv, hvc, hva, hvst, hvlv⟩ := hvc
        have hlate2 : ¬ o.to < vst := by
          have h9 := hlate
          unfold visOf beginAt at h9
          dsimp only at h9
          rw [htl] at h9
          rw [hvst, hva]; exact h9
        have HNX := Lib.hid (show P' = ⟨o.node, vlv, ds + dl⟩ by
          rw [hsu]; unfold nextP beginAt; dsimp only; rw [htl, hdl, hvlv, hvst, hva])
        have hb1 : 0 ≤ tm ∧ tm ≤ 1000000 + 2010000 * (j : Int) := hpl.2.1
        have hb2 : 0 ≤ ds ∧ ds ≤ 1000000 * (j : Int) := hpl.2.2
        have hb3 : 0 ≤ o.frm ∧ o.frm ≤ o.to ∧ o.to ≤ 1000000 := hoo.2.1
        have hb4 : 0 ≤ o.service ∧ o.service ≤ 10000 := hoo.2.2.1
        have hb5 : (1 ≤ o.weight ∧ o.weight ≤ 1000000) ∧ (1 ≤ o.volume ∧ o.volume ≤ 1000000) := hoo.2.2.2
        have hb6 : 0 ≤ o.node ∧ o.node < x.n := nodeB_iff.1 hoo.1
        have z1 : IntKind.i64.wrap nx = nx := IntWalk.i64_in _ (by omega)
        have z2 : IntKind.i64.wrap ix = ix := IntWalk.i64_in _ (by omega)
        have HZ3 := Lib.hid (show IntKind.i64.wrap (tm + tl) = va by rw [hva]; exact IntWalk.i64_in _ (by omega))
        have HZ4 := Lib.hid (show IntKind.i64.wrap (vst + o.service) = vlv by rw [hvlv]; exact IntWalk.i64_in _ (by omega))
        have HZ5 := Lib.hid (show IntKind.i64.wrap (sw + o.weight) = sumW (l.take (j + 1)) by rw [hsw]; exact IntWalk.i64_in _ (by omega))
        have HZ6 := Lib.hid (show IntKind.i64.wrap (sv + o.volume) = sumV (l.take (j + 1)) by rw [hsv]; exact IntWalk.i64_in _ (by omega))
        have HZ7 := Lib.hid (show IntKind.i64.wrap (ds + dl) = ds + dl from IntWalk.i64_in _ (by omega))
        have HZ1 := Lib.hid z1; have HZ2 := Lib.hid z2
        have HMX := Lib.hid hvst
        have HLA := Lib.hid hlate2
        have HIT := Lib.hid lT; have HID := Lib.hid lD
        have HNXE := Lib.hid hnx; have HIXE := Lib.hid hix
        have HPIX := Lib.hid hpix; have HPID := Lib.hid hpid; have HPO := Lib.hid hpo
        obtain ⟨b1, o1, ha1, hc1⟩ := (V6.out.below HBJ.out) (by rw [HN1.out]; omega)
        obtain ⟨f0, f1, f2, f3⟩ := visCells_at (hc1 j (by rw [HN1.out]; omega))
        rw [hvc] at f0 f1 f2 f3
        dsimp only at f0 f1 f2 f3
        subst ha1
        have HNV := Lib.hid (below_new wr (.cells #[.int .i64 o.id, .int .i64 va, .int .i64 vst, .int .i64 vlv] 72))
        have HVB := Lib.hid (vbox_new wr o.id va vst vlv)
        have LQ := Lib.hid ((L6.out.on HBJ.out).on HNV.out)
        obtain ⟨⟨b0, b1', b2', b3, b4⟩, s0, s1⟩ := LQ.out
        obtain ⟨sb, soff, hsa, hsc⟩ := ((HRT.out.rd.below H6.out).below HBJ.out) (by rw [HRT.out.len]; omega)
        have hsc := cell_on HNV.out (hsc j hjS)
        rw [← hpid, ← hpo] at hsc
        rw [hsa] at s1
        have HST := Lib.hid hsc
        have HS1 := Lib.hid s1
        obtain ⟨bT, oT, haT, hcT⟩ := (((HLI.out.below H6.out).T.below HBJ.out).below HNV.out) (by omega)
        have hcT := hcT ix.toNat (by omega)
        rw [← lT.2.2.2.2] at hcT
        obtain ⟨bD, oD, haD, hcD⟩ := (((HLI.out.below H6.out).D.below HBJ.out).below HNV.out) (by omega)
        have hcD := hcD ix.toNat (by omega)
        rw [← lD.2.2.2.2] at hcD
        rw [haD] at b1'
        rw [haT] at b2'
        have HCT := Lib.hid hcT; have HCD := Lib.hid hcD
        have HB0' := Lib.hid b0; have HB1' := Lib.hid b1'; have HB2' := Lib.hid b2'; have HB3' := Lib.hid b3
        have hixr := Lib.hid (show 0 ≤ ix ∧ ix < q.lT ∧ ix < q.lD by
          have := lT.2.2.1; have := lT.2.2.2.1; have := lD.2.2.2.1; rw [HLI.out.lT] at *; rw [HLI.out.lD] at *; omega)
        clear hc1 hcT hcD hsc hpl hpix hpid hpo hoo hsu hvk hsw hsv hrw hrv lT lD rT rD hlate ho hP hP' hsw0 hsv0 htl hdl hnx hix hvc hva hvst hvlv hlate2 hb1 hb2 hb3 hb4 hb5 z1 z2 hmay hjl hp nv1 nv2 nv3 nv4 nv5 nv6 hra hjS
        have HHA := Lib.hid haT; have HHD := Lib.hid haD; have HHS := Lib.hid hsa
        clear haT haD hsa
        have HBQ := Lib.hid (below_on HBJ.out HNV.out)
        obtain ⟨wq, hwq⟩ : ∃ W, wr.alloc (.cells #[.int .i64 o.id, .int .i64 va, .int .i64 vst, .int .i64 vlv] 72) = W := ⟨_, rfl⟩
        have HWQ := Lib.hid hwq
        clear hwq
        go_wp2_with fail
        rw [HWQ.out] at HVB LQ HST HS1 HCT HCD HB0' HB1' HB2' HB3' HBQ ⊢
        clear b0 b1' b2' b3 b4 s0 s1 f0 f1 f2 f3
        obtain ⟨wo, hwo⟩ : ∃ W, W = wr := ⟨_, rfl⟩
        subst hwo
        have HQR := Lib.hid (Below.refl wq.heap.size wq)
        go_loopw [68, 9, 10, 11, 12, 13] (fun i s9 s10 s11 s12 s13 wr => ∃ m : Nat, m ≤ q.lO ∧ i = .int .i64 m ∧ s9 = .int .i64 (if p < m then vlv else tm) ∧ s10 = .int .i64 (if p < m then o.node else nd) ∧ s11 = .int .i64 (if p < m then sumW (l.take (j + 1)) else sw) ∧ s12 = .int .i64 (if p < m then sumV (l.take (j + 1)) else sv) ∧ s13 = .int .i64 (if p < m then ds + dl else ds) ∧ Below wq.heap.size wq wr) (fun i s9 s10 s11 s12 s13 wr => q.lO - (intOf i).toNat)
        case atStart => exact ⟨0, by omega, rfl, by simp, by simp, by simp, by simp, by simp, HQR.out⟩
        case round =>
          obtain ⟨m, hm, rfl, rfl, rfl, rfl, rfl, rfl, hb⟩ := hrel
          have HBM := Lib.hid hb; clear hb
          by_cases hltm : m < q.lO
          · obtain ⟨bO, oO, haO, hcO⟩ := (((HLI.out.below H6.out).O.below HBQ.out).below HBM.out) (by rw [HLI.out.lO]; omega)
            obtain ⟨e0, e1, e2, e3, e4, e5, e6, e7⟩ := ordCells_at (hcO m (by rw [HLI.out.lO]; exact hltm))
            have HHO := Lib.hid haO
            by_cases hpm : m = p
            · subst hpm
              rw [← HPO.out] at e0 e1 e2 e3 e4 e5 e6 e7
              have hnl : ¬ (m < m) := Nat.lt_irrefl _
              rw [if_neg hnl, if_neg hnl, if_neg hnl, if_neg hnl, if_neg hnl]
              have HNO := Lib.hid (below_new wr (.cells #[.int .i64 o.id, .int .i64 o.owner, .int .i64 o.node, .int .i64 o.weight, .int .i64 o.volume, .int .i64 o.frm, .int .i64 o.to, .int .i64 o.service] 44))
              have HOBX := Lib.hid (show OBox (wr.alloc (.cells #[.int .i64 o.id, .int .i64 o.owner, .int .i64 o.node, .int .i64 o.weight, .int .i64 o.volume, .int .i64 o.frm, .int .i64 o.to, .int .i64 o.service] 44)) wr.heap.size o from OBox.new wr o)
              obtain ⟨y0, y1, y2, y3, y4, y5, y6, y7⟩ := HOBX.out
              obtain ⟨x0, x1, x2, x3⟩ := (HVB.out.on HBM.out).on HNO.out
              have n0 := cell_on HNO.out (cell_on HBM.out HB0'.out)
              have n1' := cell_on HNO.out (cell_on HBM.out HB1'.out)
              have n2 := cell_on HNO.out (cell_on HBM.out HB2'.out)
              have ns := cell_on HNO.out (cell_on HBM.out HS1.out)
              have nst := cell_on HNO.out (cell_on HBM.out HST.out)
              have nT := cell_on HNO.out (cell_on HBM.out HCT.out)
              have nD := cell_on HNO.out (cell_on HBM.out HCD.out)
              have b3m := cell_on HBM.out HB3'.out
              rw [haO] at b3m
              clear hcO
              go_wp2_with fail
              go_quiet (fail)
              have nxE := HNXE.out; have ixE := HIXE.out; have zz1 := HZ1.out; have zz2 := HZ2.out
              go_wp2_with fail
              clear nxE ixE zz1 zz2
              have zz3 := HZ3.out; have zz4 := HZ4.out
              have hmx : (if va < o.frm then o.frm else va) = vst := by rw [HMX.out]; split <;> omega
              have dla : decide (o.to < vst) = false := decide_eq_false (by have := HLA.out; omega)
              have hi1 := hixr.out.1
              have hi2 := hixr.out.2.1
              have hi3 := hixr.out.2.2
              go_quiet (fail)
              clear zz3 zz4 hmx dla
              have zz5 := HZ5.out; have zz6 := HZ6.out; have zz7 := HZ7.out
              go_wp2_with fail
              go_quiet (fail)
              clear zz5 zz6 zz7
              go_wp2_with fail
              go_quiet (fail)
              go_wp2_with fail
              go_roundw
              case rel => exact ⟨m + 1, by omega, by go_num, by rw [if_pos (by omega)], by rw [if_pos (by omega)], by rw [if_pos (by omega)], by rw [if_pos (by omega)], by rw [if_pos (by omega)], below_drewN (below_on HBM.out HNO.out) _⟩
              case measure => simp [intOf]; omega
            · obtain ⟨o2, ho2⟩ : ∃ o, ordAt x.O m = o := ⟨_, rfl⟩
              have hne : (o2.id != o.id) = true := by
                rw [bne_iff_ne, ← ho2, HPO.out]
                exact ids_ne (worldE_ok (rworld_ok HK.out.world).2).2.2.2.2.1 (by rw [HLI.out.lO]; exact hltm) HPIX.out hpm
              rw [ho2] at e0 e1 e2 e3 e4 e5 e6 e7
              have HNO := Lib.hid (below_new wr (.cells #[.int .i64 o2.id, .int .i64 o2.owner, .int .i64 o2.node, .int .i64 o2.weight, .int .i64 o2.volume, .int .i64 o2.frm, .int .i64 o2.to, .int .i64 o2.service] 44))
              have y0 := box_cell wr #[.int .i64 o2.id, .int .i64 o2.owner, .int .i64 o2.node, .int .i64 o2.weight, .int .i64 o2.volume, .int .i64 o2.frm, .int .i64 o2.to, .int .i64 o2.service] 44 0 _ rfl
              have ns := cell_on HNO.out (cell_on HBM.out HS1.out)
              have nst := cell_on HNO.out (cell_on HBM.out HST.out)
              have b3m := cell_on HBM.out HB3'.out
              rw [haO] at b3m
              obtain ⟨g9, h9⟩ : ∃ y, (if p < m then vlv else tm) = y := ⟨_, rfl⟩
              obtain ⟨g10, h10⟩ : ∃ y, (if p < m then o.node else nd) = y := ⟨_, rfl⟩
              obtain ⟨g11, h11⟩ : ∃ y, (if p < m then sumW (l.take (j + 1)) else sw) = y := ⟨_, rfl⟩
              obtain ⟨g12, h12'⟩ : ∃ y, (if p < m then sumV (l.take (j + 1)) else sv) = y := ⟨_, rfl⟩
              obtain ⟨g13, h13⟩ : ∃ y, (if p < m then ds + dl else ds) = y := ⟨_, rfl⟩
              have K9 := Lib.hid h9; have K10 := Lib.hid h10; have K11 := Lib.hid h11; have K12 := Lib.hid h12'; have K13 := Lib.hid h13
              rw [h9, h10, h11, h12', h13]
              have HPM := Lib.hid (show (p < m + 1) = (p < m) from propext ⟨fun h => by omega, fun h => by omega⟩)
              clear hcO h9 h10 h11 h12' h13 ho2 hpm
              go_wp2_with fail
              go_quiet (fail)
              go_wp2_with fail
              go_roundw
              case rel => exact ⟨m + 1, by omega, by go_num, by rw [← K9.out]; simp only [HPM.out], by rw [← K10.out]; simp only [HPM.out], by rw [← K11.out]; simp only [HPM.out], by rw [← K12.out]; simp only [HPM.out], by rw [← K13.out]; simp only [HPM.out], below_drewN (below_on HBM.out HNO.out) _⟩
              case measure => simp [intOf]; omega
          · obtain rfl : m = q.lO := by omega
            have hpq : p < q.lO := by rw [← HLI.out.lO]; exact HPIX.out
            rw [if_pos hpq, if_pos hpq, if_pos hpq, if_pos hpq, if_pos hpq]
            clear hpq
            go_wp2_with fail
            go_roundw
            case rel => exact ⟨j + 1, by omega, by go_num, by rw [HP'.out, HNX.out], by rw [HP'.out, HNX.out], rfl, rfl, by rw [HP'.out, HNX.out], below_on HBQ.out HBM.out⟩
            case measure => simp [intOf]; omega
      · obtain rfl : j = n1 := by omega
        have hcar := HK.out.car
        have hmay : MayAll l := fun o ho => by have := (HOO.out o ho).2.2.2; omega
        rw [carries_may hmay (by rw [HLL.out]; omega)] at hcar
        have htk : l.take j = l := List.take_of_length_le (by rw [HLL.out]; exact Nat.le_refl _)
        rw [htk]
        have hn0 : nodeB x.n 0 = true := nodeB_iff.2 (by omega)
        have lT := leg_place nv4 ⟨nv1, nv2⟩ hpl.1 hn0
        have lD := leg_place nv3 ⟨nv1, nv2⟩ hpl.1 hn0
        have rT := leg_range nv6 nv4 hpl.1 hn0
        have rD := leg_range nv5 nv3 hpl.1 hn0
        have htrip := HK.out.trip
        have hback := HK.out.back
        have hhome : homeP x.n x.D x.T l (startP tr) = (stp x tr l j).go x.n x.D x.T 0 := by unfold homeP stp; rw [HLL.out]
        rw [hhome] at htrip hback
        change PlOk x.n j (stp x tr l j) at hpl
        change 0 ≤ (stp x tr l j).node * x.n ∧ (stp x tr l j).node * x.n ≤ 256 ∧ 0 ≤ (stp x tr l j).node * x.n + 0 ∧ (stp x tr l j).node * x.n + 0 < x.T.length ∧ leg x.n x.T (stp x tr l j).node 0 = at_ x.T ((stp x tr l j).node * x.n + 0).toNat at lT
        change 0 ≤ (stp x tr l j).node * x.n ∧ (stp x tr l j).node * x.n ≤ 256 ∧ 0 ≤ (stp x tr l j).node * x.n + 0 ∧ (stp x tr l j).node * x.n + 0 < x.D.length ∧ leg x.n x.D (stp x tr l j).node 0 = at_ x.D ((stp x tr l j).node * x.n + 0).toNat at lD
        change 0 ≤ leg x.n x.T (stp x tr l j).node 0 ∧ leg x.n x.T (stp x tr l j).node 0 ≤ 1000000 at rT
        change 0 ≤ leg x.n x.D (stp x tr l j).node 0 ∧ leg x.n x.D (stp x tr l j).node 0 ≤ 1000000 at rD
        obtain ⟨P, hP⟩ : ∃ P, stp x tr l j = P := ⟨_, rfl⟩
        rw [hP] at hpl lT lD rT rD htrip hback ⊢
        obtain ⟨nd, tm, ds⟩ := P
        have hb1 : 0 ≤ tm ∧ tm ≤ 1000000 + 2010000 * (j : Int) := hpl.2.1
        have hb2 : 0 ≤ ds ∧ ds ≤ 1000000 * (j : Int) := hpl.2.2
        have hback : tm + leg x.n x.T nd 0 ≤ tr.stop := hback
        have ht1 : k1 = tm + leg x.n x.T nd 0 := congrArg TripM.back htrip
        have ht2 : d1 = ds + leg x.n x.D nd 0 := congrArg TripM.dist htrip
        have ht3 : g1 = tr.fixed + tr.rate * (ds + leg x.n x.D nd 0) := congrArg TripM.cost htrip
        dsimp only at lT lD rT rD
        rw [Int.add_zero] at lT lD
        obtain ⟨tl, htl⟩ : ∃ t, leg x.n x.T nd 0 = t := ⟨_, rfl⟩
        obtain ⟨dl, hdl⟩ : ∃ t, leg x.n x.D nd 0 = t := ⟨_, rfl⟩
        obtain ⟨nx, hnx⟩ : ∃ t, nd * x.n = t := ⟨_, rfl⟩
        rw [htl] at lT rT ht1 hback
        rw [hdl] at lD rD ht2 ht3
        rw [hnx] at lT lD
        rw [← ht2] at ht3
        have hto := HTO.out
        have hto2 : 0 ≤ tr.fixed ∧ tr.fixed ≤ 1000000 := hto.2.1
        have hpr := mul_range hto.2.2.1 (show 0 ≤ d1 ∧ d1 ≤ 13000000 by omega)
        obtain ⟨pr, hprE⟩ : ∃ t, tr.rate * d1 = t := ⟨_, rfl⟩
        rw [hprE] at hpr ht3
        have z1 : IntKind.i64.wrap nx = nx := IntWalk.i64_in _ (by omega)
        have z3 : IntKind.i64.wrap (tm + tl) = k1 := by rw [ht1]; exact IntWalk.i64_in _ (by omega)
        have z4 : IntKind.i64.wrap (ds + dl) = d1 := by rw [ht2]; exact IntWalk.i64_in _ (by omega)
        have z5 : IntKind.i64.wrap pr = pr := IntWalk.i64_in _ (by omega)
        have z6 : IntKind.i64.wrap (tr.fixed + pr) = g1 := by rw [ht3]; exact IntWalk.i64_in _ (by omega)
        have hcw : ¬ (tr.weight < sumW l ∨ tr.volume < sumV l) := fun hh => by rw [if_pos hh] at hcar; exact absurd hcar (by decide)
        obtain ⟨sw, hsw0⟩ : ∃ s, sumW l = s := ⟨_, rfl⟩
        obtain ⟨sv, hsv0⟩ : ∃ s, sumV l = s := ⟨_, rfl⟩
        rw [hsw0, hsv0] at hcw ⊢
        have y1 : decide (sw ≤ tr.weight) = true := decide_eq_true (by omega)
        have y2 : decide (sv ≤ tr.volume) = true := decide_eq_true (by omega)
        have y3 : decide (k1 ≤ tr.stop) = true := decide_eq_true (by omega)
        have LQ := Lib.hid (L6.out.on HBJ.out)
        obtain ⟨⟨b0, b1', b2', b3, b4⟩, s0, s1⟩ := LQ.out
        obtain ⟨bT, oT, haT, hcT⟩ := (((HLI.out.below H6.out).T.below HBJ.out)) (by omega)
        have hcT := hcT nx.toNat (by omega)
        rw [← lT.2.2.2.2] at hcT
        obtain ⟨bD, oD, haD, hcD⟩ := (((HLI.out.below H6.out).D.below HBJ.out)) (by omega)
        have hcD := hcD nx.toNat (by omega)
        rw [← lD.2.2.2.2] at hcD
        rw [haD] at b1'
        rw [haT] at b2'
        obtain ⟨x0, x1, x2, x3⟩ := T6.out.on HBJ.out
        obtain ⟨c0, c1', c2, c3, c4, c5, c6⟩ := HT8.out.on HBJ.out
        have hi1 : 0 ≤ nx := by have := lT.1; omega
        have hi2 : nx < (q.lT : Int) := by rw [← HLI.out.lT]; exact lT.2.2.2.1
        have hi3 : nx < (q.lD : Int) := by rw [← HLI.out.lD]; exact lD.2.2.2.1
        clear hpl lT lD rT rD htrip hback hhome hP hb1 hb2 ht1 ht2 ht3 hto hto2 hpr hcw hsw0 hsv0 hcar hmay htk hn0 htl hdl nv1 nv2 nv3 nv4 nv5 nv6 haT haD b3 b4 s0 s1 c0 c3 x0
        go_wp2_with fail
        go_quiet (fail)
        go_wp2_with fail
        go_ret
        exact ⟨rfl, below_drewN (below_on H6.out HBJ.out) _⟩
  · have hb : (e1 != 0) = true := bne_iff_ne.2 he
    clear he
    go_wp2_with fail
    go_ret
    exact ⟨rfl, below_on H3.out H34.out⟩

theorem holds_any (x : Wd) (q : Wp) (id : Int) (aS : Option Addr) (lS cS : Nat) (S : List Int) (w : World) (h : Lies w x q) (hn : Nums x) (hr : Rt w aS lS cS S) :
    Calls Try.prog 11 #[.agg (wcells x.n q), .agg #[.int .i64 id, .slice aS lS cS]] w fun e w' => e = .returned (.bool true) ∧ Below w.heap.size w w' := by
  cases hL : largeB q lS with
  | true => exact holds_short x q id aS lS cS w hL
  | false => exact holds_core x q id aS lS cS S w h hn hr hL
end Go.Proofs.Ytakiciemkecgfaa.Route

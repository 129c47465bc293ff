/-
  The plain law of RouteEarly: arriving is monotone in starting.
-/
import Derived.Test.YtakiciemkecgfaaFirst
namespace Go.Proofs.Ytakiciemkecgfaa.Route
open Go.RowKit Go.Proofs Go.Proofs.Ytakiciemkecgfaa.AreaMath Go.Proofs.Ytakiciemkecgfaa.Area Go.Proofs.Ytakiciemkecgfaa.Load
set_option maxRecDepth 100000
set_option linter.unusedVariables false

/-- a truck that starts earlier and ends later -/
def trkEL (t : Trk) (early late : Int) : Trk := ⟨t.id, t.weight, t.volume, max (t.start - early) 0, min (t.stop + late) 1000000, t.fixed, t.rate⟩
def wdEL (x : Wd) (k : Nat) (early late : Int) : Wd := ⟨x.n, x.D, x.T, x.O, x.R.set k (trkEL (trkAt x.R k) early late)⟩
theorem withinE_mk {l : List Span} (h : ∀ s ∈ l, s.low ≤ s.n ∧ s.n ≤ s.high) : withinE l = 0 := by
  unfold withinE
  rw [if_pos]
  rw [List.all_eq_true]
  intro s hs
  have := h s hs
  unfold Span.ok
  rw [decide_eq_true this.1, decide_eq_true this.2]; rfl
theorem trkEL_ok {t : Trk} {early late : Int} (h : trkE t = 0) (he : 0 ≤ early ∧ early ≤ 1000000) (hl : 0 ≤ late ∧ late ≤ 1000000) : trkE (trkEL t early late) = 0 := by
  have hs := withinE_ok h
  have s1 := hs ⟨t.id, 1, 1000000⟩ (by simp [Trk.spans])
  have s2 := hs ⟨t.start, 0, t.stop⟩ (by simp [Trk.spans])
  have s3 := hs ⟨t.stop, 0, 1000000⟩ (by simp [Trk.spans])
  have s4 := hs ⟨t.fixed, 0, 1000000⟩ (by simp [Trk.spans])
  have s5 := hs ⟨t.rate, 0, 1000⟩ (by simp [Trk.spans])
  have s6 := hs ⟨t.weight, 1, 1000000⟩ (by simp [Trk.spans])
  have s7 := hs ⟨t.volume, 1, 1000000⟩ (by simp [Trk.spans])
  dsimp only at s1 s2 s3 s4 s5 s6 s7
  refine withinE_mk fun s hs => ?_
  simp only [Trk.spans, trkEL, List.mem_cons, List.not_mem_nil, or_false] at hs
  rcases hs with rfl | rfl | rfl | rfl | rfl | rfl | rfl <;> dsimp only <;> omega
theorem trkAt_set {R : List Trk} {k j : Nat} {t : Trk} (hk : k < R.length) : trkAt (R.set k t) j = if j = k then t else trkAt R j := by
  unfold trkAt
  rw [List.getD_eq_getElem?_getD, List.getElem?_set]
  by_cases e : j = k
  · subst e; simp [hk]
  · rw [if_neg e, if_neg (fun h => e h.symm), List.getD_eq_getElem?_getD]
theorem idsT_set {R : List Trk} {k : Nat} {t : Trk} (hk : k < R.length) (h : t.id = (trkAt R k).id) : idsT (R.set k t) = idsT R := by
  unfold idsT
  rw [List.map_set, h, trkAt_get R k hk]
  have e : R[k].id = (R.map Trk.id)[k]'(by rw [List.length_map]; exact hk) := by rw [List.getElem_map]
  rw [e, List.set_getElem_self]
/-- the same place, no later -/
def PLe (p q : Place) : Prop := p.node = q.node ∧ p.dist = q.dist ∧ p.time ≤ q.time
theorem PLe.next {n : Int} {D T : List Int} {p q : Place} (h : PLe p q) (o : Ord) : PLe (nextP n D T p o) (nextP n D T q o) := by
  obtain ⟨h1, h2, h3⟩ := h
  unfold nextP beginAt
  refine ⟨rfl, ?_, ?_⟩
  · dsimp only; rw [h1, h2]
  · dsimp only; rw [h1]; omega
theorem PLe.at {n : Int} {D T : List Int} {p q : Place} (h : PLe p q) (l : List Ord) : ∀ k, k ≤ l.length → PLe (placeK n D T l p k) (placeK n D T l q k)
  | 0, _ => h
  | k + 1, hk => by
    rw [placeK_succ _ _ _ _ _ _ (by omega), placeK_succ _ _ _ _ _ _ (by omega)]
    exact (PLe.at h l k (by omega)).next _
theorem PLe.vis {n : Int} {T : List Int} {p q : Place} (h : PLe p q) (o : Ord) : (visOf n T p o).arrive ≤ (visOf n T q o).arrive ∧ (visOf n T p o).start ≤ (visOf n T q o).start ∧ (visOf n T p o).leave ≤ (visOf n T q o).leave := by
  obtain ⟨h1, h2, h3⟩ := h
  unfold visOf beginAt
  dsimp only
  rw [h1]
  omega
theorem early_law {x : Wd} {id : Int} {S : List Int} {tm : TripM} {early late : Int} (h : runR x id S = (tm, 0)) (he : 0 ≤ early ∧ early ≤ 1000000) (hl : 0 ≤ late ∧ late ≤ 1000000) :
    ∃ k : Nat, k < x.R.length ∧ truckR x.R id = k ∧ TrkOk (trkAt x.R k) ∧ tm.vs.length = S.length ∧ ∃ um, runR (wdEL x k early late) id S = (um, 0) ∧ um.vs.length = tm.vs.length ∧ um.back ≤ tm.back ∧ um.dist = tm.dist ∧ um.cost = tm.cost ∧
      ∀ j, j < tm.vs.length → (visAt um.vs j).arrive ≤ (visAt tm.vs j).arrive ∧ (visAt um.vs j).start ≤ (visAt tm.vs j).start ∧ (visAt um.vs j).leave ≤ (visAt tm.vs j).leave := by
  have hk := run_ok h
  obtain ⟨hv, hoo, hto, hp0⟩ := hk.ordOk
  rcases truckR_found x.R id with ⟨hr, _⟩ | ⟨k, hkl, hr, hid, hfirst⟩
  · have := hk.truck; omega
  have htk : (truckR x.R id).toNat = k := by rw [hr]; rfl
  rw [htk] at hk hto hp0
  obtain ⟨hv2, hwe⟩ := rworld_ok hk.world
  have hwk := worldE_ok hwe
  have htE : trkE (trkAt x.R k) = 0 := hwk.2.2.2.1 _ (by rw [trkAt_get _ _ hkl]; exact List.getElem_mem _)
  have hls : (picks x.O S).length = S.length := picks_len _ _
  refine ⟨k, hkl, hr, hto, by rw [hk.trip]; dsimp only; rw [visits_len, hls], ?_⟩
  have w1 : rworldE (wdEL x k early late) = 0 := by
    unfold rworldE wdEL
    dsimp only
    have e0 : errC x.n x.D x.T = 0 := by unfold errC; rw [hv]; rfl
    rw [if_pos e0]
    refine worldE_mk hwk.1 (by rw [List.length_set]; exact hwk.2.1) hwk.2.2.1 (fun t ht => ?_) hwk.2.2.2.2.1 (by rw [idsT_set (t := trkEL (trkAt x.R k) early late) hkl rfl]; exact hwk.2.2.2.2.2)
    rcases List.mem_or_eq_of_mem_set ht with h1 | h1
    · exact hwk.2.2.2.1 t h1
    · rw [h1]; exact trkEL_ok htE he hl
  have t1 : truckR (wdEL x k early late).R id = k := by
    refine (truckR_found _ _).same (.inr ⟨k, by unfold wdEL; rw [List.length_set]; exact hkl, rfl, ?_, fun j hj => ?_⟩)
    · unfold wdEL; rw [trkAt_set hkl, if_pos rfl]; exact hid
    · unfold wdEL; rw [trkAt_set hkl, if_neg (by omega)]; exact hfirst j hj
  rw [run_of w1 hk.len (by rw [t1]; omega) hk.ords, t1]
  have t2 : trkAt (wdEL x k early late).R (k : Int).toNat = trkEL (trkAt x.R k) early late := by
    unfold wdEL; rw [Int.toNat_natCast, trkAt_set hkl, if_pos rfl]
  have hO : (wdEL x k early late).O = x.O := rfl
  rw [t2, hO]
  have hc : carriesE (trkEL (trkAt x.R k) early late) (picks x.O S) = 0 := hk.car
  have hp : PLe (startP (trkEL (trkAt x.R k) early late)) (startP (trkAt x.R k)) := by
    refine ⟨rfl, rfl, ?_⟩
    unfold startP trkEL
    dsimp only
    have := hto.1
    omega
  have hpa := fun j hj => hp.at (n := x.n) (D := x.D) (T := x.T) (picks x.O S) j hj
  have hh : PLe (homeP x.n x.D x.T (picks x.O S) (startP (trkEL (trkAt x.R k) early late))) (homeP x.n x.D x.T (picks x.O S) (startP (trkAt x.R k))) := by
    obtain ⟨a1, a2, a3⟩ := hpa _ (Nat.le_refl _)
    unfold homeP Place.go
    exact ⟨rfl, by dsimp only; rw [a1, a2], by dsimp only; rw [a1]; omega⟩
  have hvj : ∀ j, j < (picks x.O S).length → (visK x.n x.D x.T (picks x.O S) (startP (trkEL (trkAt x.R k) early late)) j).arrive ≤ (visK x.n x.D x.T (picks x.O S) (startP (trkAt x.R k)) j).arrive ∧ (visK x.n x.D x.T (picks x.O S) (startP (trkEL (trkAt x.R k) early late)) j).start ≤ (visK x.n x.D x.T (picks x.O S) (startP (trkAt x.R k)) j).start ∧ (visK x.n x.D x.T (picks x.O S) (startP (trkEL (trkAt x.R k) early late)) j).leave ≤ (visK x.n x.D x.T (picks x.O S) (startP (trkAt x.R k)) j).leave := fun j hj =>
    (hpa j (by omega)).vis _
  have hla : lateB x.n x.D x.T (picks x.O S) (startP (trkEL (trkAt x.R k) early late)) = false := by
    refine lateB_not fun j hj => ?_
    have h3 := hk.late
    unfold lateB at h3
    rw [List.any_eq_false] at h3
    have h4 : ¬ (ordAt (picks x.O S) j).to < (visK x.n x.D x.T (picks x.O S) (startP (trkAt x.R k)) j).start := by simpa using h3 j (List.mem_range.2 hj)
    have := hvj j hj
    omega
  have hback : (homeP x.n x.D x.T (picks x.O S) (startP (trkEL (trkAt x.R k) early late))).time ≤ (trkEL (trkAt x.R k) early late).stop := by
    have h1 := hk.back
    have h2 := hh.2.2
    have h3 := hto.1
    unfold trkEL at *
    dsimp only at *
    omega
  unfold tripR
  rw [if_neg (by rw [hc]; simp)]
  have e1 : (wdEL x k early late).n = x.n := rfl
  have e2 : (wdEL x k early late).D = x.D := rfl
  have e3 : (wdEL x k early late).T = x.T := rfl
  rw [e1, e2, e3, hla, if_neg (by simp; omega)]
  refine ⟨_, rfl, ?_, ?_, ?_, ?_, ?_⟩
  · rw [hk.trip]; dsimp only; rw [visits_len, visits_len]
  · rw [hk.trip]; exact hh.2.2
  · rw [hk.trip]; exact hh.2.1
  · rw [hk.trip]; dsimp only; rw [hh.2.1]; rfl
  · intro j hj
    rw [hk.trip] at hj ⊢
    dsimp only at hj ⊢
    rw [visits_len] at hj
    rw [visits_at _ _ _ _ _ _ _ hj, visits_at _ _ _ _ _ _ _ hj]
    exact hvj j hj
theorem run_none {x : Wd} {id : Int} {S : List Int} {tm : TripM} {e : Int} (h : runR x id S = (tm, e)) (he : e ≠ 0) : tm = noTrip := by
  unfold runR tripR at h
  split at h
  · exact (Prod.mk.inj h).1.symm
  split at h
  · exact (Prod.mk.inj h).1.symm
  split at h
  · exact (Prod.mk.inj h).1.symm
  split at h
  · exact (Prod.mk.inj h).1.symm
  split at h
  · exact (Prod.mk.inj h).1.symm
  split at h
  · exact (Prod.mk.inj h).1.symm
  · exact absurd (Prod.mk.inj h).2.symm he

/-- a row of trucks, cell by cell -/
theorem newsT {w : World} {b off : Nat} {R : List Trk} (h : ReadsT w (some ⟨b, off, none⟩) R) : ∀ j u, (cellsT R)[j]? = some u → w.cell? ((⟨b, off, none⟩ : Addr).add j) = some u := by
  intro j u hu
  have hj : j < R.length * 7 := by
    have := (List.getElem?_eq_some_iff.1 hu).1
    unfold cellsT at this
    rw [flat_len (fun o : Trk => o.cells.toList) 7 (fun x => rfl)] at this
    exact this
  have hk : j / 7 < R.length := by omega
  obtain ⟨b', off', ha, hc⟩ := h (by omega)
  cases ha
  have hd : j = j / 7 * 7 + j % 7 := by omega
  have hg := flat_get (fun o : Trk => o.cells.toList) 7 trk0 (fun x => rfl) R (j / 7) (j % 7) hk (by omega)
  rw [← hd] at hg
  unfold cellsT at hu
  rw [hg, Array.getElem?_toList] at hu
  rw [Addr.add_lit]
  have := hc (j / 7) hk (j % 7) u hu
  rw [show off + j / 7 * 7 + j % 7 = off + j by omega] at this
  exact this
/-- a truck's start and end are written -/
theorem readsT_set {w : World} {g : Nat} {R : List Trk} {k : Nat} (h : ReadsT w (some ⟨g, 0, none⟩) R) (hk : k < R.length) (s e : Int) :
    ReadsT ((w.setCell ⟨g, k * 7 + 3, none⟩ (.int .i64 s)).setCell ⟨g, k * 7 + 4, none⟩ (.int .i64 e)) (some ⟨g, 0, none⟩) (R.set k ⟨(trkAt R k).id, (trkAt R k).weight, (trkAt R k).volume, s, e, (trkAt R k).fixed, (trkAt R k).rate⟩) := by
  obtain ⟨b', off', ha, hc⟩ := h (by omega)
  cases ha
  intro _
  refine ⟨g, 0, rfl, fun i hi j v hv => ?_⟩
  rw [List.length_set] at hi
  have hj : j < 7 := by
    have := (Array.getElem?_eq_some_iff.1 hv).1
    simpa [Trk.cells] using this
  rw [trkAt_set hk] at hv
  have c3 := hc k hk 3 _ rfl
  have c4 := hc k hk 4 _ rfl
  rw [Nat.zero_add] at c3 c4 ⊢
  by_cases e1 : i = k
  · subst e1
    rw [if_pos rfl] at hv
    have hci := hc i hi
    rw [Nat.zero_add] at hci
    rcases (by omega : j = 3 ∨ j = 4 ∨ (j ≠ 3 ∧ j ≠ 4)) with rfl | rfl | ⟨h3, h4⟩
    · have hv' : v = .int .i64 s := (Option.some.inj hv).symm
      rw [hv']
      exact cell_set_other (World.cell?_setCell_same w ⟨g, i * 7 + 3, none⟩ (.int .i64 s) c3) (by omega)
    · have hv' : v = .int .i64 e := (Option.some.inj hv).symm
      rw [hv']
      exact World.cell?_setCell_same _ ⟨g, i * 7 + 4, none⟩ (.int .i64 e) (cell_set_other c4 (by omega))
    · refine cell_set_other (cell_set_other (hci j v ?_) (by omega)) (by omega)
      rcases (by omega : j = 0 ∨ j = 1 ∨ j = 2 ∨ j = 5 ∨ j = 6) with rfl | rfl | rfl | rfl | rfl <;> exact hv
  · rw [if_neg e1] at hv
    have hci := hc i hi j v hv
    rw [Nat.zero_add] at hci
    exact cell_set_other (cell_set_other hci (by omega)) (by omega)
end Go.Proofs.Ytakiciemkecgfaa.Route

/-
  The plain mathematics of routes: places, visits, bounds.
-/
import Derived.Test.YtakiciemkecgfaaOwnO
namespace Go.Proofs.Ytakiciemkecgfaa.Route
open Go.RowKit Go.Proofs Go.Proofs.Ytakiciemkecgfaa.AreaMath Go.Proofs.Ytakiciemkecgfaa.Area Go.Proofs.Ytakiciemkecgfaa.Load
set_option linter.unusedVariables false

structure Vis where
  order : Int
  arrive : Int
  start : Int
  leave : Int
def Vis.cells (v : Vis) : Array Value := #[.int .i64 v.order, .int .i64 v.arrive, .int .i64 v.start, .int .i64 v.leave]
structure Place where
  node : Int
  time : Int
  dist : Int
/-- at another node -/
def Place.go (n : Int) (D T : List Int) (p : Place) (to : Int) : Place := ⟨to, p.time + leg n T p.node to, p.dist + leg n D p.node to⟩
/-- when an order begins, from a place on -/
def beginAt (n : Int) (T : List Int) (p : Place) (o : Ord) : Int := max (p.time + leg n T p.node o.node) o.frm
def visOf (n : Int) (T : List Int) (p : Place) (o : Ord) : Vis := ⟨o.id, p.time + leg n T p.node o.node, beginAt n T p o, beginAt n T p o + o.service⟩
def nextP (n : Int) (D T : List Int) (p : Place) (o : Ord) : Place := ⟨o.node, beginAt n T p o + o.service, p.dist + leg n D p.node o.node⟩
/-- where a truck is behind k orders -/
def placeK (n : Int) (D T : List Int) (l : List Ord) (p : Place) (k : Nat) : Place := (l.take k).foldl (nextP n D T) p
def visK (n : Int) (D T : List Int) (l : List Ord) (p : Place) (k : Nat) : Vis := visOf n T (placeK n D T l p k) (ordAt l k)
def visits (n : Int) (D T : List Int) (l : List Ord) (p : Place) (k : Nat) : List Vis := (List.range k).map (visK n D T l p)
theorem placeK_zero (n : Int) (D T : List Int) (l : List Ord) (p : Place) : placeK n D T l p 0 = p := rfl
theorem placeK_succ (n : Int) (D T : List Int) (l : List Ord) (p : Place) (k : Nat) (hk : k < l.length) : placeK n D T l p (k + 1) = nextP n D T (placeK n D T l p k) (ordAt l k) := by
  unfold placeK
  rw [List.take_succ_eq_append_getElem hk, List.foldl_append]
  unfold ordAt
  simp [List.getD_eq_getElem?_getD, List.getElem?_eq_getElem hk]
theorem visits_len (n : Int) (D T : List Int) (l : List Ord) (p : Place) (k : Nat) : (visits n D T l p k).length = k := by unfold visits; simp
theorem visits_succ (n : Int) (D T : List Int) (l : List Ord) (p : Place) (k : Nat) : visits n D T l p (k + 1) = visits n D T l p k ++ [visK n D T l p k] := by
  unfold visits; rw [List.range_succ, List.map_append]; rfl
def vis0 : Vis := ⟨0, 0, 0, 0⟩
def visAt (l : List Vis) (k : Nat) : Vis := l.getD k vis0
theorem visits_at (n : Int) (D T : List Int) (l : List Ord) (p : Place) (k j : Nat) (hj : j < k) : visAt (visits n D T l p k) j = visK n D T l p j := by
  unfold visAt visits
  simp [List.getD_eq_getElem?_getD, hj]

/-- an order of a world that may be -/
def OrdOk (n : Int) (o : Ord) : Prop := nodeB n o.node = true ∧ (0 ≤ o.frm ∧ o.frm ≤ o.to ∧ o.to ≤ 1000000) ∧ (0 ≤ o.service ∧ o.service ≤ 10000) ∧ (1 ≤ o.weight ∧ o.weight ≤ 1000000) ∧ (1 ≤ o.volume ∧ o.volume ≤ 1000000)
theorem ord_ok {n : Int} (h1 : 1 ≤ n) (h2 : n ≤ 16) {o : Ord} (h : ordE o n = 0) : OrdOk n o := by
  have hs := withinE_ok h
  have e : wrap64 (n - 1) = n - 1 := IntWalk.wrap64_in _ (by omega)
  have s1 := hs ⟨o.node, 1, n - 1⟩ (by simp [Ord.spans, e])
  have s2 := hs ⟨o.frm, 0, o.to⟩ (by simp [Ord.spans])
  have s3 := hs ⟨o.to, 0, 1000000⟩ (by simp [Ord.spans])
  have s4 := hs ⟨o.service, 0, 10000⟩ (by simp [Ord.spans])
  have s5 := hs ⟨o.weight, 1, 1000000⟩ (by simp [Ord.spans])
  have s6 := hs ⟨o.volume, 1, 1000000⟩ (by simp [Ord.spans])
  dsimp only at s1 s2 s3 s4 s5 s6
  exact ⟨nodeB_iff.2 (by omega), by omega, s4, s5, s6⟩
def TrkOk (t : Trk) : Prop := (0 ≤ t.start ∧ t.start ≤ t.stop ∧ t.stop ≤ 1000000) ∧ (0 ≤ t.fixed ∧ t.fixed ≤ 1000000) ∧ (0 ≤ t.rate ∧ t.rate ≤ 1000) ∧ (1 ≤ t.weight ∧ t.weight ≤ 1000000) ∧ (1 ≤ t.volume ∧ t.volume ≤ 1000000)
theorem trk_ok {t : Trk} (h : trkE t = 0) : TrkOk t := by
  have hs := withinE_ok h
  have s2 := hs ⟨t.start, 0, t.stop⟩ (by simp [Trk.spans])
  have s3 := hs ⟨t.stop, 0, 1000000⟩ (by simp [Trk.spans])
  have s4 := hs ⟨t.fixed, 0, 1000000⟩ (by simp [Trk.spans])
  have s5 := hs ⟨t.rate, 0, 1000⟩ (by simp [Trk.spans])
  have s6 := hs ⟨t.weight, 1, 1000000⟩ (by simp [Trk.spans])
  have s7 := hs ⟨t.volume, 1, 1000000⟩ (by simp [Trk.spans])
  dsimp only at s2 s3 s4 s5 s6 s7
  exact ⟨by omega, s4, s5, s6, s7⟩
/-- the numbers of a place behind k orders -/
def PlOk (n : Int) (k : Nat) (p : Place) : Prop := nodeB n p.node = true ∧ (0 ≤ p.time ∧ p.time ≤ 1000000 + 2010000 * k) ∧ (0 ≤ p.dist ∧ p.dist ≤ 1000000 * k)
theorem plOk_next {n : Int} {D T : List Int} (hv : validB n D T = true) {k : Nat} {p : Place} {o : Ord} (hp : PlOk n k p) (ho : OrdOk n o) : PlOk n (k + 1) (nextP n D T p o) := by
  obtain ⟨v1, v2, v3, v4, v5, v6⟩ := validB_iff.1 hv
  obtain ⟨h1, h2, h3⟩ := hp
  obtain ⟨o1, o2, o3, _⟩ := ho
  have r1 := leg_range v5 v3 h1 o1
  have r2 := leg_range v6 v4 h1 o1
  refine ⟨o1, ?_, ?_⟩
  · unfold nextP beginAt; dsimp only; push_cast; omega
  · unfold nextP; dsimp only; push_cast; omega
theorem plOk_at {n : Int} {D T : List Int} (hv : validB n D T = true) {l : List Ord} (ho : ∀ o ∈ l, OrdOk n o) {p : Place} (hp : PlOk n 0 p) : ∀ k, k ≤ l.length → PlOk n k (placeK n D T l p k)
  | 0, _ => hp
  | k + 1, hk => by
    rw [placeK_succ _ _ _ _ _ _ (by omega)]
    refine plOk_next hv (plOk_at hv ho hp k (by omega)) (ho _ ?_)
    unfold ordAt
    simp [List.getD_eq_getElem?_getD, List.getElem?_eq_getElem (show k < l.length by omega)]
end Go.Proofs.Ytakiciemkecgfaa.Route

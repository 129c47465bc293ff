/-
  What the row's reading tells of an area and of a list of numbers that came in.
-/
import Derived.Test.YtakiciemkecgfaaCheck
import Derived.ProofKit
import Derived.OpenShut
import Derived.Lib.SmallJoins
import Derived.Below
import Derived.SizedLaws
namespace Go.Proofs.Ytakiciemkecgfaa.Area
open Go.RowKit Go.Proofs Go.Proofs.Ytakiciemkecgfaa.AreaMath
open Go.ChangeShapes Go.WideShapes Go.ChangeAt Go.Joins
set_option linter.unusedVariables false
set_option maxRecDepth 100000

theorem wf_i64 {n : Int} (h : (Lit.int .i64 n).wf = true) : -9223372036854775808 ≤ n ∧ n ≤ 9223372036854775807 := by
  simp [Lit.wf, IntKind.min, IntKind.max, IntKind.signed, IntKind.bits] at h; omega
theorem spot_none {w : World} {x : Addr} {v : Value} (h : w.cell? x = some v) : x.spot = none := by
  unfold World.cell? at h
  split at h
  · split at h
    · cases h
    · rename_i hs; cases hx : x.spot with
      | none => rfl
      | some q => rw [hx] at hs; simp at hs
  · cases h

/-- a list of numbers: a cell that reads at a slice type -/
theorem open_list {P : Program} {H : Type} {enc : TypeId × Value → H} {w : World} {t e : TypeId} {fuel : Nat} {v : Value} {x : DataW H × List MemPlace} (ht : P.underlying t = some (.slice e)) (he : P.underlying e = some (.int .i64)) (hc : P.cellsOf e = 1)
    (h : DataW.trod enc P w 0 (fun _ => true) true fuel t [v] = some x) : ∃ a len cap L, v = .slice a len cap ∧ L.length = len ∧ ReadsI w a L ∧ len ≤ 9223372036854775807 ∧ len ≤ cap := by
  rcases open_ints ht he hc h with ⟨hcs, _⟩ | ⟨y, l, c, zs, hcs, _, hl, hm, hz, _, hcell, hwz⟩
  · cases hcs
    exact ⟨none, 0, 0, [], rfl, rfl, fun h => absurd h (by simp), by omega, Nat.le_refl _⟩
  · cases hcs
    unfold maxLen at hm
    simp only [if_true] at hz
    have hlen : (zs.take l).length = l := by rw [List.length_take]; omega
    refine ⟨some y, l, c, zs.take l, rfl, hlen, fun h0 => ?_, by omega, hl⟩
    rw [hlen] at h0
    have hs : y.spot = none := by
      have h1 := hcell 0 (by omega)
      have e0 : y.add 0 = y := by unfold Addr.add; simp
      rw [e0] at h1
      exact spot_none h1
    obtain ⟨b, off, sp⟩ := y
    cases hs
    refine ⟨b, off, rfl, fun k hk => ?_⟩
    rw [hlen] at hk
    have h1 := hcell k (by omega)
    rw [Addr.add_lit] at h1
    rw [h1]
    congr 2
    unfold at_
    simp only [List.getD_eq_getElem?_getD, List.getElem?_take]
    rw [if_pos hk]

theorem open_list_arg {P : Program} {H : Type} {enc : TypeId × Value → H} {w : World} {t e : TypeId} {v : Value} {d : DataW H} {p : List MemPlace} {r : Reach} {b : Nat} (ht : P.underlying t = some (.slice e)) (he : P.underlying e = some (.int .i64)) (hc : P.cellsOf e = 1)
    (hv : Value.okWide P w r b t v) (h : DataW.Trod enc P w 0 (fun _ => true) true t v d p) : ∃ a len cap L, v = .slice a len cap ∧ L.length = len ∧ ReadsI w a L ∧ len ≤ 9223372036854775807 ∧ len ≤ cap := by
  obtain ⟨a, len, cap, rfl⟩ := okWide_slice ht hv
  obtain ⟨fuel, hf⟩ := h
  have hf' : DataW.trod enc P w 0 (fun _ => true) true fuel t [.slice a len cap] = some (d, p) := by simpa [Value.cells] using hf
  exact open_list ht he hc hf'

/-- what is known of an area that came in -/
def AreaIn (w : World) (v : Value) : Prop := ∃ n aD lD cD aT lT cT D T, v = .agg #[.int .i64 n, .slice aD lD cD, .slice aT lT cT] ∧ D.length = lD ∧ T.length = lT ∧ ReadsI w aD D ∧ ReadsI w aT T ∧ lD ≤ 9223372036854775807 ∧ lT ≤ 9223372036854775807
theorem open_area {H : Type} {enc : TypeId × Value → H} {w : World} {v : Value} {d : DataW H} {p : List MemPlace} {r : Reach} {b : Nat}
    (hv : Value.okWide Try.prog w r b 24 v) (h : DataW.Trod enc Try.prog w 0 (fun _ => true) true 24 v d p) : AreaIn w v := by
  obtain ⟨v0, v1, v2, y0, y1, y2, n, rfl, _, _, h0, h1, h2⟩ := open_agg3 Try.underlying24 (by kernel_rfl) (by kernel_rfl) hv h
  obtain ⟨a1, l1, c1, D, rfl, i1, i2, i3, _⟩ := open_list Try.underlying22 Try.underlying2 (by kernel_rfl) h1
  obtain ⟨a2, l2, c2, T, rfl, j1, j2, j3, _⟩ := open_list Try.underlying22 Try.underlying2 (by kernel_rfl) h2
  obtain ⟨m, hm, _, _⟩ := DataW.trod_int Try.underlying3 h0
  cases hm
  exact ⟨m, a1, l1, c1, a2, l2, c2, D, T, rfl, i1, j1, i2, j2, i3, j3⟩

/-- a list that came in is no longer than the reach lets it -/
theorem sized_list {H : Type} {enc : TypeId × Value → H} {P : Program} {w : World} {t e : TypeId} {a : Option Addr} {len cap : Nat} {d : DataW H} {p : List MemPlace} {ts : List TypeId} {ds : List (DataW H)} {j : Nat}
    (hsz : (DataW.weightsEach P ts ds).all (· ≤ reachBytes) = true) (ht : ts[j]? = some t) (hd : ds[j]? = some d) (hu : P.underlying t = some (.slice e)) (he : P.underlying e = some (.int .i64)) (hc : P.cellsOf e = 1) (hB : P.bytesOf e = 8)
    (h : DataW.Trod enc P w 0 (fun _ => true) true t (.slice a len cap) d p) : len * 8 ≤ 140737488351232 := by
  obtain ⟨fuel, hf⟩ := h
  have hf' : DataW.trod enc P w 0 (fun _ => true) true fuel t [.slice a len cap] = some (d, p) := by simpa [Value.cells] using hf
  rcases open_ints hu he hc hf' with ⟨hcs, _⟩ | ⟨y, l, c, zs, hcs, _, hl, hm, hz, hx, _, _⟩
  · cases hcs; omega
  · cases hcs
    obtain ⟨hx, _⟩ := Prod.mk.inj hx
    subst hx
    simp only [if_true] at hz
    have z := sized_slice hsz ht hd hu
    rw [hB] at z
    have h1 : (lits (H := H) .i64 (zs.take len)).length + (lits (H := H) .i64 (zs.drop len)).length = zs.length := by simp [lits]; omega
    rw [h1, hz] at z
    have : reachBytes = 140737488351232 := rfl
    omega
end Go.Proofs.Ytakiciemkecgfaa.Area

/-
  The contract of area's Check, and the walks of all and Leg.
-/
import Derived.Test.YtakiciemkecgfaaCheck
namespace Go.Proofs.Ytakiciemkecgfaa.Area
open Go.RowKit Go.Proofs Go.Proofs.Ytakiciemkecgfaa.AreaMath
set_option maxRecDepth 100000
set_option linter.unusedVariables false

def errC (n : Int) (D T : List Int) : Int := if validB n D T then 0 else 1

theorem box_cell (w : World) (cs : Array Value) (t : TypeId) (k : Nat) (v : Value) (h : cs[k]? = some v) : (w.alloc (.cells cs t)).cell? ⟨w.heap.size, k, none⟩ = some v := by
  unfold World.cell?
  simp only [heap_alloc_new]
  exact h
theorem cell_on {w w1 : World} (hb : Below w.heap.size w w1) {a : Addr} {v : Value} (h : w.cell? a = some v) : w1.cell? a = some v := by
  rw [hb.cell (World.block_lt_of_cell? w _ h)]; exact h
theorem box_on {w w1 : World} {cs : Array Value} {t : TypeId} {k : Nat} {v : Value} (h : cs[k]? = some v) (hb : Below (w.heap.size + 1) (w.alloc (.cells cs t)) w1) : w1.cell? ⟨w.heap.size, k, none⟩ = some v := by
  rw [hb.cell (p := ⟨w.heap.size, k, none⟩) (Nat.lt_succ_self _)]; exact box_cell w cs t k v h
theorem check_any (n : Int) (aD aT : Option Addr) (D T : List Int) (lD lT cD cT : Nat) (w : World) (lD1 : D.length = lD) (lT1 : T.length = lT) (hD : ReadsI w aD D) (hT : ReadsI w aT T) :
    Calls Try.prog 20 #[.agg #[.int .i64 n, .slice aD lD cD, .slice aT lT cT]] w fun e w' => e = .returned (.int .i64 (errC n D T)) ∧ Below w.heap.size w w' := by
  have hno : ∀ (h : n < 1 ∨ (1 ≤ n ∧ (16 < n ∨ (n ≤ 16 ∧ (((lD : Int) != n * n) = true ∨ (((lD : Int) != n * n) = false ∧ ((lT : Int) != n * n) = true)))))), validB n D T = false := by
    intro h
    rw [← Bool.not_eq_true, validB_iff]
    rintro ⟨h1, h2, h3, h4, _⟩
    rw [lD1] at h3; rw [lT1] at h4
    rcases h with h | ⟨_, h | ⟨_, h | ⟨_, h⟩⟩⟩
    · omega
    · omega
    · rw [bne_iff_ne] at h; exact h h3
    · rw [bne_iff_ne] at h; exact h h4
  have no : ∀ (h : n < 1 ∨ (1 ≤ n ∧ (16 < n ∨ (n ≤ 16 ∧ (((lD : Int) != n * n) = true ∨ (((lD : Int) != n * n) = false ∧ ((lT : Int) != n * n) = true)))))),
      Calls Try.prog 20 #[.agg #[.int .i64 n, .slice aD lD cD, .slice aT lT cT]] w fun e w' => e = .returned (.int .i64 (errC n D T)) ∧ Below w.heap.size w w' := by
    intro h
    have hb : n * n ≤ 9223372036854775807 ∨ ¬ (1 ≤ n ∧ n ≤ 16) := by
      by_cases hc : 1 ≤ n ∧ n ≤ 16
      · left
        have := Int.mul_le_mul hc.2 hc.2 (by omega) (by omega); omega
      · exact .inr hc
    refine (check_head n aD aT lD lT cD cT w h hb).mono ?_
    rintro e w' ⟨he, hw⟩
    exact ⟨by rw [he]; unfold errC; rw [hno h]; rfl, hw⟩
  by_cases h1 : n < 1
  · exact no (.inl h1)
  by_cases h2 : 16 < n
  · exact no (.inr ⟨by omega, .inl h2⟩)
  cases h3 : ((lD : Int) != n * n) with
  | true => exact no (.inr ⟨by omega, .inr ⟨by omega, .inl h3⟩⟩)
  | false =>
    cases h4 : ((lT : Int) != n * n) with
    | true => exact no (.inr ⟨by omega, .inr ⟨by omega, .inr ⟨h3, h4⟩⟩⟩)
    | false =>
      have e3 : (lD : Int) = n * n := by simpa using h3
      have e4 : (lT : Int) = n * n := by simpa using h4
      have b1 : 0 ≤ n * n := Int.mul_nonneg (by omega) (by omega)
      have b2 : n * n ≤ 256 := by have := Int.mul_le_mul (show n ≤ 16 by omega) (show n ≤ 16 by omega) (by omega) (by omega); omega
      refine (check_loops n aD aT D T lD lT cD cT w (by omega) (by omega) h3 h4 lD1 lT1 hD hT b1 b2 (by omega) (by omega)).mono ?_
      rintro e w' ⟨he, hw⟩
      refine ⟨?_, hw⟩
      rcases he with ⟨he, g1, g2⟩ | ⟨he, g⟩
      · have : validB n D T = true := validB_iff.2 ⟨by omega, by omega, by rw [lD1]; exact e3, by rw [lT1]; exact e4, g1, g2⟩
        rw [he]; unfold errC; rw [this]; rfl
      · have : validB n D T = false := by
          rw [← Bool.not_eq_true, validB_iff]
          rintro ⟨_, _, _, _, k1, k2⟩
          rcases g with g | g
          · rw [g] at k1; cases k1
          · rw [g] at k2; cases k2
        rw [he]; unfold errC; rw [this]; rfl

/-- a contract of an area's function, from a world on -/
theorem below_on {w0 w w' : World} (h : Below w0.heap.size w0 w) (k : Below w.heap.size w w') : Below w0.heap.size w0 w' := h.trans (k.mono h.size)

set_option maxHeartbeats 1000000 in
theorem all_any (n : Int) (aD aT aL : Option Addr) (D T L : List Int) (lD lT lL cD cT cL : Nat) (w : World) (lD1 : D.length = lD) (lT1 : T.length = lT) (lL1 : L.length = lL) (hD : ReadsI w aD D) (hT : ReadsI w aT T) (hL : ReadsI w aL L) (hm : lL ≤ 9223372036854775807) :
    Calls Try.prog 45 #[.agg #[.int .i64 n, .slice aD lD cD, .slice aT lT cT], .slice aL lL cL] w fun e w' => e = .returned (.int .i64 (allE n D T L)) ∧ Below w.heap.size w w' := by
  have HB : Hid (Below w.heap.size w (w.alloc (.cells #[.int .i64 n, .slice aD lD cD, .slice aT lT cT] 24))) := (Below.refl _ _).alloc (Nat.le_refl _) _
  have HC := Lib.hid (check_any n aD aT D T lD lT cD cT _ lD1 lT1 (hD.below HB.out) (hT.below HB.out))
  have HL := Lib.hid (hL.below HB.out)
  have LL := Lib.hid lL1
  clear hD hT hL lD1 lT1 lL1
  cases hv : validB n D T with
  | false =>
    have he : (errC n D T != 0) = true := by unfold errC; rw [hv]; rfl
    have HE := Lib.hid (show errC n D T = allE n D T L by unfold errC allE; rw [hv]; rfl)
    clear hv
    go_enter Try.func45, Try.ntmps45
    go_wp2_with fail
    refine HC.out.mono ?_; rintro _ w1 ⟨rfl, hw1⟩
    go_wp2_with fail
    go_ret
    exact ⟨ret_i64 HE.out, below_on HB.out hw1⟩
  | true =>
    have he : errC n D T = 0 := by unfold errC; rw [hv]; rfl
    have HV := Lib.hid hv; clear hv
    rw [he] at HC
    go_enter Try.func45, Try.ntmps45
    go_wp2_with fail
    refine HC.out.mono ?_; rintro _ w1 ⟨rfl, hw1⟩
    have HL1 := Lib.hid (HL.out.below hw1)
    have hbox : w1.cell? ⟨w.heap.size, 0, none⟩ = some (.int .i64 n) := by
      rw [hw1.cell (p := ⟨w.heap.size, 0, none⟩) (by simp)]
      exact box_cell w _ _ 0 _ rfl
    have HB1 := Lib.hid (below_on HB.out hw1)
    clear hw1 HC HL
    go_wp2_with fail
    go_loop [15] (fun i => ∃ k : Nat, k ≤ lL ∧ i = .int .i64 k ∧ NodesTo n L k) (fun i => lL - (intOf i).toNat)
    case atStart => exact ⟨0, by omega, rfl, NodesTo.zero _ _⟩
    case round =>
      obtain ⟨k, hk, rfl, hN⟩ := hrel
      have HN := Lib.hid hN; clear hN
      by_cases hlt : k < lL
      · have hkl : k < L.length := by rw [LL.out]; exact hlt
        obtain ⟨b, off, ha, hc⟩ := HL1.out (by omega)
        subst ha
        have hcell := hc k hkl
        clear hc
        obtain ⟨x, hx⟩ : ∃ x, at_ L k = x := ⟨_, rfl⟩
        rw [hx] at hcell
        have HK := Lib.hid hkl; have HX := Lib.hid hx
        clear hkl hx
        rcases (by omega : x < 0 ∨ (0 ≤ x ∧ n ≤ x) ∨ (0 ≤ x ∧ x < n)) with g | ⟨g, g'⟩ | ⟨g, g'⟩
        · have hbad := Lib.hid (show nodeB n (at_ L k) = false by rw [HX.out, ← Bool.not_eq_true, nodeB_iff]; omega)
          have hfin := Lib.hid (show (5 : Int) = allE n D T L by unfold allE; rw [HV.out, nodesB_not HK.out hbad.out]; rfl)
          go_wp2_with fail
          go_ret
          exact ⟨ret_i64 hfin.out, HB1.out⟩
        · have hbad := Lib.hid (show nodeB n (at_ L k) = false by rw [HX.out, ← Bool.not_eq_true, nodeB_iff]; omega)
          have hfin := Lib.hid (show (5 : Int) = allE n D T L by unfold allE; rw [HV.out, nodesB_not HK.out hbad.out]; rfl)
          go_wp2_with fail
          go_ret
          exact ⟨ret_i64 hfin.out, HB1.out⟩
        · have hok := Lib.hid (show nodeB n (at_ L k) = true by rw [HX.out, nodeB_iff]; exact ⟨g, g'⟩)
          go_wp2_with fail
          go_round
          case rel => exact ⟨k + 1, by omega, by go_num, HN.out.step hok.out⟩
          case measure => simp [intOf]; omega
      · obtain rfl : k = lL := by omega
        have hfin := Lib.hid (show (0 : Int) = allE n D T L by
          have := HN.out
          rw [← LL.out] at this
          unfold allE; rw [HV.out, this.done]; rfl)
        go_wp2_with fail
        go_ret
        exact ⟨ret_i64 hfin.out, HB1.out⟩

/-- what Leg tells -/
def legE (n : Int) (D T : List Int) (x y : Int) : Int := allE n D T [x, y]
def legV (n : Int) (D T l : List Int) (x y : Int) : Int := if legE n D T x y = 0 then leg n l x y else 0

theorem allE_zero {n : Int} {D T l : List Int} : allE n D T l = 0 ↔ validB n D T = true ∧ nodesB n l = true := by
  unfold allE
  cases validB n D T <;> cases nodesB n l <;> simp
theorem legE_zero {n : Int} {D T : List Int} {x y : Int} : legE n D T x y = 0 ↔ validB n D T = true ∧ nodeB n x = true ∧ nodeB n y = true := by
  unfold legE; rw [allE_zero]; simp [nodesB]

theorem three_ret {a b c a' b' c' : Int} (h : a = a') (k : b = b') (l : c = c') : Ending.returned (.tuple #[.int .i64 a, .int .i64 b, .int .i64 c]) = .returned (.tuple #[.int .i64 a', .int .i64 b', .int .i64 c']) := by rw [h, k, l]

theorem pair_reads (w : World) (x y : Int) (t : TypeId) : ReadsI (w.alloc (.cells #[.int .i64 x, .int .i64 y] t)) (some ⟨w.heap.size, 0, none⟩) [x, y] := by
  intro _
  refine ⟨_, _, rfl, fun k hk => ?_⟩
  rw [Nat.zero_add]
  refine box_cell w _ _ k _ ?_
  simp at hk
  rcases (by omega : k = 0 ∨ k = 1) with rfl | rfl <;> rfl

set_option maxHeartbeats 1000000 in
theorem leg_any (n x y : Int) (aD aT : Option Addr) (D T : List Int) (lD lT cD cT : Nat) (w : World) (lD1 : D.length = lD) (lT1 : T.length = lT) (hD : ReadsI w aD D) (hT : ReadsI w aT T) :
    Calls Try.prog 14 #[.agg #[.int .i64 n, .slice aD lD cD, .slice aT lT cT], .int .i64 x, .int .i64 y] w fun e w' => e = .returned (.tuple #[.int .i64 (legV n D T D x y), .int .i64 (legV n D T T x y), .int .i64 (legE n D T x y)]) ∧ Below w.heap.size w w' := by
  have HB : Hid (Below w.heap.size w (w.alloc (.cells #[.int .i64 n, .slice aD lD cD, .slice aT lT cT] 24))) := (Below.refl _ _).alloc (Nat.le_refl _) _
  have HB2 : Hid (Below w.heap.size w ((w.alloc (.cells #[.int .i64 n, .slice aD lD cD, .slice aT lT cT] 24)).alloc (.cells #[.int .i64 x, .int .i64 y] 3))) := HB.out.alloc (by simp) _
  have hp := pair_reads (w.alloc (.cells #[.int .i64 n, .slice aD lD cD, .slice aT lT cT] 24)) x y 3
  have esz : (w.alloc (.cells #[.int .i64 n, .slice aD lD cD, .slice aT lT cT] 24)).heap.size = w.heap.size + 1 := by simp
  rw [esz] at hp
  have HC := Lib.hid (all_any n aD aT _ D T [x, y] lD lT 2 cD cT 2 _ lD1 lT1 rfl (hD.below HB2.out) (hT.below HB2.out) hp (by omega))
  have HD := Lib.hid hD; have HT := Lib.hid hT; have LD := Lib.hid lD1; have LT := Lib.hid lT1
  clear hD hT lD1 lT1 hp esz
  by_cases he : legE n D T x y = 0
  · have hz := legE_zero.1 he
    have hv := validB_iff.1 hz.1
    obtain ⟨v1, v2, v3, v4, v5, v6⟩ := hv
    have hx := nodeB_iff.1 hz.2.1
    have hy := nodeB_iff.1 hz.2.2
    have hpl := place_lt hz.2.1 hz.2.2
    have hb : n * n ≤ 256 := by have := Int.mul_le_mul v2 v2 (by omega) (by omega); omega
    have hxn0 : 0 ≤ x * n := Int.mul_nonneg hx.1 (by omega)
    have hxn1 : x * n ≤ 256 := by omega
    obtain ⟨b, off, ha, hcD⟩ := HD.out (by rw [LD.out]; rw [LD.out] at v3; omega)
    obtain ⟨b', off', ha', hcT⟩ := HT.out (by rw [LT.out]; rw [LT.out] at v4; omega)
    subst ha ha'
    have q1 : x * n + y < (lD : Int) := by rw [LD.out] at v3; omega
    have q2 : x * n + y < (lT : Int) := by rw [LT.out] at v4; omega
    have q0 : 0 ≤ x * n + y := hpl.1
    have hcD := hcD (place n x y) (by rw [LD.out]; unfold place; omega)
    have hcT := hcT (place n x y) (by rw [LT.out]; unfold place; omega)
    have F1 := Lib.hid (show leg n D x y = legV n D T D x y by unfold legV; rw [if_pos he])
    have F2 := Lib.hid (show leg n T x y = legV n D T T x y by unfold legV; rw [if_pos he])
    have F3 := Lib.hid (show (0 : Int) = legE n D T x y from he.symm)
    have he' : allE n D T [x, y] = 0 := he
    rw [he'] at HC
    obtain ⟨vD, hvD⟩ : ∃ vD, at_ D (place n x y) = vD := ⟨_, rfl⟩
    obtain ⟨vT, hvT⟩ : ∃ vT, at_ T (place n x y) = vT := ⟨_, rfl⟩
    rw [hvD] at hcD; rw [hvT] at hcT
    have G1 := Lib.hid hvD; have G2 := Lib.hid hvT
    have G3 := Lib.hid hcD; have G4 := Lib.hid hcT
    clear hvD hvT hcD hcT he he' hz v3 v4 v5 v6 hpl
    obtain ⟨hx0, hx1⟩ := hx
    obtain ⟨hy0, hy1⟩ := hy
    go_enter Try.func14, Try.ntmps14
    go_wp2_with fail
    refine HC.out.mono ?_; rintro _ w1 ⟨rfl, hw1⟩
    have hB3 : Below (w.heap.size + 1) (w.alloc (.cells #[.int .i64 n, .slice (some ⟨b, off, none⟩) lD cD, .slice (some ⟨b', off', none⟩) lT cT] 24)) w1 :=
      ((Below.refl _ _).alloc (by simp) _).trans (hw1.mono (by simp))
    have hbox0 := box_on (k := 0) rfl hB3
    have hbox1 := box_on (k := 1) rfl hB3
    have hbox2 := box_on (k := 2) rfl hB3
    have hbW := below_on HB2.out hw1
    have hc1 : w1.cell? ⟨b, off + (x * n + y).toNat, none⟩ = some (.int .i64 vD) := cell_on hbW G3.out
    have hc2 : w1.cell? ⟨b', off' + (x * n + y).toNat, none⟩ = some (.int .i64 vT) := cell_on hbW G4.out
    clear hB3
    have HBW := Lib.hid hbW
    clear hw1 hbW HC
    go_wp2_with fail
    go_quiet (fail)
    go_wp2_with fail
    go_ret3
    exact ⟨three_ret (G1.out.symm.trans F1.out) (G2.out.symm.trans F2.out) F3.out, below_drewN HBW.out _⟩
  · have heb : (legE n D T x y != 0) = true := bne_iff_ne.2 he
    have F1 := Lib.hid (show (0 : Int) = legV n D T D x y by unfold legV; rw [if_neg he])
    have F2 := Lib.hid (show (0 : Int) = legV n D T T x y by unfold legV; rw [if_neg he])
    have he' : Hid (allE n D T [x, y] = legE n D T x y) := rfl
    rw [he'.out] at HC
    clear he
    go_enter Try.func14, Try.ntmps14
    go_wp2_with fail
    refine HC.out.mono ?_; rintro _ w1 ⟨rfl, hw1⟩
    go_wp2_with fail
    go_ret3
    exact ⟨three_ret F1.out F2.out rfl, below_on HB2.out hw1⟩
end Go.Proofs.Ytakiciemkecgfaa.Area

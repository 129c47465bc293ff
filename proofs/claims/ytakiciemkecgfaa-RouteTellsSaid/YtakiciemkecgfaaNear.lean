/-
  The walk of area's Near.
-/
import Derived.Test.YtakiciemkecgfaaLeg
import Derived.Deep.RegionHeldLaw
import Derived.Deep.AppendLies
import Derived.Deep.Upon
import Derived.Laws.OwnMore
namespace Go.Proofs.Ytakiciemkecgfaa.Area
open Go.RowKit Go.Proofs Go.Proofs.Ytakiciemkecgfaa.AreaMath
set_option maxRecDepth 100000
set_option linter.unusedVariables false

/-- what Near tells -/
def nearE (n : Int) (D T L : List Int) (y : Int) : Int := if allE n D T (y :: L) = 0 then if 100 < L.length then 4 else if 1000000 < near n D y 1000001 L then 2 else 0 else allE n D T (y :: L)
def nearV (n : Int) (D T L : List Int) (y : Int) : Int := if nearE n D T L y = 0 then near n D y 1000001 L else 0

/-- numbers as values -/
def intsV (l : List Int) : List Value := l.map fun x => .int .i64 x
theorem intsV_one (l : List Int) : ∀ u ∈ intsV l, u.oneCell' = true := by
  intro u hu
  obtain ⟨_, _, rfl⟩ := List.mem_map.1 hu
  rfl
theorem intsV_get (l : List Int) (k : Nat) (hk : k < l.length) : (intsV l)[k]? = some (.int .i64 (at_ l k)) := by simp [intsV, at_, hk]
theorem intsV_append (l m : List Int) : intsV (l ++ m) = intsV l ++ intsV m := by simp [intsV]
theorem news_of {w : World} {b off : Nat} {l : List Int} (h : ReadsI w (some ⟨b, off, none⟩) l) : ∀ j u, (intsV l)[j]? = some u → w.cell? ((⟨b, off, none⟩ : Addr).add j) = some u := by
  intro j u hu
  have hj : j < l.length := by
    have := (List.getElem?_eq_some_iff.1 hu).1
    simpa [intsV] using this
  obtain ⟨b', off', ha, hc⟩ := h (by omega)
  cases ha
  rw [Addr.add_lit, hc j hj, ← hu, intsV_get l j hj]
theorem reads_own {w : World} {base t g n cap : Nat} {c : List Int} (h : w.ownsRow base t 1 (.slice (some ⟨g, 0, none⟩) n cap) n (intsV c)) (hl : c.length = n) : ReadsI w (some ⟨g, 0, none⟩) c := by
  refine fun _ => ⟨g, 0, rfl, fun k hk => ?_⟩
  rw [Nat.zero_add, h.cellAt k (by omega), intsV_get c k hk]
theorem info3 : (Try.prog.info? 3).map (fun i => (i.zero, i.size, i.bytes)) = some (some (.int .i64 0), 1, 8) := by kernel_rfl

theorem two_ret {a b a' b' : Int} (h : a = a') (k : b = b') : Ending.returned (.tuple #[.int .i64 a, .int .i64 b]) = .returned (.tuple #[.int .i64 a', .int .i64 b']) := by rw [h, k]
/-- the three cells of an area's box -/
def BoxS (b : Nat) (n : Int) (sD sT : Value) (w' : World) : Prop := w'.cell? ⟨b, 0, none⟩ = some (.int .i64 n) ∧ w'.cell? ⟨b, 1, none⟩ = some sD ∧ w'.cell? ⟨b, 2, none⟩ = some sT
theorem BoxS.on {w w1 : World} {b : Nat} {n : Int} {sD sT : Value} (h : BoxS b n sD sT w) (hb : Below w.heap.size w w1) : BoxS b n sD sT w1 := ⟨cell_on hb h.1, cell_on hb h.2.1, cell_on hb h.2.2⟩
theorem near_append {n y : Int} {aD aT : Option Addr} {D T L : List Int} {lD lT lL cD cT : Nat} {w : World} (lD1 : D.length = lD) (lT1 : T.length = lT) (lL1 : L.length = lL) (hD : ReadsI w aD D) (hT : ReadsI w aT T) (hm : lL ≤ 200)
    {g cap : Nat} {w2 : World} (hown : w2.ownsRow w.heap.size 3 1 (.slice (some ⟨g, 0, none⟩) (1 + lL) cap) (1 + lL) ([.int .i64 y] ++ intsV L))
    (hgrow : World.grownBy (((w.alloc (.cells #[.int .i64 n, .slice aD lD cD, .slice aT lT cT] 24)).alloc (.cells #[.int .i64 y] 3)).drew) w2 (some (w.heap.size + 1))) :
    Calls Try.prog 45 #[.agg #[.int .i64 n, .slice aD lD cD, .slice aT lT cT], .slice (some ⟨g, 0, none⟩) (1 + lL) cap] w2 (fun e w' => e = .returned (.int .i64 (allE n D T (y :: L))) ∧ Below w2.heap.size w2 w') ∧
    BoxS w.heap.size n (.slice aD lD cD) (.slice aT lT cT) w2 ∧ Below w.heap.size w w2 := by
  have hB : Below w.heap.size w w2 :=
    ((((Below.refl _ w).alloc (Nat.le_refl _) _).alloc (by simp) _).drew).grown hgrow (by show _ ≤ (World.heap _).size; simp; omega) (fun k hk => by cases hk; omega)
  have hB1 : Below (w.heap.size + 1) (w.alloc (.cells #[.int .i64 n, .slice aD lD cD, .slice aT lT cT] 24)) w2 :=
    (((Below.refl _ _).alloc (by simp) _).drew).grown hgrow (by show _ ≤ (World.heap _).size; simp) (fun k hk => by cases hk; omega)
  exact ⟨all_any n aD aT _ D T (y :: L) lD lT (1 + lL) cD cT cap w2 lD1 lT1 (by simp [lL1]; omega) (hD.below hB) (hT.below hB) (reads_own hown (by simp [lL1]; omega)) (by omega), ⟨box_on (k := 0) rfl hB1, box_on (k := 1) rfl hB1, box_on (k := 2) rfl hB1⟩, hB⟩
theorem near_own (w : World) (cs : Array Value) (y : Int) : (((w.alloc (.cells cs 24)).alloc (.cells #[.int .i64 y] 3)).drew).ownsRow w.heap.size 3 1 (.slice (some ⟨w.heap.size + 1, 0, none⟩) 1 1) 1 [.int .i64 y] := by
  have h := World.ownsRow_lit (base := w.heap.size) (e := 3) (size := 1) (w.alloc (.cells cs 24)) #[.int .i64 y] 1 (by simp) (by decide) rfl
  rw [World.size_alloc] at h
  exact h.drew

set_option maxHeartbeats 2000000 in
theorem near_walk (n y : Int) (aD aT : Option Addr) (b off : Nat) (D T L : List Int) (lD lT lL cD cT cL : Nat) (w : World) (lD1 : D.length = lD) (lT1 : T.length = lT) (lL1 : L.length = lL) (hD : ReadsI w aD D) (hT : ReadsI w aT T) (hL : ReadsI w (some ⟨b, off, none⟩) L) (hm : lL ≤ 200) (h0 : 0 < lL) :
    Calls Try.prog 18 #[.agg #[.int .i64 n, .slice aD lD cD, .slice aT lT cT], .int .i64 y, .slice (some ⟨b, off, none⟩) lL cL] w fun e w' => e = .returned (.tuple #[.int .i64 (nearV n D T L y), .int .i64 (nearE n D T L y)]) ∧ Below w.heap.size w w' := by
  have HD := Lib.hid hD; have HT := Lib.hid hT; have HL := Lib.hid hL
  have LD := Lib.hid lD1; have LT := Lib.hid lT1; have LL := Lib.hid lL1
  clear hD hT hL lD1 lT1 lL1
  go_enter Try.func18, Try.ntmps18
  go_wp2_with fail
  obtain ⟨e, hae⟩ : ∃ e, allE n D T (y :: L) = e := ⟨_, rfl⟩
  have HE := Lib.hid hae; clear hae
  obtain ⟨i0, hi, hz0, hz1, hz2⟩ := info_parts info3
  have HI := Lib.hid hi; have HZ0 := Lib.hid hz0; have HZ1 := Lib.hid hz1; have HZ2 := Lib.hid hz2
  clear hi hz0 hz1 hz2
  have hb3 : Below w.heap.size w (((w.alloc (.cells #[.int .i64 n, .slice aD lD cD, .slice aT lT cT] 24)).alloc (.cells #[.int .i64 y] 3)).drew) := (((Below.refl _ w).alloc (Nat.le_refl _) _).alloc (by simp) _).drew
  have C1 := Lib.hid (show (intsV L).length = lL * 1 by simp [intsV, LL.out])
  have C2 := Lib.hid (news_of (HL.out.below hb3))
  have C3 := Lib.hid (show w.heap.size ≤ (((w.alloc (.cells #[.int .i64 n, .slice aD lD cD, .slice aT lT cT] 24)).alloc (.cells #[.int .i64 y] 3)).drew).heap.size by show _ ≤ (World.heap _).size; simp; omega)
  have C4 := Lib.hid (show (((w.alloc (.cells #[.int .i64 n, .slice aD lD cD, .slice aT lT cT] 24)).alloc (.cells #[.int .i64 y] 3)).drew).heap.size = w.heap.size + 2 by show (World.heap _).size = _; simp)
  have OWN := Lib.hid (near_own w #[.int .i64 n, .slice aD lD cD, .slice aT lT cT] y)
  have c0 := box_cell w #[.int .i64 n, .slice aD lD cD, .slice aT lT cT] 24 0 _ rfl
  have c1 := box_cell w #[.int .i64 n, .slice aD lD cD, .slice aT lT cT] 24 1 _ rfl
  have c2 := box_cell w #[.int .i64 n, .slice aD lD cD, .slice aT lT cT] 24 2 _ rfl
  clear hb3
  go_region_held_law (fun w' => w'.cell? ⟨w.heap.size, 0, none⟩ = some (.int .i64 n) ∧ w'.cell? ⟨w.heap.size, 1, none⟩ = some (.slice aD lD cD) ∧ w'.cell? ⟨w.heap.size, 2, none⟩ = some (.slice aT lT cT))
    (first | go_keep | exact HS3.out | exact HS2.out)
    (first
      | (refine step_append_lies _ rfl _ _ 25 rfl w.heap.size 3 i0 (.int .i64 0) 1 8 Try.underlying25 HI.out HZ0.out HZ1.out HZ2.out rfl (by decide) _ 1 [.int .i64 y] rfl OWN.out _ lL cL (intsV L) rfl C1.out C2.out (intsV_one L) (by omega) (by unfold maxLen; omega) (by omega) C3.out (w.heap.size + 2) C4.out ?_; intro g cap' w2 hown hgrow hat hlt; have HC := Lib.hid (near_append LD.out LT.out LL.out HD.out HT.out hm hown hgrow).1; rw [HE.out] at HC; have HS2 := Lib.hid (near_append LD.out LT.out LL.out HD.out HT.out hm hown hgrow).2.1; have HB2 := Lib.hid (near_append LD.out LT.out LL.out HD.out HT.out hm hown hgrow).2.2; clear hown hgrow hat hlt)
      | (go_at_call 45; refine HC.out.mono ?_; rintro _ w3 ⟨rfl, h3⟩; have HS3 := Lib.hid (HS2.out.on h3); have HB3 := Lib.hid (below_on HB2.out h3); clear h3))
  clear OWN HI HZ0 HZ1 HZ2 C1 C2 C3 C4 c0 c1 c2 HC HS2 HB2
  by_cases he : e = 0
  · subst he
    have hz := allE_zero.1 HE.out
    obtain ⟨v1, v2, v3, v4, v5, v6⟩ := validB_iff.1 hz.1
    have hzn := hz.2
    simp only [nodesB, List.all_cons, Bool.and_eq_true] at hzn
    have HN : Hid (nodesB n L = true) := hzn.2
    have HY : Hid (nodeB n y = true) := hzn.1
    have hy := nodeB_iff.1 HY.out
    obtain ⟨hy0, hy1⟩ := hy
    have V3 := Lib.hid v3; have V5 := Lib.hid v5
    clear v3 v4 v5 v6 hz hzn
    by_cases hle : lL ≤ 100
    · have hp : 0 < n * n := Int.mul_pos (by omega) (by omega)
      have hnn : n * n ≤ 256 := by have := Int.mul_le_mul v2 v2 (by omega) (by omega); omega
      obtain ⟨bD, offD, haD, hcD⟩ := HD.out (by have := V3.out; omega)
      subst haD
      have HCD := Lib.hid hcD; clear hcD
      have hlD : (lD : Int) = n * n := by have := V3.out; have := LD.out; omega
      obtain ⟨hs0, hs1, hs2⟩ := HS3.out
      have HL3 := Lib.hid (HL.out.below HB3.out)
      go_wp2_with fail
      go_loop [26, 9] (fun i x => ∃ k : Nat, k ≤ lL ∧ i = .int .i64 k ∧ x = .int .i64 (near n D y 1000001 (L.take k))) (fun i x => lL - (intOf i).toNat)
      case atStart => exact ⟨0, by omega, rfl, rfl⟩
      case round =>
        obtain ⟨k, hk, rfl, rfl⟩ := hrel
        by_cases hlt : k < lL
        · have hkl : k < L.length := by rw [LL.out]; exact hlt
          obtain ⟨bL, offL, haL, hcL⟩ := HL3.out (by omega)
          cases haL
          have hcell := hcL k hkl
          have hnx : nodeB n (at_ L k) = true := nodesB_at HN.out k hkl
          have HT1 := Lib.hid (near_snoc n D y 1000001 (L.take k) (at_ L k))
          rw [← take_snoc L k hkl] at HT1
          obtain ⟨x, hx⟩ : ∃ x, at_ L k = x := ⟨_, rfl⟩
          rw [hx] at hcell hnx HT1
          obtain ⟨hx0, hx1⟩ := nodeB_iff.1 hnx
          have hpl := place_lt hnx HY.out
          have hxn0 : 0 ≤ x * n := Int.mul_nonneg hx0 (by omega)
          have hxn1 : x * n ≤ 256 := by omega
          have q0 : 0 ≤ x * n + y := hpl.1
          have q1 : x * n + y < (lD : Int) := by omega
          have hcD : w3.cell? ⟨bD, offD + (x * n + y).toNat, none⟩ = some (.int .i64 (leg n D x y)) := cell_on HB3.out (HCD.out (place n x y) (by rw [LD.out]; unfold place; omega))
          obtain ⟨u, hu⟩ : ∃ u, near n D y 1000001 (L.take k) = u := ⟨_, rfl⟩
          obtain ⟨v, hv⟩ : ∃ v, leg n D x y = v := ⟨_, rfl⟩
          rw [hv] at hcD; rw [hu, hv] at HT1; rw [hu]
          clear hx hv hu hkl hnx hpl hcL
          by_cases hxy : x = y
          · subst hxy
            rw [if_pos rfl] at HT1
            go_wp2_with fail
            go_round
            case rel => exact ⟨k + 1, by omega, by go_num, by rw [HT1.out]⟩
            case measure => simp [intOf]; omega
          · rw [if_neg hxy] at HT1
            have hxb : (x != y) = true := bne_iff_ne.2 hxy
            go_wp2_with fail
            go_round
            case rel => exact ⟨k + 1, by omega, by go_num, by rw [HT1.out]; exact congrArg (Value.int .i64) (by rw [Int.min_def]; split <;> split <;> omega)⟩
            case measure => simp [intOf]; omega
        · obtain rfl : k = lL := by omega
          have hU : near n D y 1000001 (L.take k) = near n D y 1000001 L := by rw [← LL.out, List.take_length]
          obtain ⟨u, hu⟩ : ∃ u, near n D y 1000001 L = u := ⟨_, rfl⟩
          rw [hU, hu]
          clear hU
          by_cases hg : 1000000 < u
          · have hF : nearE n D T L y = 2 := by unfold nearE; rw [if_pos HE.out, if_neg (by rw [LL.out]; omega), hu, if_pos hg]
            have F2 := Lib.hid hF.symm
            have F1 := Lib.hid (show (0 : Int) = nearV n D T L y by unfold nearV; rw [if_neg (by rw [hF]; decide)])
            clear hF hu
            go_wp2_with fail
            go_ret2
            exact ⟨two_ret F1.out F2.out, HB3.out⟩
          · have hF : nearE n D T L y = 0 := by unfold nearE; rw [if_pos HE.out, if_neg (by rw [LL.out]; omega), hu, if_neg hg]
            have F2 := Lib.hid hF.symm
            have F1 := Lib.hid (show u = nearV n D T L y by unfold nearV; rw [if_pos hF, hu])
            clear hF hu
            go_wp2_with fail
            go_ret2
            exact ⟨two_ret F1.out F2.out, HB3.out⟩
    · have hF : nearE n D T L y = 4 := by unfold nearE; rw [if_pos HE.out, if_pos (by rw [LL.out]; omega)]
      have F2 := Lib.hid hF.symm
      have F1 := Lib.hid (show (0 : Int) = nearV n D T L y by unfold nearV; rw [if_neg (by rw [hF]; decide)])
      have hgt : 100 < (lL : Int) := by omega
      clear hF
      go_wp2_with fail
      go_ret2
      exact ⟨two_ret F1.out F2.out, HB3.out⟩
  · have hF : nearE n D T L y = e := by unfold nearE; rw [if_neg (by rw [HE.out]; exact he), HE.out]
    have F2 := Lib.hid hF.symm
    have F1 := Lib.hid (show (0 : Int) = nearV n D T L y by unfold nearV; rw [if_neg (by rw [hF]; exact he)])
    have heb : (e != 0) = true := bne_iff_ne.2 he
    clear hF
    go_wp2_with fail
    go_ret2
    exact ⟨two_ret F1.out F2.out, HB3.out⟩

/-- nothing is appended: at a step of a region that draws -/
theorem run_append_zero {P : Program} (w : World) (t ty e : TypeId) (i : TypeInfo) (ht : P.underlying t = some (.slice e)) (hi : P.info? e = some i) (base ao : Option Addr) (sLen sCap c : Nat) (hle : sLen ≤ sCap) :
    (Builtin.append_ #[t, t] ty #[.slice base sLen sCap, .slice ao 0 c]).run P w = .ok (.slice base sLen sCap) w :=
  run_append_nothing w t t ty e i ht hi base sLen sCap hle _ (by
    cases ao with
    | none => exact Src.ofNil w ht c
    | some a => exact Src.ofSlice w ht a 0 c [] (by simp) (by intro j u h; simp at h) (by simp))
theorem wp_append_zero {P : Program} (w : World) {o : Oper} {a : Act} {K : Act → World → Prop} {Q : Exit → Act → World → Prop} (s x : Operand) (t : TypeId)
    (ho : o.op = .call { callee := .builtin .append, args := #[s, x], argTypes := #[t, t] }) (e : TypeId) (i : TypeInfo) (ht : P.underlying t = some (.slice e)) (hi : P.info? e = some i)
    (base ao : Option Addr) (sLen sCap c : Nat) (hle : sLen ≤ sCap) (hs : a.eval s = .slice base sLen sCap) (hx : a.eval x = .slice ao 0 c) (h : K (a.put o.dst (.slice base sLen sCap)) w) : o.wp P a w K Q := by
  have hr := run_append_zero (P := P) w t o.type e i ht hi base ao sLen sCap c hle
  unfold Oper.wp execOp
  simp only [ho, resolve, invoke, builtin, Sem.run_bind, Sem.run_pure, Result.andThen_ok, List.map_toArray, List.map_cons, List.map_nil, hs, hx, hr]
  exact h
theorem step_append_zero {P : Program} (w : World) {ops : Array Oper} {o : Oper} {a : Act} {K : Act → World → Prop} {Q : Exit → Act → World → Prop} {E : Prop} (hgd : o.guard = none) (s x : Operand) (t : TypeId)
    (ho : o.op = .call { callee := .builtin .append, args := #[s, x], argTypes := #[t, t] }) (e : TypeId) (i : TypeInfo) (ht : P.underlying t = some (.slice e)) (hi : P.info? e = some i)
    (base ao : Option Addr) (sLen sCap c : Nat) (hle : sLen ≤ sCap) (hs : a.eval s = .slice base sLen sCap) (hx : a.eval x = .slice ao 0 c) (h : K (a.put o.dst (.slice base sLen sCap)) w) :
    if Region.wanted o (yielded ops a.tmps) = true then Oper.wp P o a w K Q else E := by
  have hw : Region.wanted o (yielded ops a.tmps) = true := by simp [Region.wanted, hgd]
  rw [if_pos hw]
  exact wp_append_zero w s x t ho e i ht hi base ao sLen sCap c hle hs hx h

theorem near_call0 {n y : Int} {aD aT : Option Addr} {D T : List Int} {lD lT cD cT : Nat} {w : World} (lD1 : D.length = lD) (lT1 : T.length = lT) (hD : ReadsI w aD D) (hT : ReadsI w aT T) :
    Calls Try.prog 45 #[.agg #[.int .i64 n, .slice aD lD cD, .slice aT lT cT], .slice (some ⟨w.heap.size + 1, 0, none⟩) 1 1] (((w.alloc (.cells #[.int .i64 n, .slice aD lD cD, .slice aT lT cT] 24)).alloc (.cells #[.int .i64 y] 3)).drew)
      (fun e w' => e = .returned (.int .i64 (allE n D T [y])) ∧ (w'.cell? ⟨w.heap.size, 0, none⟩ = some (.int .i64 n) ∧ w'.cell? ⟨w.heap.size, 1, none⟩ = some (.slice aD lD cD) ∧ w'.cell? ⟨w.heap.size, 2, none⟩ = some (.slice aT lT cT)) ∧ Below w.heap.size w w') := by
  have hB : Below w.heap.size w (((w.alloc (.cells #[.int .i64 n, .slice aD lD cD, .slice aT lT cT] 24)).alloc (.cells #[.int .i64 y] 3)).drew) := (((Below.refl _ w).alloc (Nat.le_refl _) _).alloc (by simp) _).drew
  have hB1 : Below (w.heap.size + 1) (w.alloc (.cells #[.int .i64 n, .slice aD lD cD, .slice aT lT cT] 24)) (((w.alloc (.cells #[.int .i64 n, .slice aD lD cD, .slice aT lT cT] 24)).alloc (.cells #[.int .i64 y] 3)).drew) := ((Below.refl _ _).alloc (by simp) _).drew
  have hr := reads_own (c := [y]) (near_own w #[.int .i64 n, .slice aD lD cD, .slice aT lT cT] y) rfl
  refine (all_any n aD aT _ D T [y] lD lT 1 cD cT 1 _ lD1 lT1 rfl (hD.below hB) (hT.below hB) hr (by omega)).mono ?_
  rintro _ w3 ⟨rfl, h3⟩
  have hs : BoxS w.heap.size n (.slice aD lD cD) (.slice aT lT cT) (((w.alloc (.cells #[.int .i64 n, .slice aD lD cD, .slice aT lT cT] 24)).alloc (.cells #[.int .i64 y] 3)).drew) := ⟨box_on (k := 0) rfl hB1, box_on (k := 1) rfl hB1, box_on (k := 2) rfl hB1⟩
  exact ⟨rfl, hs.on h3, below_on hB h3⟩

set_option maxHeartbeats 2000000 in
theorem near_empty (n y : Int) (aD aT aL : Option Addr) (D T : List Int) (lD lT cD cT cL : Nat) (w : World) (lD1 : D.length = lD) (lT1 : T.length = lT) (hD : ReadsI w aD D) (hT : ReadsI w aT T) :
    Calls Try.prog 18 #[.agg #[.int .i64 n, .slice aD lD cD, .slice aT lT cT], .int .i64 y, .slice aL 0 cL] w fun e w' => e = .returned (.tuple #[.int .i64 (nearV n D T [] y), .int .i64 (nearE n D T [] y)]) ∧ Below w.heap.size w w' := by
  have HC := Lib.hid (near_call0 (n := n) (y := y) (cD := cD) (cT := cT) lD1 lT1 hD hT)
  clear hD hT lD1 lT1
  obtain ⟨e, hae⟩ : ∃ e, allE n D T [y] = e := ⟨_, rfl⟩
  have HE := Lib.hid hae
  rw [hae] at HC; clear hae
  obtain ⟨i0, hi, hz0, hz1, hz2⟩ := info_parts info3
  have HI := Lib.hid hi
  clear hi hz0 hz1 hz2
  have c0 := box_cell w #[.int .i64 n, .slice aD lD cD, .slice aT lT cT] 24 0 _ rfl
  have c1 := box_cell w #[.int .i64 n, .slice aD lD cD, .slice aT lT cT] 24 1 _ rfl
  have c2 := box_cell w #[.int .i64 n, .slice aD lD cD, .slice aT lT cT] 24 2 _ rfl
  go_enter Try.func18, Try.ntmps18
  go_wp2_with fail
  go_region_held_law (fun w' => w'.cell? ⟨w.heap.size, 0, none⟩ = some (.int .i64 n) ∧ w'.cell? ⟨w.heap.size, 1, none⟩ = some (.slice aD lD cD) ∧ w'.cell? ⟨w.heap.size, 2, none⟩ = some (.slice aT lT cT))
    (first | go_keep | exact HS3.out)
    (first
      | (refine step_append_zero _ rfl _ _ 25 rfl 3 i0 Try.underlying25 HI.out _ aL 1 1 cL (by decide) rfl rfl ?_)
      | (go_at_call 45; refine HC.out.mono ?_; rintro _ w3 ⟨rfl, hs3, hb3⟩; have HS3 := Lib.hid hs3; have HB3 := Lib.hid hb3; clear hs3 hb3))
  clear HC c0 c1 c2 HI HS3
  by_cases he : e = 0
  · subst he
    have hF : nearE n D T [] y = 2 := by unfold nearE; rw [if_pos HE.out]; rfl
    have F2 := Lib.hid hF.symm
    have F1 := Lib.hid (show (0 : Int) = nearV n D T [] y by unfold nearV; rw [if_neg (by rw [hF]; decide)])
    clear hF
    go_wp2_with fail
    go_loop [26, 9] (fun i x => i = .int .i64 0 ∧ x = .int .i64 1000001) (fun i x => 0)
    case atStart => exact ⟨rfl, rfl⟩
    case round =>
      obtain ⟨rfl, rfl⟩ := hrel
      go_wp2_with fail
      go_ret2
      exact ⟨two_ret F1.out F2.out, HB3.out⟩
  · have hF : nearE n D T [] y = e := by unfold nearE; rw [if_neg (by rw [HE.out]; exact he), HE.out]
    have F2 := Lib.hid hF.symm
    have F1 := Lib.hid (show (0 : Int) = nearV n D T [] y by unfold nearV; rw [if_neg (by rw [hF]; exact he)])
    have heb : (e != 0) = true := bne_iff_ne.2 he
    clear hF
    go_wp2_with fail
    go_ret2
    exact ⟨two_ret F1.out F2.out, HB3.out⟩

theorem near_any (n y : Int) (aD aT aL : Option Addr) (D T L : List Int) (lD lT lL cD cT cL : Nat) (w : World) (lD1 : D.length = lD) (lT1 : T.length = lT) (lL1 : L.length = lL) (hD : ReadsI w aD D) (hT : ReadsI w aT T) (hL : ReadsI w aL L) (hm : lL ≤ 200) :
    Calls Try.prog 18 #[.agg #[.int .i64 n, .slice aD lD cD, .slice aT lT cT], .int .i64 y, .slice aL lL cL] w fun e w' => e = .returned (.tuple #[.int .i64 (nearV n D T L y), .int .i64 (nearE n D T L y)]) ∧ Below w.heap.size w w' := by
  by_cases h0 : 0 < lL
  · obtain ⟨b, off, ha, _⟩ := hL (by omega)
    subst ha
    exact near_walk n y aD aT b off D T L lD lT lL cD cT cL w lD1 lT1 lL1 hD hT hL hm h0
  · obtain rfl : lL = 0 := by omega
    obtain rfl : L = [] := List.eq_nil_of_length_eq_zero lL1
    exact near_empty n y aD aT aL D T lD lT cD cT cL w lD1 lT1 hD hT
end Go.Proofs.Ytakiciemkecgfaa.Area

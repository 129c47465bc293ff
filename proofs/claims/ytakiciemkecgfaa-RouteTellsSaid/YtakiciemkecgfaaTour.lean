/-
  The walk of area's Tour.
-/
import Derived.Test.YtakiciemkecgfaaLegs
import Derived.Test.YtakiciemkecgfaaRound
namespace Go.Proofs.Ytakiciemkecgfaa.Area
open Go.RowKit Go.Shelf Go.Proofs Go.Proofs.Ytakiciemkecgfaa.AreaMath Go.Proofs.Ytakiciemkecgfaa.Round
set_option maxRecDepth 100000
set_option linter.unusedVariables false
attribute [local go_sem] Oper.semAt_some

/-- what Tour tells -/
def tourE (n : Int) (D T L : List Int) : Int := if allE n D T L = 0 then if 100 < L.length then 4 else 0 else allE n D T L
def tourV (n : Int) (D T L l : List Int) : Int := if tourE n D T L = 0 then tour n l 0 L else 0

/-- a box that holds a number -/
def Holds (b : Nat) (x : Int) (W : World) : Prop := W.cell? ⟨b, 0, none⟩ = some (.int .i64 x) ∧ W.frozen? ⟨b, 0, none⟩ = false
/-- the area in its box -/
def Boxes (b : Nat) (n : Int) (sD sT : Value) (W : World) : Prop := W.cell? ⟨b, 0, none⟩ = some (.int .i64 n) ∧ W.cell? ⟨b, 1, none⟩ = some sD ∧ W.cell? ⟨b, 2, none⟩ = some sT

theorem Holds.own (b : Nat) {β : Type} (f : β → Int) : Own (fun (s : β) W => Holds b (f s) W) := fun s A B row hs hg hr => ⟨cell_kept hs.1 hg hr, (frozen_kept hs.1 hg hr).trans hs.2⟩
theorem Boxes.own (b : Nat) (n : Int) (sD sT : Value) {β : Type} : Own (fun (_ : β) W => Boxes b n sD sT W) := fun s A B row hs hg hr => ⟨cell_kept hs.1 hg hr, cell_kept hs.2.1 hg hr, cell_kept hs.2.2 hg hr⟩
def vals {n : Int} (pre : List (PN n)) : List (Int × Int) := pre.map Subtype.val
theorem vals_snoc {n : Int} (pre : List (PN n)) (x : PN n) : vals (pre ++ [x]) = vals pre ++ [x.1] := by simp [vals]
theorem sumLegs_vals {n : Int} {D : List Int} (h : listB n D = true) (hl : (D.length : Int) = n * n) (pre : List (PN n)) : 0 ≤ sumLegs n D (vals pre) ∧ sumLegs n D (vals pre) ≤ 1000000 * (pre.length : Int) := by
  induction pre with
  | nil => simp [vals, sumLegs]
  | cons p l ih =>
    have := leg_range h hl p.2.1 p.2.2
    unfold vals at *
    simp only [List.map_cons, sumLegs, List.length_cons]; omega
theorem sumLegs_all {n : Int} {D L : List Int} {pre : List (PN n)} (h : CameAll n L pre) : sumLegs n D (vals pre) = tour n D 0 L := by
  unfold CameAll at h; unfold vals
  rw [h, sumLegs_snoc, sumLegs_steps, tour_path]
theorem sumLegs_next {n : Int} (D : List Int) (pre : List (PN n)) (x : PN n) : sumLegs n D (vals (pre ++ [x])) = sumLegs n D (vals pre) + leg n D x.1.1 x.1.2 := by
  rw [vals_snoc, sumLegs_snoc]

set_option maxHeartbeats 4000000 in
theorem tour_loop (n : Int) (b b' off off' : Nat) (aL : Option Addr) (D T L : List Int) (lD lT lL cD cT cL : Nat) (w : World)
    (hv : allE n D T L = 0) (hle : lL ≤ 100) (lD1 : D.length = lD) (lT1 : T.length = lT) (lL1 : L.length = lL)
    (hD : ReadsI w (some ⟨b, off, none⟩) D) (hT : ReadsI w (some ⟨b', off', none⟩) T) (hL : ReadsI w aL L)
    (HC : Hid (Calls Try.prog 45 #[.agg #[.int .i64 n, .slice (some ⟨b, off, none⟩) lD cD, .slice (some ⟨b', off', none⟩) lT cT], .slice aL lL cL] (w.alloc (.cells #[.int .i64 n, .slice (some ⟨b, off, none⟩) lD cD, .slice (some ⟨b', off', none⟩) lT cT] 24)) fun e w' => e = .returned (.int .i64 0) ∧ Below (w.heap.size + 1) (w.alloc (.cells #[.int .i64 n, .slice (some ⟨b, off, none⟩) lD cD, .slice (some ⟨b', off', none⟩) lT cT] 24)) w')) :
    Calls Try.prog 16 #[.agg #[.int .i64 n, .slice (some ⟨b, off, none⟩) lD cD, .slice (some ⟨b', off', none⟩) lT cT], .slice aL lL cL] w fun e w' => e = .returned (.tuple #[.int .i64 (tour n D 0 L), .int .i64 (tour n T 0 L), .int .i64 0]) ∧ Below w.heap.size w w' := by
  have HV := Lib.hid hv
  have HD := Lib.hid hD; have HT := Lib.hid hT; have HL := Lib.hid hL
  have LD := Lib.hid lD1; have LT := Lib.hid lT1; have LL := Lib.hid lL1
  clear hv hD hT hL lD1 lT1 lL1
  refine (callsIn_wide (n := 6)).1 ?_
  refine callsIn_of_wp_marks Try.func16 rfl trivial ?_ rfl
  simp only [Try.ntmps16, List.size_toArray, List.length_cons, List.length_nil, Nat.reduceAdd, Nat.reduceSub, Array.replicate_succ, Array.replicate_zero, List.push_toArray, List.append_toArray, List.nil_append, List.cons_append]
  gi_wp2_with (first
    | (refine ⟨trivial, ?_⟩; gi_at_call 45; refine (callsIn_wide.2 HC.out).mono ?_; rintro _ w1 ⟨rfl, hw1⟩)
    | (refine ⟨trivial, ?_⟩; gi_at_call 47; refine (legs_in Fence.wide _ trivial rfl _ _ _ _).mono ?_; rintro _ w2 ⟨rfl, rfl⟩))
  have HB1 := Lib.hid hw1
  have hsz : w.heap.size + 1 ≤ w1.heap.size := by have := hw1.size; simp at this; exact this
  have c0 := box_on (k := 0) rfl hw1
  have c1 := box_on (k := 1) rfl hw1
  have c2 := box_on (k := 2) rfl hw1
  have bX : Boxes w.heap.size n (.slice (some ⟨b, off, none⟩) lD cD) (.slice (some ⟨b', off', none⟩) lT cT) w1 := ⟨c0, c1, c2⟩
  have hBw1 : Below w.heap.size w w1 := ((Below.refl _ _).alloc (Nat.le_refl _) _).trans (hw1.mono (by simp))
  clear c0 c1 c2 hw1
  have hB0 : Below w.heap.size w (((w1.alloc (.cells #[.int .i64 0] 2)).alloc (.cells #[.int .i64 0] 2)).alloc (.cells #[.slice aL lL cL] 25)) := ((hBw1.alloc (by omega) _).alloc (by simp; omega) _).alloc (by simp; omega) _
  have bS := Boxed.new w1 2 (.int .i64 0)
  have bN := Boxed.new (w1.alloc (.cells #[.int .i64 0] 2)) 2 (.int .i64 0)
  rw [World.size_alloc] at bN
  have bL := Boxed.new ((w1.alloc (.cells #[.int .i64 0] 2)).alloc (.cells #[.int .i64 0] 2)) 25 (.slice aL lL cL)
  rw [World.size_alloc, World.size_alloc] at bL
  have hz := allE_zero.1 HV.out
  have hv := validB_iff.1 hz.1
  obtain ⟨v1, v2, v3, v4, v5, v6⟩ := hv
  refine wpIn_rangeFunc_ownG rfl (by omega) (gf := 65) (lb := #[.pointer (some ⟨w1.heap.size + 1 + 1, 0, none⟩)]) rfl trivial (enters_of Try.func65 (by kernel_rfl) rfl)
    (legs_stops Fence.wide (6 - 1) trivial rfl (by omega) (w1.heap.size + 1 + 1) lL cL n aL L w _ LL.out (by omega) HL.out v1 hz.2 hB0 (by simp) bL.cell) belowK_t (belowK_b (by simp; omega)) (Below.refl _ _) (fun _ => rfl)
    (fun pre W => (Holds w1.heap.size (sumLegs n D (vals pre)) W ∧ Holds (w1.heap.size + 1) (sumLegs n T (vals pre)) W ∧ Boxes w.heap.size n (.slice (some ⟨b, off, none⟩) lD cD) (.slice (some ⟨b', off', none⟩) lT cT) W) ∧ Below w.heap.size w W)
    (fun _ _ _ => False)
    (OwnFrom.and (OwnFrom.and ((Holds.own _ _).from _) (OwnFrom.and ((Holds.own _ _).from _) ((Boxes.own _ _ _ _).from _))) (ownFrom_below (Nat.le_refl _) (by simp; omega)))
    (fun _ _ _ _ _ hs _ _ => hs)
    ⟨⟨⟨((bS.alloc _).alloc _).cell, ((bS.alloc _).alloc _).frozen⟩, ⟨(bN.alloc _).cell, (bN.alloc _).frozen⟩, ?bx⟩, hB0⟩
    (fun x => { tmps := #[.agg #[.int .i64 n, .slice (some ⟨b, off, none⟩) lD cD, .slice (some ⟨b', off', none⟩) lT cT], .slice aL lL cL, .pointer (some ⟨w.heap.size, 0, none⟩), undef, .int .i64 0, .int .i64 0, .int .i64 0, .int .i64 0, .pointer (some ⟨w1.heap.size, 0, none⟩), .pointer (some ⟨w1.heap.size + 1, 0, none⟩), Value.int .i64 x.1.1, Value.int .i64 x.1.2, undef, .agg #[.int .i64 n, .slice (some ⟨b, off, none⟩) lD cD, .slice (some ⟨b', off', none⟩) lT cT], .slice aL lL cL, .int .i64 0, .int .i64 0, .bool false, undef, .slice aL lL cL, .int .i64 lL, .bool (decide ((100 : Int) < (lL : Int))), .slice aL lL cL, .func (.func 65) #[] #[.pointer (some ⟨w1.heap.size + 1 + 1, 0, none⟩)], Value.int .i64 x.1.1, Value.int .i64 x.1.2, undef, undef, undef, undef, undef, undef, undef, undef, undef, undef, undef, undef, undef, undef, undef, undef, undef, undef, undef, undef, undef, undef], defers := [] }) ?assign ?body ?done ?stop
  case bx =>
    have hAl : Below w1.heap.size w1 (((w1.alloc (.cells #[.int .i64 0] 2)).alloc (.cells #[.int .i64 0] 2)).alloc (.cells #[.slice aL lL cL] 25)) := (((Below.refl _ _).alloc (Nat.le_refl _) _).alloc (by simp) _).alloc (by simp; omega) _
    exact ⟨cell_on hAl bX.1, cell_on hAl bX.2.1, cell_on hAl bX.2.2⟩
  case assign =>
    intro l x W K hK
    gi_wp2
    exact hK
  case body =>
    rintro l pre ⟨⟨p, q⟩, hp, hq⟩ W ⟨⟨⟨hc8, hf8⟩, ⟨hc9, hf9⟩, ⟨hb0, hb1, hb2⟩⟩, hB⟩ hlen
    dsimp only at hp hq ⊢
    have HBW := Lib.hid hB
    have hp' := nodeB_iff.1 hp; have hq' := nodeB_iff.1 hq
    obtain ⟨hp0, hp1⟩ := hp'; obtain ⟨hq0, hq1⟩ := hq'
    have hpl := place_lt hp hq
    have hnn : n * n ≤ 256 := by have := Int.mul_le_mul v2 v2 (by omega) (by omega); omega
    have hpn0 : 0 ≤ p * n := Int.mul_nonneg hp0 (by omega)
    have hpn1 : p * n ≤ 256 := by omega
    have q0 : 0 ≤ p * n + q := hpl.1
    have q1 : p * n + q < (lD : Int) := by rw [LD.out] at v3; omega
    have q2 : p * n + q < (lT : Int) := by rw [LT.out] at v4; omega
    obtain ⟨_, _, e1, hcD⟩ := HD.out (by rw [LD.out]; omega)
    obtain ⟨_, _, e2, hcT⟩ := HT.out (by rw [LT.out]; omega)
    cases e1; cases e2
    have hcD := hcD (place n p q) (by rw [LD.out]; unfold place; omega)
    have hcT := hcT (place n p q) (by rw [LT.out]; unfold place; omega)
    have hbD : w1.heap.size ≠ b := fun e => by have := World.block_lt_of_cell? w _ hcD; simp at this; omega
    have hbT : w1.heap.size ≠ b' := fun e => by have := World.block_lt_of_cell? w _ hcT; simp at this; omega
    have hbD' : w1.heap.size + 1 ≠ b := fun e => by have := World.block_lt_of_cell? w _ hcD; simp at this; omega
    have hbT' : w1.heap.size + 1 ≠ b' := fun e => by have := World.block_lt_of_cell? w _ hcT; simp at this; omega
    have hbX : w1.heap.size ≠ w.heap.size := by omega
    have hbX' : w1.heap.size + 1 ≠ w.heap.size := by omega
    have hcD : W.cell? ⟨b, off + (p * n + q).toNat, none⟩ = some (.int .i64 (leg n D p q)) := cell_on hB hcD
    have hcT : W.cell? ⟨b', off' + (p * n + q).toNat, none⟩ = some (.int .i64 (leg n T p q)) := cell_on hB hcT
    have rD := leg_range v5 v3 hp hq
    have rT := leg_range v6 v4 hp hq
    have sD := sumLegs_vals v5 v3 pre
    have sT := sumLegs_vals v6 v4 pre
    have NX1 := Lib.hid (sumLegs_next D pre ⟨(p, q), hp, hq⟩)
    have NX2 := Lib.hid (sumLegs_next T pre ⟨(p, q), hp, hq⟩)
    dsimp only at NX1 NX2
    have hlen' : (pre.length : Int) ≤ 101 := by omega
    obtain ⟨vD, hvD⟩ : ∃ x, leg n D p q = x := ⟨_, rfl⟩
    obtain ⟨vT, hvT⟩ : ∃ x, leg n T p q = x := ⟨_, rfl⟩
    obtain ⟨uD, huD⟩ : ∃ x, sumLegs n D (vals pre) = x := ⟨_, rfl⟩
    obtain ⟨uT, huT⟩ : ∃ x, sumLegs n T (vals pre) = x := ⟨_, rfl⟩
    rw [hvD] at hcD rD NX1; rw [hvT] at hcT rT NX2; rw [huD] at hc8 sD NX1; rw [huT] at hc9 sT NX2
    obtain ⟨rD0, rD1⟩ := rD; obtain ⟨rT0, rT1⟩ := rT
    obtain ⟨sD0, sD1⟩ := sD; obtain ⟨sT0, sT1⟩ := sT
    have sD2 : uD ≤ 101000000 := by omega
    have sT2 : uT ≤ 101000000 := by omega
    clear hpl hnn
    have wD : IntKind.i64.wrap (uD + vD) = uD + vD := IntWalk.i64_in _ (by omega)
    have wT : IntKind.i64.wrap (uT + vT) = uT + vT := IntWalk.i64_in _ (by omega)
    obtain ⟨W1, hW1⟩ : ∃ W1, (W.setCell ⟨w1.heap.size, 0, none⟩ (.int .i64 (IntKind.i64.wrap (uD + vD)))).drew = W1 := ⟨_, rfl⟩
    obtain ⟨W2, hW2⟩ : ∃ W2, W1.setCell ⟨w1.heap.size + 1, 0, none⟩ (.int .i64 (IntKind.i64.wrap (uT + vT))) = W2 := ⟨_, rfl⟩
    have far1 : ∀ a : Addr, w1.heap.size ≠ a.block → W1.cell? a = W.cell? a := fun a h => by rw [← hW1]; exact World.cell?_setCell_far _ _ _ _ h
    have far2 : ∀ a : Addr, w1.heap.size + 1 ≠ a.block → W2.cell? a = W1.cell? a := fun a h => by rw [← hW2, World.cell?_setCell_far _ _ _ _ h]
    have fr1 : ∀ a : Addr, W1.frozen? a = W.frozen? a := fun a => by rw [← hW1]; exact World.frozen?_setCell _ _ _ _
    have fr2 : ∀ a : Addr, W2.frozen? a = W1.frozen? a := fun a => by rw [← hW2, World.frozen?_setCell]
    have i1 : W1.cell? ⟨w1.heap.size, 0, none⟩ = some (.int .i64 (uD + vD)) := by rw [← hW1]; exact (World.cell?_setCell_same' W _ _ (by rw [hc8]; rfl)).trans (by rw [wD])
    have j1 : W1.cell? ⟨w1.heap.size + 1, 0, none⟩ = some (.int .i64 uT) := by rw [far1 _ (by simp)]; exact hc9
    have k1 : W1.frozen? ⟨w1.heap.size + 1, 0, none⟩ = false := by rw [fr1]; exact hf9
    have i2 : W2.cell? ⟨w1.heap.size + 1, 0, none⟩ = some (.int .i64 (uT + vT)) := by rw [← hW2]; exact (World.cell?_setCell_same' _ _ _ (by rw [j1]; rfl)).trans (by rw [wT])
    have j2 : W2.cell? ⟨w1.heap.size, 0, none⟩ = some (.int .i64 (uD + vD)) := by rw [far2 _ (by simp)]; exact i1
    have hHeld1 : W1.cell? ⟨w.heap.size, 1, none⟩ = some (.slice (some ⟨b, off, none⟩) lD cD) ∧ W1.cell? ⟨w.heap.size, 2, none⟩ = some (.slice (some ⟨b', off', none⟩) lT cT) ∧
      W1.cell? ⟨b, off + (p * n + q).toNat, none⟩ = some (.int .i64 vD) ∧ W1.cell? ⟨b', off' + (p * n + q).toNat, none⟩ = some (.int .i64 vT) :=
      ⟨(far1 _ hbX).trans hb1, (far1 _ hbX).trans hb2, (far1 _ hbD).trans hcD, (far1 _ hbT).trans hcT⟩
    have hHeld2 : W2.cell? ⟨w.heap.size, 1, none⟩ = some (.slice (some ⟨b, off, none⟩) lD cD) ∧ W2.cell? ⟨w.heap.size, 2, none⟩ = some (.slice (some ⟨b', off', none⟩) lT cT) ∧
      W2.cell? ⟨b, off + (p * n + q).toNat, none⟩ = some (.int .i64 vD) ∧ W2.cell? ⟨b', off' + (p * n + q).toNat, none⟩ = some (.int .i64 vT) :=
      ⟨(far2 _ hbX').trans hHeld1.1, (far2 _ hbX').trans hHeld1.2.1, (far2 _ hbD').trans hHeld1.2.2.1, (far2 _ hbT').trans hHeld1.2.2.2⟩
    have bel : Below w.heap.size W W2 := by rw [← hW2, ← hW1]; exact (((Below.refl _ W).setCell (p := ⟨w1.heap.size, 0, none⟩) (by show w.heap.size ≤ w1.heap.size; omega) _).drew).setCell (p := ⟨w1.heap.size + 1, 0, none⟩) (by show w.heap.size ≤ w1.heap.size + 1; omega) _
    have FIN : Hid (KeepsFrom (((w1.alloc (.cells #[.int .i64 0] 2)).alloc (.cells #[.int .i64 0] 2)).alloc (.cells #[.slice aL lL cL] 25)).heap.size W W2 ∧ Below w.heap.size W W2 ∧
        (Holds w1.heap.size (sumLegs n D (vals (pre ++ [⟨(p, q), hp, hq⟩]))) W2 ∧ Holds (w1.heap.size + 1) (sumLegs n T (vals (pre ++ [⟨(p, q), hp, hq⟩]))) W2 ∧ Boxes w.heap.size n (.slice (some ⟨b, off, none⟩) lD cD) (.slice (some ⟨b', off', none⟩) lT cT) W2) ∧ Below w.heap.size w W2) := by
      refine ⟨?_, bel, ⟨⟨?_, ?_⟩, ⟨?_, ?_⟩, ?_, ?_, ?_⟩, HBW.out.trans bel⟩
      · rw [← hW2, ← hW1]; exact (((KeepsOthers.setCell W _ _).trans (KeepsOthers.drew _)).trans (KeepsOthers.setCell _ _ _)).from _
      · rw [NX1.out]; exact j2
      · rw [fr2, fr1]; exact hf8
      · rw [NX2.out]; exact i2
      · rw [fr2]; exact k1
      · exact ((far2 _ hbX').trans (far1 _ hbX)).trans hb0
      · exact hHeld2.1
      · exact hHeld2.2.1
    clear i1 i2 j2 far1 far2 fr1 fr2 bel wD wT
    clear hvD hvT huD huT sD1 sT1 hlen hB v3 v4 v5 v6 hB0 bS bN bL bX hz hBw1
    gi_wp2
    refine wpIn_region_held (S := fun w' => w'.cell? ⟨w.heap.size, 1, none⟩ = some (.slice (some ⟨b, off, none⟩) lD cD) ∧ w'.cell? ⟨w.heap.size, 2, none⟩ = some (.slice (some ⟨b', off', none⟩) lT cT) ∧
      w'.cell? ⟨b, off + (p * n + q).toNat, none⟩ = some (.int .i64 vD) ∧ w'.cell? ⟨b', off' + (p * n + q).toNat, none⟩ = some (.int .i64 vT))
      (by kernel_rfl) (by kernel_rfl) (by rintro ⟨_, _, h⟩; exact h) ⟨hb1, hb2, hcD, hcT⟩ (fun hHeld => ?_)
    simp only [List.size_toArray, List.length_cons, List.length_nil, Nat.reduceAdd, Array.replicate_succ, Array.replicate_zero, List.push_toArray, List.nil_append, List.cons_append]
    refine wpAnyH_take (i := 1) (v := ?v1) rfl (by kernel_rfl) (by kernel_rfl) (by kernel_rfl) (fun _ _ _ h => h) (Or.inl ⟨by rfl, ?hy1⟩) (by assumption) ?r1
    case hy1 => intro w' hSw; obtain ⟨g1, g2, g3, g4⟩ := hSw; simp only [List.getElem_toArray, List.getElem_cons_zero, List.getElem_cons_succ]; go_simp; try with_reducible rfl
    simp only [List.getElem_toArray, List.getElem_cons_zero, List.getElem_cons_succ, Act.put, List.setIfInBounds_toArray, List.set_cons_zero, List.set_cons_succ]
    refine wpAnyH_take (i := 2) (v := ?v2) rfl (by kernel_rfl) (by kernel_rfl) (by kernel_rfl) (fun _ _ _ h => h) (Or.inl ⟨by rfl, ?hy2⟩) (by assumption) ?r2
    case hy2 => intro w' hSw; obtain ⟨g1, g2, g3, g4⟩ := hSw; simp only [List.getElem_toArray, List.getElem_cons_zero, List.getElem_cons_succ]; go_simp; try with_reducible rfl
    simp only [List.getElem_toArray, List.getElem_cons_zero, List.getElem_cons_succ, Act.put, List.setIfInBounds_toArray, List.set_cons_zero, List.set_cons_succ]
    refine wpAnyH_take (i := 3) (v := ?v3) rfl (by kernel_rfl) (by kernel_rfl) (by kernel_rfl) (fun _ _ _ h => h) (Or.inl ⟨by rfl, ?hy3⟩) (by assumption) ?r3
    case hy3 => intro w' hSw; obtain ⟨g1, g2, g3, g4⟩ := hSw; simp only [List.getElem_toArray, List.getElem_cons_zero, List.getElem_cons_succ]; go_simp; try with_reducible rfl
    simp only [List.getElem_toArray, List.getElem_cons_zero, List.getElem_cons_succ, Act.put, List.setIfInBounds_toArray, List.set_cons_zero, List.set_cons_succ]
    refine wpAnyH_take (i := 4) (v := ?v4) rfl (by kernel_rfl) (by kernel_rfl) (by kernel_rfl) (fun _ _ _ h => h) (Or.inl ⟨by rfl, ?hy4⟩) (by assumption) ?r4
    case hy4 => intro w' hSw; obtain ⟨g1, g2, g3, g4⟩ := hSw; simp only [List.getElem_toArray, List.getElem_cons_zero, List.getElem_cons_succ]; go_simp; try with_reducible rfl
    simp only [List.getElem_toArray, List.getElem_cons_zero, List.getElem_cons_succ, Act.put, List.setIfInBounds_toArray, List.set_cons_zero, List.set_cons_succ]
    refine wpAnyH_take (i := 5) (v := ?v5) rfl (by kernel_rfl) (by kernel_rfl) (by kernel_rfl) (fun _ _ _ h => h) (Or.inl ⟨by rfl, ?hy5⟩) (by assumption) ?r5
    case hy5 => intro w' hSw; obtain ⟨g1, g2, g3, g4⟩ := hSw; simp only [List.getElem_toArray, List.getElem_cons_zero, List.getElem_cons_succ]; go_simp; try with_reducible rfl
    simp only [List.getElem_toArray, List.getElem_cons_zero, List.getElem_cons_succ, Act.put, List.setIfInBounds_toArray, List.set_cons_zero, List.set_cons_succ]
    refine wpAnyH_take (i := 8) (v := ?v8) rfl (by kernel_rfl) (by kernel_rfl) (by kernel_rfl) (fun _ _ _ h => h) (Or.inl ⟨by rfl, ?hy8⟩) (by assumption) ?r8
    case hy8 => intro w' hSw; obtain ⟨g1, g2, g3, g4⟩ := hSw; simp only [List.getElem_toArray, List.getElem_cons_zero, List.getElem_cons_succ]; go_simp; try with_reducible rfl
    simp only [List.getElem_toArray, List.getElem_cons_zero, List.getElem_cons_succ, Act.put, List.setIfInBounds_toArray, List.set_cons_zero, List.set_cons_succ]
    refine wpAnyH_take (i := 9) (v := ?v9) rfl (by kernel_rfl) (by kernel_rfl) (by kernel_rfl) (fun _ _ _ h => h) (Or.inl ⟨by rfl, ?hy9⟩) (by assumption) ?r9
    case hy9 => intro w' hSw; obtain ⟨g1, g2, g3, g4⟩ := hSw; simp only [List.getElem_toArray, List.getElem_cons_zero, List.getElem_cons_succ]; go_simp; try with_reducible rfl
    simp only [List.getElem_toArray, List.getElem_cons_zero, List.getElem_cons_succ, Act.put, List.setIfInBounds_toArray, List.set_cons_zero, List.set_cons_succ]
    refine wpAnyH_take (i := 10) (v := ?v10) rfl (by kernel_rfl) (by kernel_rfl) (by kernel_rfl) (fun _ _ _ h => h) (Or.inl ⟨by rfl, ?hy10⟩) (by assumption) ?r10
    case hy10 => intro w' hSw; obtain ⟨g1, g2, g3, g4⟩ := hSw; simp only [List.getElem_toArray, List.getElem_cons_zero, List.getElem_cons_succ]; go_simp; try with_reducible rfl
    simp only [List.getElem_toArray, List.getElem_cons_zero, List.getElem_cons_succ, Act.put, List.setIfInBounds_toArray, List.set_cons_zero, List.set_cons_succ]
    refine wpAnyH_take (i := 11) (v := ?v11) rfl (by kernel_rfl) (by kernel_rfl) (by kernel_rfl) (fun _ _ _ h => h) (Or.inl ⟨by rfl, ?hy11⟩) (by assumption) ?r11
    case hy11 => intro w' hSw; obtain ⟨g1, g2, g3, g4⟩ := hSw; simp only [List.getElem_toArray, List.getElem_cons_zero, List.getElem_cons_succ]; go_simp; try with_reducible rfl
    simp only [List.getElem_toArray, List.getElem_cons_zero, List.getElem_cons_succ, Act.put, List.setIfInBounds_toArray, List.set_cons_zero, List.set_cons_succ]
    refine wpAnyH_take (i := 12) (v := ?v12) rfl (by kernel_rfl) (by kernel_rfl) (by kernel_rfl) (fun _ _ _ h => h) (Or.inl ⟨by rfl, ?hy12⟩) (by assumption) ?r12
    case hy12 => intro w' hSw; obtain ⟨g1, g2, g3, g4⟩ := hSw; simp only [List.getElem_toArray, List.getElem_cons_zero, List.getElem_cons_succ]; go_simp; try with_reducible rfl
    simp only [List.getElem_toArray, List.getElem_cons_zero, List.getElem_cons_succ, Act.put, List.setIfInBounds_toArray, List.set_cons_zero, List.set_cons_succ]
    refine wpAnyH_ready (rs := [0, 7]) (by kernel_rfl) (by simp) ?_
    refine AllReadyH.cons rfl (fun K hK => ?_) ?_
    · go_simp
      refine hK.out _ _ hHeld (fun _ => ?_)
      clear hK K
      refine wpAnyH_take (i := 6) (v := ?v6_1) rfl (by kernel_rfl) (by kernel_rfl) (by kernel_rfl) (fun _ _ _ h => h) (Or.inl ⟨by rfl, ?hy6_1⟩) (by assumption) ?r6_1
      case hy6_1 => intro w' hSw; obtain ⟨g1, g2, g3, g4⟩ := hSw; simp only [List.getElem_toArray, List.getElem_cons_zero, List.getElem_cons_succ]; go_simp; try with_reducible rfl
      simp only [List.getElem_toArray, List.getElem_cons_zero, List.getElem_cons_succ, Act.put, List.setIfInBounds_toArray, List.set_cons_zero, List.set_cons_succ]
      refine wpAnyH_ready (rs := [7, 14]) (by kernel_rfl) (by simp) ?_
      refine AllReadyH.cons rfl (fun K hK => ?_) ?_
      · go_simp
        refine hK.out _ _ hHeld (fun _ => ?_)
        clear hK K
        refine wpAnyH_take (i := 13) (v := ?v13_2) rfl (by kernel_rfl) (by kernel_rfl) (by kernel_rfl) (fun _ _ _ h => h) (Or.inl ⟨by rfl, ?hy13_2⟩) (by assumption) ?r13_2
        case hy13_2 => intro w' hSw; obtain ⟨g1, g2, g3, g4⟩ := hSw; simp only [List.getElem_toArray, List.getElem_cons_zero, List.getElem_cons_succ]; go_simp; try with_reducible rfl
        simp only [List.getElem_toArray, List.getElem_cons_zero, List.getElem_cons_succ, Act.put, List.setIfInBounds_toArray, List.set_cons_zero, List.set_cons_succ]
        refine wpAnyH_ready (rs := [14]) (by kernel_rfl) (by simp) ?_
        refine AllReadyH.cons rfl (fun K hK => ?_) ?_
        · go_simp
          (try rw [hW1])
          refine hK.out _ _ hHeld1 (fun _ => ?_)
          clear hK K
          refine wpAnyH_ready (rs := [15]) (by kernel_rfl) (by simp) ?_
          refine AllReadyH.cons rfl (fun K hK => ?_) ?_
          · go_simp
            (try rw [hW2])
            refine hK.out _ _ hHeld2 (fun _ => ?_)
            clear hK K
            exact wpAnyH_done (by kernel_rfl) FIN.out _
          exact AllReadyH.nil
        exact AllReadyH.nil
      refine AllReadyH.cons rfl (fun K hK => ?_) ?_
      · go_simp
        (try rw [hW1])
        refine hK.out _ _ hHeld1 (fun _ => ?_)
        clear hK K
        refine wpAnyH_ready (rs := [7]) (by kernel_rfl) (by simp) ?_
        refine AllReadyH.cons rfl (fun K hK => ?_) ?_
        · go_simp
          refine hK.out _ _ hHeld1 (fun _ => ?_)
          clear hK K
          refine wpAnyH_take (i := 13) (v := ?v13_3) rfl (by kernel_rfl) (by kernel_rfl) (by kernel_rfl) (fun _ _ _ h => h) (Or.inl ⟨by rfl, ?hy13_3⟩) (by assumption) ?r13_3
          case hy13_3 => intro w' hSw; obtain ⟨g1, g2, g3, g4⟩ := hSw; simp only [List.getElem_toArray, List.getElem_cons_zero, List.getElem_cons_succ]; go_simp; try with_reducible rfl
          simp only [List.getElem_toArray, List.getElem_cons_zero, List.getElem_cons_succ, Act.put, List.setIfInBounds_toArray, List.set_cons_zero, List.set_cons_succ]
          refine wpAnyH_ready (rs := [15]) (by kernel_rfl) (by simp) ?_
          refine AllReadyH.cons rfl (fun K hK => ?_) ?_
          · go_simp
            (try rw [hW2])
            refine hK.out _ _ hHeld2 (fun _ => ?_)
            clear hK K
            exact wpAnyH_done (by kernel_rfl) FIN.out _
          exact AllReadyH.nil
        exact AllReadyH.nil
      exact AllReadyH.nil
    refine AllReadyH.cons rfl (fun K hK => ?_) ?_
    · go_simp
      refine hK.out _ _ hHeld (fun _ => ?_)
      clear hK K
      refine wpAnyH_take (i := 13) (v := ?v13_4) rfl (by kernel_rfl) (by kernel_rfl) (by kernel_rfl) (fun _ _ _ h => h) (Or.inl ⟨by rfl, ?hy13_4⟩) (by assumption) ?r13_4
      case hy13_4 => intro w' hSw; obtain ⟨g1, g2, g3, g4⟩ := hSw; simp only [List.getElem_toArray, List.getElem_cons_zero, List.getElem_cons_succ]; go_simp; try with_reducible rfl
      simp only [List.getElem_toArray, List.getElem_cons_zero, List.getElem_cons_succ, Act.put, List.setIfInBounds_toArray, List.set_cons_zero, List.set_cons_succ]
      refine wpAnyH_ready (rs := [0]) (by kernel_rfl) (by simp) ?_
      refine AllReadyH.cons rfl (fun K hK => ?_) ?_
      · go_simp
        refine hK.out _ _ hHeld (fun _ => ?_)
        clear hK K
        refine wpAnyH_take (i := 6) (v := ?v6_5) rfl (by kernel_rfl) (by kernel_rfl) (by kernel_rfl) (fun _ _ _ h => h) (Or.inl ⟨by rfl, ?hy6_5⟩) (by assumption) ?r6_5
        case hy6_5 => intro w' hSw; obtain ⟨g1, g2, g3, g4⟩ := hSw; simp only [List.getElem_toArray, List.getElem_cons_zero, List.getElem_cons_succ]; go_simp; try with_reducible rfl
        simp only [List.getElem_toArray, List.getElem_cons_zero, List.getElem_cons_succ, Act.put, List.setIfInBounds_toArray, List.set_cons_zero, List.set_cons_succ]
        refine wpAnyH_ready (rs := [14]) (by kernel_rfl) (by simp) ?_
        refine AllReadyH.cons rfl (fun K hK => ?_) ?_
        · go_simp
          (try rw [hW1])
          refine hK.out _ _ hHeld1 (fun _ => ?_)
          clear hK K
          refine wpAnyH_ready (rs := [15]) (by kernel_rfl) (by simp) ?_
          refine AllReadyH.cons rfl (fun K hK => ?_) ?_
          · go_simp
            (try rw [hW2])
            refine hK.out _ _ hHeld2 (fun _ => ?_)
            clear hK K
            exact wpAnyH_done (by kernel_rfl) FIN.out _
          exact AllReadyH.nil
        exact AllReadyH.nil
      exact AllReadyH.nil
    exact AllReadyH.nil
  case done =>
    rintro D1 ys W hD1 hall ⟨⟨⟨h1, _⟩, ⟨h2, _⟩, _⟩, hB⟩ hK
    rw [sumLegs_all hall] at h1 h2
    have HBW := Lib.hid hB
    have HDD := Lib.hid hD1
    clear hB hD1
    gi_wp2
    gi_region
    gi_wp2
    have hK' : W.drew.heap[D1]? = some (.deferred (some [])) := hK
    refine ⟨by simp, .inl ⟨_, _, rfl, run_takeDeferred hK', ?_⟩⟩
    refine ⟨_, results_tmp3 rfl _ _ _, rfl, ?_⟩
    exact (HBW.out.drew).trans (belowK_b (w := w) (Nat.le_refl _) W.drew D1 _ _ (by have := HDD.out; simp at this; omega) hK' rfl rfl)
  case stop =>
    rintro D c pre W _ _ h _
    exact h.elim

set_option maxHeartbeats 1000000 in
theorem tour_any (n : Int) (aD aT aL : Option Addr) (D T L : List Int) (lD lT lL cD cT cL : Nat) (w : World) (lD1 : D.length = lD) (lT1 : T.length = lT) (lL1 : L.length = lL) (hD : ReadsI w aD D) (hT : ReadsI w aT T) (hL : ReadsI w aL L) (hm : lL ≤ 9223372036854775807) :
    Calls Try.prog 16 #[.agg #[.int .i64 n, .slice aD lD cD, .slice aT lT cT], .slice aL lL cL] w fun e w' => e = .returned (.tuple #[.int .i64 (tourV n D T L D), .int .i64 (tourV n D T L T), .int .i64 (tourE n D T L)]) ∧ Below w.heap.size w w' := by
  have HB : Hid (Below w.heap.size w (w.alloc (.cells #[.int .i64 n, .slice aD lD cD, .slice aT lT cT] 24))) := (Below.refl _ _).alloc (Nat.le_refl _) _
  have HC := Lib.hid (all_any n aD aT aL D T L lD lT lL cD cT cL _ lD1 lT1 lL1 (hD.below HB.out) (hT.below HB.out) (hL.below HB.out) hm)
  by_cases he : allE n D T L = 0
  · rw [he] at HC
    by_cases hle : lL ≤ 100
    · have hz := allE_zero.1 he
      obtain ⟨v1, v2, v3, v4, v5, v6⟩ := validB_iff.1 hz.1
      have hp : 0 < n * n := Int.mul_pos (by omega) (by omega)
      obtain ⟨b, off, ha, _⟩ := hD (by omega)
      obtain ⟨b', off', ha', _⟩ := hT (by omega)
      subst ha ha'
      have esz : (w.alloc (.cells #[.int .i64 n, .slice (some ⟨b, off, none⟩) lD cD, .slice (some ⟨b', off', none⟩) lT cT] 24)).heap.size = w.heap.size + 1 := by simp
      rw [esz] at HC
      have hE : tourE n D T L = 0 := by unfold tourE; rw [if_pos he, if_neg (by omega)]
      refine (tour_loop n b b' off off' aL D T L lD lT lL cD cT cL w he hle lD1 lT1 lL1 hD hT hL HC).mono ?_
      rintro e w' ⟨rfl, hw⟩
      refine ⟨three_ret ?_ ?_ hE.symm, hw⟩
      · unfold tourV; rw [if_pos hE]
      · unfold tourV; rw [if_pos hE]
    · have hE : tourE n D T L = 4 := by unfold tourE; rw [if_pos he, if_pos (by omega)]
      have F1 := Lib.hid (show (0 : Int) = tourV n D T L D by unfold tourV; rw [if_neg (by omega)])
      have F2 := Lib.hid (show (0 : Int) = tourV n D T L T by unfold tourV; rw [if_neg (by omega)])
      have F3 := Lib.hid (show (4 : Int) = tourE n D T L from hE.symm)
      have hgt : 100 < (lL : Int) := by omega
      clear hD hT hL lD1 lT1 lL1 hE he
      go_enter Try.func16, Try.ntmps16
      go_wp2_with fail
      refine HC.out.mono ?_; rintro _ w1 ⟨rfl, hw1⟩
      go_wp2_with fail
      go_ret3
      exact ⟨three_ret F1.out F2.out F3.out, below_on HB.out hw1⟩
  · have hE : tourE n D T L = allE n D T L := by unfold tourE; rw [if_neg he]
    have heb : (allE n D T L != 0) = true := bne_iff_ne.2 he
    have F1 := Lib.hid (show (0 : Int) = tourV n D T L D by unfold tourV; rw [if_neg (by omega)])
    have F2 := Lib.hid (show (0 : Int) = tourV n D T L T by unfold tourV; rw [if_neg (by omega)])
    have F3 := Lib.hid (show allE n D T L = tourE n D T L from hE.symm)
    clear hD hT hL lD1 lT1 lL1 hE he
    go_enter Try.func16, Try.ntmps16
    go_wp2_with fail
    refine HC.out.mono ?_; rintro _ w1 ⟨rfl, hw1⟩
    go_wp2_with fail
    go_ret3
    exact ⟨three_ret F1.out F2.out F3.out, below_on HB.out hw1⟩
end Go.Proofs.Ytakiciemkecgfaa.Area

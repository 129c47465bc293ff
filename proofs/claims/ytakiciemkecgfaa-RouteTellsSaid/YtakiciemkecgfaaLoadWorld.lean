/-
  The walk of load's World.
-/
import Derived.Test.YtakiciemkecgfaaLoadAlike
namespace Go.Proofs.Ytakiciemkecgfaa.Load
open Go.RowKit Go.Proofs Go.Proofs.Ytakiciemkecgfaa.AreaMath Go.Proofs.Ytakiciemkecgfaa.Area
set_option maxRecDepth 100000
set_option linter.unusedVariables false

/-- what World tells -/
def worldE (n : Int) (O : List Ord) (R : List Trk) : Int :=
  if 12 < O.length ∨ 6 < R.length then 4 else if ordersE O n ≠ 0 ∨ trucksE R ≠ 0 then 1 else if dupB (ids O) || dupB (idsT R) then 6 else 0
theorem ordersE_01 (l : List Ord) (n : Int) : ordersE l n = 0 ∨ ordersE l n = 1 := by unfold ordersE; cases l.all _ <;> simp
theorem trucksE_01 (l : List Trk) : trucksE l = 0 ∨ trucksE l = 1 := by unfold trucksE; cases l.all _ <;> simp

/-- the five cells of a world's box, those that are read -/
def WBox (w : World) (b : Nat) (n : Int) (sO sR : Value) : Prop := w.cell? ⟨b, 0, none⟩ = some (.int .i64 n) ∧ w.cell? ⟨b, 3, none⟩ = some sO ∧ w.cell? ⟨b, 4, none⟩ = some sR
theorem WBox.on {w w1 : World} {b : Nat} {n : Int} {sO sR : Value} (h : WBox w b n sO sR) (hb : Below w.heap.size w w1) : WBox w1 b n sO sR := ⟨cell_on hb h.1, cell_on hb h.2.1, cell_on hb h.2.2⟩

set_option maxHeartbeats 4000000 in
theorem world_any (n : Int) (sD sT : Value) (aO aR : Option Addr) (O : List Ord) (R : List Trk) (lO lR cO cR : Nat) (w : World) (hO1 : O.length = lO) (hR1 : R.length = lR) (hO : ReadsO w aO O) (hR : ReadsT w aR R)
    (hmO : lO ≤ 9223372036854775806) (hmR : lR ≤ 9223372036854775806) (hwO : ∀ o ∈ O, (Lit.int .i64 o.id).wf = true) (hwR : ∀ o ∈ R, (Lit.int .i64 o.id).wf = true) :
    Calls Try.prog 27 #[.agg #[.int .i64 n, sD, sT, .slice aO lO cO, .slice aR lR cR]] w fun e w' => e = .returned (.int .i64 (worldE n O R)) ∧ Below w.heap.size w w' := by
  have HB : Hid (Below w.heap.size w (w.alloc (.cells #[.int .i64 n, sD, sT, .slice aO lO cO, .slice aR lR cR] 40))) := (Below.refl _ _).alloc (Nat.le_refl _) _
  have HX : Hid (WBox (w.alloc (.cells #[.int .i64 n, sD, sT, .slice aO lO cO, .slice aR lR cR] 40)) w.heap.size n (.slice aO lO cO) (.slice aR lR cR)) := ⟨box_cell w _ _ 0 _ rfl, box_cell w _ _ 3 _ rfl, box_cell w _ _ 4 _ rfl⟩
  have HO := Lib.hid (hO.below HB.out); have HR := Lib.hid (hR.below HB.out)
  have LO := Lib.hid hO1; have LR := Lib.hid hR1
  have WO := Lib.hid hwO; have WR := Lib.hid hwR
  clear hO hR hO1 hR1 hwO hwR
  obtain ⟨E, hE⟩ : ∃ E, worldE n O R = E := ⟨_, rfl⟩
  have EE := Lib.hid hE
  rw [hE]
  clear hE
  obtain ⟨b0, b3, b4⟩ := HX.out
  rcases (by omega : 12 < lO ∨ (lO ≤ 12 ∧ 6 < lR) ∨ (lO ≤ 12 ∧ lR ≤ 6)) with h | ⟨h, h'⟩ | ⟨h, h'⟩
  · have F := Lib.hid (show (4 : Int) = E by rw [← EE.out]; unfold worldE; rw [if_pos (.inl (by rw [LO.out]; exact h))])
    go_enter Try.func27, Try.ntmps27
    go_wp2_with fail
    go_ret
    exact ⟨ret_i64 F.out, HB.out⟩
  · have F := Lib.hid (show (4 : Int) = E by rw [← EE.out]; unfold worldE; rw [if_pos (.inr (by rw [LR.out]; exact h'))])
    go_enter Try.func27, Try.ntmps27
    go_wp2_with fail
    go_ret
    exact ⟨ret_i64 F.out, HB.out⟩
  · have E1 := Lib.hid (show E = if ordersE O n ≠ 0 ∨ trucksE R ≠ 0 then 1 else if dupB (ids O) || dupB (idsT R) then 6 else 0 by
      rw [← EE.out]; unfold worldE; rw [if_neg (by rw [LO.out, LR.out]; omega)])
    go_enter Try.func27, Try.ntmps27
    go_wp2_with fail
    obtain ⟨W, hW⟩ : ∃ W, w.alloc (.cells #[.int .i64 n, sD, sT, .slice aO lO cO, .slice aR lR cR] 40) = W := ⟨_, rfl⟩
    rw [hW] at HB HX HO HR b0 b3 b4 ⊢
    clear hW
    refine (each_ord aO O lO cO n w.heap.size W LO.out HO.out (by omega) b0).mono ?_
    rintro _ w1 ⟨rfl, hw1⟩
    have H1 := Lib.hid hw1
    clear hw1 b0 b3 b4
    obtain ⟨b0, b3, b4⟩ := HX.out.on H1.out
    obtain ⟨e1, he1⟩ : ∃ e, ordersE O n = e := ⟨_, rfl⟩
    rw [he1] at E1 ⊢
    clear he1
    go_wp2_with fail
    refine (each_trk aR R lR cR w1 LR.out (HR.out.below H1.out) (by omega)).mono ?_
    rintro _ w2 ⟨rfl, hw2⟩
    have H2 := Lib.hid (below_on H1.out hw2)
    clear hw2 b0 b3 b4
    obtain ⟨b0, b3, b4⟩ := HX.out.on H2.out
    obtain ⟨e2, he2⟩ : ∃ e, trucksE R = e := ⟨_, rfl⟩
    rw [he2] at E1 ⊢
    clear he2
    by_cases h1 : e1 = 0
    · by_cases h2 : e2 = 0
      · subst h1 h2
        rw [if_neg (by simp)] at E1
        go_wp2_with fail
        refine (alike_ord aO O lO cO w2 LO.out (HO.out.below H2.out) hmO WO.out).mono ?_
        rintro _ w3 ⟨rfl, hw3⟩
        have H3 := Lib.hid (below_on H2.out hw3)
        clear hw3 b0 b3 b4
        obtain ⟨b0, b3, b4⟩ := HX.out.on H3.out
        cases hd : dupB (ids O) with
        | true =>
          rw [hd] at E1
          have F := Lib.hid (show (6 : Int) = E by rw [E1.out]; rfl)
          clear hd
          go_wp2_with fail
          go_ret
          exact ⟨ret_i64 F.out, below_on HB.out H3.out⟩
        | false =>
          rw [hd] at E1
          clear hd
          go_wp2_with fail
          refine (alike_trk aR R lR cR w3 LR.out (HR.out.below H3.out) hmR WR.out).mono ?_
          rintro _ w4 ⟨rfl, hw4⟩
          have H4 := Lib.hid (below_on H3.out hw4)
          clear hw4 b0 b3 b4
          cases hd2 : dupB (idsT R) with
          | true =>
            rw [hd2] at E1
            have F := Lib.hid (show (6 : Int) = E by rw [E1.out]; rfl)
            clear hd2
            go_wp2_with fail
            go_ret
            exact ⟨ret_i64 F.out, below_on HB.out H4.out⟩
          | false =>
            rw [hd2] at E1
            have F := Lib.hid (show (0 : Int) = E by rw [E1.out]; rfl)
            clear hd2
            go_wp2_with fail
            go_ret
            exact ⟨ret_i64 F.out, below_on HB.out H4.out⟩
      · have F := Lib.hid (show (1 : Int) = E by rw [E1.out, if_pos (.inr h2)])
        have h2b : (e2 != 0) = true := bne_iff_ne.2 h2
        subst h1
        clear h2
        go_wp2_with fail
        go_ret
        exact ⟨ret_i64 F.out, below_on HB.out H2.out⟩
    · have F := Lib.hid (show (1 : Int) = E by rw [E1.out, if_pos (.inl h1)])
      have h1b : (e1 != 0) = true := bne_iff_ne.2 h1
      clear h1
      go_wp2_with fail
      go_ret
      exact ⟨ret_i64 F.out, below_on HB.out H2.out⟩
end Go.Proofs.Ytakiciemkecgfaa.Load

/-
  The walk of groupagelaw06's awake.
-/
import Derived.Test.YtakiciemkecgfaaTour
import Derived.Test.YtakiciemkecgfaaNear
namespace Go.Proofs.Ytakiciemkecgfaa.Area
open Go.RowKit Go.Proofs Go.Proofs.Ytakiciemkecgfaa.AreaMath
set_option maxRecDepth 100000
set_option linter.unusedVariables false

def d0 : List Int := [0, 1, 2, 3, 0, 4, 5, 6, 0]
def t0 : List Int := [0, 10, 20, 30, 0, 40, 50, 60, 0]
/-- awake's area lies in w0 -/
def Lies (w0 : World) (aD aT : Option Addr) : Prop := ReadsI w0 aD d0 ∧ ReadsI w0 aT t0

theorem aw_tour {w0 w : World} {aD aT aL : Option Addr} (h : Hid (Lies w0 aD aT)) (hb : Hid (Below w0.heap.size w0 w)) (hL : Hid (ReadsI w aL [1, 2])) :
    Calls Try.prog 16 #[.agg #[.int .i64 3, .slice aD 9 9, .slice aT 9 9], .slice aL 2 2] w fun e w' => e = .returned (.tuple #[.int .i64 10, .int .i64 100, .int .i64 0]) ∧ Hid (Below w0.heap.size w0 w') := by
  refine (tour_any 3 aD aT aL d0 t0 [1, 2] 9 9 2 9 9 2 w rfl rfl rfl (h.out.1.below hb.out) (h.out.2.below hb.out) hL.out (by omega)).mono ?_
  rintro _ w1 ⟨rfl, h1⟩
  exact ⟨three_ret (by decide) (by decide) (by decide), below_on hb.out h1⟩
theorem aw_leg1 {w0 w : World} {aD aT : Option Addr} (h : Hid (Lies w0 aD aT)) (hb : Hid (Below w0.heap.size w0 w)) :
    Calls Try.prog 14 #[.agg #[.int .i64 3, .slice aD 9 9, .slice aT 9 9], .int .i64 2, .int .i64 1] w fun e w' => e = .returned (.tuple #[.int .i64 6, .int .i64 60, .int .i64 0]) ∧ Hid (Below w0.heap.size w0 w') := by
  refine (leg_any 3 2 1 aD aT d0 t0 9 9 9 9 w rfl rfl (h.out.1.below hb.out) (h.out.2.below hb.out)).mono ?_
  rintro _ w1 ⟨rfl, h1⟩
  exact ⟨three_ret (by decide) (by decide) (by decide), below_on hb.out h1⟩
theorem aw_leg2 {w0 w : World} {aD aT : Option Addr} (h : Hid (Lies w0 aD aT)) (hb : Hid (Below w0.heap.size w0 w)) :
    Calls Try.prog 14 #[.agg #[.int .i64 3, .slice aD 9 9, .slice aT 9 9], .int .i64 0, .int .i64 3] w fun e w' => e = .returned (.tuple #[.int .i64 0, .int .i64 0, .int .i64 5]) ∧ Hid (Below w0.heap.size w0 w') := by
  refine (leg_any 3 0 3 aD aT d0 t0 9 9 9 9 w rfl rfl (h.out.1.below hb.out) (h.out.2.below hb.out)).mono ?_
  rintro _ w1 ⟨rfl, h1⟩
  exact ⟨three_ret (by decide) (by decide) (by decide), below_on hb.out h1⟩
theorem aw_near1 {w0 w : World} {aD aT aL : Option Addr} (h : Hid (Lies w0 aD aT)) (hb : Hid (Below w0.heap.size w0 w)) (hL : Hid (ReadsI w aL [0, 1, 2])) :
    Calls Try.prog 18 #[.agg #[.int .i64 3, .slice aD 9 9, .slice aT 9 9], .int .i64 1, .slice aL 3 3] w fun e w' => e = .returned (.tuple #[.int .i64 1, .int .i64 0]) ∧ Hid (Below w0.heap.size w0 w') := by
  refine (near_any 3 1 aD aT aL d0 t0 [0, 1, 2] 9 9 3 9 9 3 w rfl rfl rfl (h.out.1.below hb.out) (h.out.2.below hb.out) hL.out (by omega)).mono ?_
  rintro _ w1 ⟨rfl, h1⟩
  exact ⟨two_ret (by decide) (by decide), below_on hb.out h1⟩
theorem aw_near2 {w0 w : World} {aD aT aL : Option Addr} (h : Hid (Lies w0 aD aT)) (hb : Hid (Below w0.heap.size w0 w)) (hL : Hid (ReadsI w aL [1])) :
    Calls Try.prog 18 #[.agg #[.int .i64 3, .slice aD 9 9, .slice aT 9 9], .int .i64 1, .slice aL 1 1] w fun e w' => e = .returned (.tuple #[.int .i64 0, .int .i64 2]) ∧ Hid (Below w0.heap.size w0 w') := by
  refine (near_any 3 1 aD aT aL d0 t0 [1] 9 9 1 9 9 1 w rfl rfl rfl (h.out.1.below hb.out) (h.out.2.below hb.out) hL.out (by omega)).mono ?_
  rintro _ w1 ⟨rfl, h1⟩
  exact ⟨two_ret (by decide) (by decide), below_on hb.out h1⟩
theorem aw_check1 {w0 w : World} {aD aT : Option Addr} (h : Hid (Lies w0 aD aT)) (hb : Hid (Below w0.heap.size w0 w)) :
    Calls Try.prog 20 #[.agg #[.int .i64 3, .slice aD 9 9, .slice aT 9 9]] w fun e w' => e = .returned (.int .i64 0) ∧ Hid (Below w0.heap.size w0 w') := by
  refine (check_any 3 aD aT d0 t0 9 9 9 9 w rfl rfl (h.out.1.below hb.out) (h.out.2.below hb.out)).mono ?_
  rintro _ w1 ⟨rfl, h1⟩
  exact ⟨ret_i64 (by decide), below_on hb.out h1⟩
theorem aw_check2 {w0 w : World} (hb : Hid (Below w0.heap.size w0 w)) :
    Calls Try.prog 20 #[.agg #[.int .i64 0, .slice none 0 0, .slice none 0 0]] w fun e w' => e = .returned (.int .i64 1) ∧ Hid (Below w0.heap.size w0 w') := by
  refine (check_any 0 none none [] [] 0 0 0 0 w rfl rfl (fun h => absurd h (by decide)) (fun h => absurd h (by decide))).mono ?_
  rintro _ w1 ⟨rfl, h1⟩
  exact ⟨ret_i64 (by decide), below_on hb.out h1⟩
/-- a literal list -/
theorem reads_lit (w : World) (cs : Array Value) (l : List Int) (t : TypeId) (h : cs = (intsV l).toArray) : ReadsI (w.alloc (.cells cs t)) (some ⟨w.heap.size, 0, none⟩) l := by
  intro _
  refine ⟨_, _, rfl, fun k hk => ?_⟩
  rw [Nat.zero_add]
  refine box_cell w _ _ k _ ?_
  rw [h, List.getElem?_toArray, intsV_get l k hk]

def AW (w : World) : World := ((w.alloc (.cells #[.int .i64 0, .int .i64 1, .int .i64 2, .int .i64 3, .int .i64 0, .int .i64 4, .int .i64 5, .int .i64 6, .int .i64 0] 2)).alloc (.cells #[.int .i64 0, .int .i64 10, .int .i64 20, .int .i64 30, .int .i64 0, .int .i64 40, .int .i64 50, .int .i64 60, .int .i64 0] 2)).alloc (.cells #[.int .i64 3, .slice (some ⟨w.heap.size, 0, none⟩) 9 9, .slice (some ⟨w.heap.size + 1, 0, none⟩) 9 9] 24)
theorem aw_lies (w : World) : Hid (Lies (AW w) (some ⟨w.heap.size, 0, none⟩) (some ⟨w.heap.size + 1, 0, none⟩)) := by
  refine ⟨((reads_lit w _ d0 2 (by rfl)).alloc _).alloc _, ?_⟩
  have h := (reads_lit (w.alloc (.cells #[.int .i64 0, .int .i64 1, .int .i64 2, .int .i64 3, .int .i64 0, .int .i64 4, .int .i64 5, .int .i64 6, .int .i64 0] 2)) #[.int .i64 0, .int .i64 10, .int .i64 20, .int .i64 30, .int .i64 0, .int .i64 40, .int .i64 50, .int .i64 60, .int .i64 0] t0 2 (by rfl)).alloc (.cells #[.int .i64 3, .slice (some ⟨w.heap.size, 0, none⟩) 9 9, .slice (some ⟨w.heap.size + 1, 0, none⟩) 9 9] 24)
  rw [World.size_alloc] at h
  exact h
theorem aw_size (w : World) : (AW w).heap.size = w.heap.size + 3 := by unfold AW; simp
theorem aw_box (w : World) : BoxS (w.heap.size + 1 + 1) 3 (.slice (some ⟨w.heap.size, 0, none⟩) 9 9) (.slice (some ⟨w.heap.size + 1, 0, none⟩) 9 9) (AW w) := by
  have e : ((w.alloc (.cells #[.int .i64 0, .int .i64 1, .int .i64 2, .int .i64 3, .int .i64 0, .int .i64 4, .int .i64 5, .int .i64 6, .int .i64 0] 2)).alloc (.cells #[.int .i64 0, .int .i64 10, .int .i64 20, .int .i64 30, .int .i64 0, .int .i64 40, .int .i64 50, .int .i64 60, .int .i64 0] 2)).heap.size = w.heap.size + 1 + 1 := by simp
  unfold BoxS AW
  rw [← e]
  exact ⟨box_cell _ _ _ 0 _ rfl, box_cell _ _ _ 1 _ rfl, box_cell _ _ _ 2 _ rfl⟩
theorem aw_below (w : World) : Below w.heap.size w (AW w) := ((((Below.refl _ w).alloc (Nat.le_refl _) _).alloc (by simp) _)).alloc (by simp; omega) _
theorem hid_alloc {w0 w : World} (h : Hid (Below w0.heap.size w0 w)) (o : Obj) : Hid (Below w0.heap.size w0 (w.alloc o)) := h.out.alloc h.out.size o

set_option maxHeartbeats 2000000 in
theorem awake_any (w : World) : Calls Try.prog 13 #[] w fun e w' => e = .returned (.bool true) ∧ Below w.heap.size w w' := by
  have HL := aw_lies w
  have HB := Lib.hid (aw_box w)
  go_enter Try.func13, Try.ntmps13
  go_wp2_with fail
  refine (aw_tour HL (hid_alloc (Below.refl _ (AW w)) _) ?_).mono ?_
  · have h := reads_lit (AW w) #[.int .i64 1, .int .i64 2] [1, 2] 3 rfl
    rw [aw_size] at h
    exact h
  rintro _ w1 ⟨rfl, h1⟩
  obtain ⟨b0, b1, b2⟩ := HB.out.on h1.out
  go_wp2_with fail
  refine (aw_leg1 HL h1).mono ?_
  rintro _ w2 ⟨rfl, h2⟩
  clear b0 b1 b2
  obtain ⟨b0, b1, b2⟩ := HB.out.on h2.out
  go_wp2_with fail
  refine (aw_near1 HL (hid_alloc h2 _) (reads_lit w2 _ [0, 1, 2] 3 rfl)).mono ?_
  rintro _ w3 ⟨rfl, h3⟩
  clear b0 b1 b2
  obtain ⟨b0, b1, b2⟩ := HB.out.on h3.out
  go_wp2_with fail
  refine (aw_near2 HL (hid_alloc h3 _) (reads_lit w3 _ [1] 3 rfl)).mono ?_
  rintro _ w4 ⟨rfl, h4⟩
  clear b0 b1 b2
  obtain ⟨b0, b1, b2⟩ := HB.out.on h4.out
  go_wp2_with fail
  refine (aw_leg2 HL h4).mono ?_
  rintro _ w5 ⟨rfl, h5⟩
  clear b0 b1 b2
  obtain ⟨b0, b1, b2⟩ := HB.out.on h5.out
  go_wp2_with fail
  refine (aw_check1 HL h5).mono ?_
  rintro _ w6 ⟨rfl, h6⟩
  clear b0 b1 b2
  go_wp2_with fail
  refine (aw_check2 h6).mono ?_
  rintro _ w7 ⟨rfl, h7⟩
  go_wp2_with fail
  go_ret
  exact ⟨rfl, below_on (aw_below w) h7.out⟩
end Go.Proofs.Ytakiciemkecgfaa.Area

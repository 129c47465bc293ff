/-
  The walk of load's Carries.
-/
import Derived.Test.YtakiciemkecgfaaLoadEach
namespace Go.Proofs.Ytakiciemkecgfaa.Load
open Go.RowKit Go.Proofs Go.Proofs.Ytakiciemkecgfaa.AreaMath Go.Proofs.Ytakiciemkecgfaa.Area
set_option maxRecDepth 100000
set_option linter.unusedVariables false

/-- what Carries tells -/
def carriesE (t : Trk) (l : List Ord) : Int := if (loadS l).2.2 ≠ 0 then (loadS l).2.2 else if t.weight < (loadS l).1 ∨ t.volume < (loadS l).2.1 then 9 else 0

set_option maxHeartbeats 2000000 in
theorem carries_any (t : Trk) (a : Option Addr) (l : List Ord) (len cap : Nat) (w : World) (hl : l.length = len) (hr : ReadsO w a l) (hm : len ≤ 400) :
    Calls Try.prog 31 #[.agg t.cells, .slice a len cap] w fun e w' => e = .returned (.int .i64 (carriesE t l)) ∧ Below w.heap.size w w' := by
  obtain ⟨tid, tw, tv, ts, te, tf, tr⟩ := t
  unfold Trk.cells carriesE
  dsimp only
  have HB : Hid (Below w.heap.size w (w.alloc (.cells #[.int .i64 tid, .int .i64 tw, .int .i64 tv, .int .i64 ts, .int .i64 te, .int .i64 tf, .int .i64 tr] 42))) := (Below.refl _ _).alloc (Nat.le_refl _) _
  have HS := Lib.hid (lsum_walk a l len cap (w.alloc (.cells #[.int .i64 tid, .int .i64 tw, .int .i64 tv, .int .i64 ts, .int .i64 te, .int .i64 tf, .int .i64 tr] 42)) hl (hr.below HB.out) hm)
  have h1 := box_cell w #[.int .i64 tid, .int .i64 tw, .int .i64 tv, .int .i64 ts, .int .i64 te, .int .i64 tf, .int .i64 tr] 42 1 _ rfl
  have h2 := box_cell w #[.int .i64 tid, .int .i64 tw, .int .i64 tv, .int .i64 ts, .int .i64 te, .int .i64 tf, .int .i64 tr] 42 2 _ rfl
  clear hl hr
  obtain ⟨p, hp⟩ : ∃ p, (loadS l).1 = p := ⟨_, rfl⟩
  obtain ⟨q, hq⟩ : ∃ p, (loadS l).2.1 = p := ⟨_, rfl⟩
  obtain ⟨e, he⟩ : ∃ p, (loadS l).2.2 = p := ⟨_, rfl⟩
  rw [hp, hq, he] at HS ⊢
  clear hp hq he
  obtain ⟨R, hR⟩ : ∃ R, (if e ≠ 0 then e else if tw < p ∨ tv < q then 9 else 0) = R := ⟨_, rfl⟩
  rw [hR]
  have RR := Lib.hid hR
  clear hR
  go_enter Try.func31, Try.ntmps31
  go_wp2_with fail
  refine HS.out.mono ?_
  rintro _ w1 ⟨rfl, hw1⟩
  have g1 := cell_on hw1 h1
  have g2 := cell_on hw1 h2
  have H1 := Lib.hid (below_on HB.out hw1)
  clear hw1 h1 h2 HS
  by_cases h0 : e = 0
  · subst h0
    rcases (by omega : tw < p ∨ (p ≤ tw ∧ tv < q) ∨ (p ≤ tw ∧ q ≤ tv)) with h | ⟨h, h'⟩ | ⟨h, h'⟩
    · have F := Lib.hid (show (9 : Int) = R by rw [← RR.out, if_neg (by simp), if_pos (.inl h)])
      go_wp2_with fail
      go_ret
      exact ⟨ret_i64 F.out, H1.out⟩
    · have F := Lib.hid (show (9 : Int) = R by rw [← RR.out, if_neg (by simp), if_pos (.inr h')])
      go_wp2_with fail
      go_ret
      exact ⟨ret_i64 F.out, H1.out⟩
    · have F := Lib.hid (show (0 : Int) = R by rw [← RR.out, if_neg (by simp), if_neg (by omega)])
      go_wp2_with fail
      go_ret
      exact ⟨ret_i64 F.out, H1.out⟩
  · have F := Lib.hid (show e = R by rw [← RR.out, if_pos h0])
    have h0b : (e != 0) = true := bne_iff_ne.2 h0
    clear h0
    go_wp2_with fail
    go_ret
    exact ⟨ret_i64 F.out, H1.out⟩
end Go.Proofs.Ytakiciemkecgfaa.Load

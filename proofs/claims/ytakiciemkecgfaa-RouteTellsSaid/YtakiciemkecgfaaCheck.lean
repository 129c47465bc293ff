/-
  The walk of area's Check.
-/
import Derived.Test.YtakiciemkecgfaaProg
import Derived.Test.YtakiciemkecgfaaAreaMath
import Derived.WalkKit
import Derived.WalkLawsBesides
import Derived.WalkSpells
import Derived.Lib.Hide
import Derived.Deep.QuietTactic
import Derived.BigQuiet
import Derived.BigRegion
namespace Go.Proofs.Ytakiciemkecgfaa.Area
open Go.RowKit Go.Proofs Go.Proofs.Ytakiciemkecgfaa.AreaMath
set_option maxRecDepth 100000
set_option linter.unusedVariables false

/-- A slice of numbers that is read: nil, empty or not. -/
def ReadsI (w : World) (a : Option Addr) (l : List Int) : Prop :=
  0 < l.length → ∃ b off, a = some ⟨b, off, none⟩ ∧ ∀ k, k < l.length → w.cell? ⟨b, off + k, none⟩ = some (.int .i64 (at_ l k))
theorem ReadsI.below {w w1 : World} {a : Option Addr} {l : List Int} (h : ReadsI w a l) (hb : Below w.heap.size w w1) : ReadsI w1 a l := by
  intro hl
  obtain ⟨b, off, ha, hc⟩ := h hl
  refine ⟨b, off, ha, fun k hk => ?_⟩
  have := hc k hk
  rw [hb.cell (World.block_lt_of_cell? w _ this)]
  exact this
theorem ReadsI.alloc {w : World} {a : Option Addr} {l : List Int} (h : ReadsI w a l) (o : Obj) : ReadsI (w.alloc o) a l := h.below ((Below.refl _ _).alloc (Nat.le_refl _) _)
theorem ret_i64 {a b : Int} (h : a = b) : Ending.returned (.int .i64 a) = .returned (.int .i64 b) := by rw [h]

set_option maxHeartbeats 1000000 in
theorem check_head (n : Int) (aD aT : Option Addr) (lD lT cD cT : Nat) (w : World) (h : n < 1 ∨ (1 ≤ n ∧ (16 < n ∨ (n ≤ 16 ∧ (((lD : Int) != n * n) = true ∨ (((lD : Int) != n * n) = false ∧ ((lT : Int) != n * n) = true)))))) (hw : n * n ≤ 9223372036854775807 ∨ ¬ (1 ≤ n ∧ n ≤ 16)) :
    Calls Try.prog 20 #[.agg #[.int .i64 n, .slice aD lD cD, .slice aT lT cT]] w fun e w' => e = .returned (.int .i64 1) ∧ Below w.heap.size w w' := by
  have hb : 1 ≤ n → n ≤ 16 → 0 ≤ n * n ∧ n * n ≤ 256 := fun h1 h2 => ⟨Int.mul_nonneg (by omega) (by omega), by
    have := Int.mul_le_mul h2 h2 (by omega) (by omega); omega⟩
  rcases h with h | ⟨h0, h | ⟨h1, h⟩⟩
  · clear hb hw
    go_enter Try.func20, Try.ntmps20
    go_wp2_with fail
    go_ret
    exact ⟨rfl, (Below.refl _ _).alloc (Nat.le_refl _) _⟩
  · clear hb hw
    go_enter Try.func20, Try.ntmps20
    go_wp2_with fail
    go_ret
    exact ⟨rfl, (Below.refl _ _).alloc (Nat.le_refl _) _⟩
  · obtain ⟨b1, b2⟩ := hb h0 h1
    clear hb hw
    rcases h with h | ⟨h, h'⟩
    all_goals
      go_enter Try.func20, Try.ntmps20
      go_wp2_with fail
      go_ret
      exact ⟨rfl, (Below.refl _ _).alloc (Nat.le_refl _) _⟩

/-- the list of a round: the distances, then the times -/
def pickA (k : Nat) (aD aT : Option Addr) : Option Addr := if k = 0 then aD else aT
def pickN (k : Nat) (lD lT : Nat) : Nat := if k = 0 then lD else lT
def pickL (k : Nat) (D T : List Int) : List Int := if k = 0 then D else T
theorem pick_idx (aD aT : Option Addr) (lD lT cD cT k : Nat) (hk : k < 2) (w : World) :
    (Instr.index 80 (.agg #[.slice aD lD cD, .slice aT lT cT]) (.int .i64 k)).run Try.prog w = .ok (.slice (pickA k aD aT) (pickN k lD lT) (pickN k cD cT)) w := by
  rcases (by omega : k = 0 ∨ k = 1) with rfl | rfl
  · kernel_rfl
  · kernel_rfl
def RoundsTo (n : Int) (D T : List Int) (k : Nat) : Prop := (1 ≤ k → listB n D = true) ∧ (2 ≤ k → listB n T = true)
theorem RoundsTo.step {n : Int} {D T : List Int} {k : Nat} (h : RoundsTo n D T k) (hk : k < 2) (hl : listB n (pickL k D T) = true) : RoundsTo n D T (k + 1) := by
  match k, hk with
  | 0, _ => exact ⟨fun _ => hl, fun h => by omega⟩
  | 1, _ => exact ⟨fun _ => h.1 (by omega), fun _ => hl⟩

def CheckPost (n : Int) (D T : List Int) (e : Ending) : Prop := (e = .returned (.int .i64 0) ∧ listB n D = true ∧ listB n T = true) ∨ (e = .returned (.int .i64 1) ∧ (listB n D = false ∨ listB n T = false))
theorem bad_of {n : Int} {D T : List Int} {k : Nat} (hk : k < 2) (h : listB n (pickL k D T) = false) : listB n D = false ∨ listB n T = false := by
  match k, hk with
  | 0, _ => exact .inl h
  | 1, _ => exact .inr h

theorem below_drewN {B : Nat} {a w : World} (h : Below B a w) (n : Nat) : Below B a (w.drewN n) := ⟨h.os, h.tape, h.output, h.size, h.block⟩

set_option maxHeartbeats 2000000 in
theorem check_loops (n : Int) (aD aT : Option Addr) (D T : List Int) (lD lT cD cT : Nat) (w : World) (h1 : 1 ≤ n) (h2 : n ≤ 16) (e1 : ((lD : Int) != n * n) = false) (e2 : ((lT : Int) != n * n) = false)
    (lD1 : D.length = lD) (lT1 : T.length = lT) (hD : ReadsI w aD D) (hT : ReadsI w aT T) (b1 : 0 ≤ n * n) (b2 : n * n ≤ 256) (m1 : lD ≤ 256) (m2 : lT ≤ 256) :
    Calls Try.prog 20 #[.agg #[.int .i64 n, .slice aD lD cD, .slice aT lT cT]] w fun e w' => CheckPost n D T e ∧ Below w.heap.size w w' := by
  have d1 : decide (n < 1) = false := decide_eq_false (by omega)
  have d2 : decide (16 < n) = false := decide_eq_false (by omega)
  have HB : Hid (Below w.heap.size w (w.alloc (.cells #[.int .i64 n, .slice aD lD cD, .slice aT lT cT] 24))) := (Below.refl _ _).alloc (Nat.le_refl _) _
  have HD := Lib.hid (hD.below HB.out); have HT := Lib.hid (hT.below HB.out)
  have LD := Lib.hid lD1; have LT := Lib.hid lT1
  clear hD hT lD1 lT1
  go_enter Try.func20, Try.ntmps20
  go_wp2_with fail
  clear e1 e2 d1 d2
  go_loopw [42] (fun i wr => ∃ (k m : Nat), k ≤ 2 ∧ i = .int .i64 k ∧ (w.alloc (.cells #[.int .i64 n, .slice aD lD cD, .slice aT lT cT] 24)).drewN m = wr ∧ RoundsTo n D T k) (fun i wr => 2 - (intOf i).toNat)
  case atStart => exact ⟨0, 0, by omega, rfl, rfl, ⟨fun h => by omega, fun h => by omega⟩⟩
  case round =>
    obtain ⟨k, m, hk, rfl, rfl, hR⟩ := hrel
    have HR := Lib.hid hR; clear hR
    by_cases hlt : k < 2
    · have hidx := pick_idx aD aT lD lT cD cT k hlt
      have HP : Hid (ReadsI (w.alloc (.cells #[.int .i64 n, .slice aD lD cD, .slice aT lT cT] 24)) (pickA k aD aT) (pickL k D T) ∧ (pickL k D T).length = pickN k lD lT ∧ pickN k lD lT ≤ 256) := by
        match k, hlt with
        | 0, _ => exact ⟨HD.out, LD.out, m1⟩
        | 1, _ => exact ⟨HT.out, LT.out, m2⟩
      generalize hL : pickL k D T = L at *
      generalize pickA k aD aT = aL at *
      generalize pickN k lD lT = nL at *
      generalize pickN k cD cT = cL at *
      have HLL := Lib.hid hL; clear hL
      have m3 := HP.out.2.2
      go_wp2_with fail
      clear hidx
      go_loopw [47] (fun i wr => ∃ j q : Nat, j ≤ nL ∧ i = .int .i64 j ∧ ((w.alloc (.cells #[.int .i64 n, .slice aD lD cD, .slice aT lT cT] 24)).drewN m).drewN q = wr ∧ UpTo n L j) (fun i wr => nL - (intOf i).toNat)
      case atStart => exact ⟨0, 0, by omega, rfl, rfl, UpTo.zero _ _⟩
      case round =>
        obtain ⟨j, q, hj, rfl, rfl, hU⟩ := hrel
        have HU := Lib.hid hU; clear hU
        by_cases hlt2 : j < nL
        · have hjl : j < L.length := by rw [HP.out.2.1]; exact hlt2
          obtain ⟨b, off, ha, hc⟩ := HP.out.1 (by omega)
          subst ha
          have hcell := hc j hjl
          clear hc
          obtain ⟨x, hx⟩ : ∃ x, at_ L j = x := ⟨_, rfl⟩
          rw [hx] at hcell
          have HJ := Lib.hid hjl; clear hjl
          have HX := Lib.hid hx; clear hx
          rcases (by omega : x < 0 ∨ (0 ≤ x ∧ 1000000 < x) ∨ (0 ≤ x ∧ x ≤ 1000000)) with g | ⟨g, g'⟩ | ⟨g, g'⟩
          · have d1 : decide (x < 0) = true := decide_eq_true g
            have hbad := Lib.hid (show okB n j (at_ L j) = false by rw [HX.out, ← Bool.not_eq_true, okB_iff]; omega)
            go_wp2_with fail
            go_quiet (fail)
            go_wp2_with fail
            go_ret
            exact ⟨.inr ⟨rfl, bad_of hlt (by rw [HLL.out]; exact listB_not HJ.out hbad.out)⟩, below_drewN (below_drewN HB.out _) _⟩
          · have d1 : decide (x < 0) = false := decide_eq_false (by omega)
            have d2 : decide (1000000 < x) = true := decide_eq_true g'
            have hbad := Lib.hid (show okB n j (at_ L j) = false by rw [HX.out, ← Bool.not_eq_true, okB_iff]; omega)
            go_wp2_with fail
            go_quiet (fail)
            go_wp2_with fail
            go_ret
            exact ⟨.inr ⟨rfl, bad_of hlt (by rw [HLL.out]; exact listB_not HJ.out hbad.out)⟩, below_drewN (below_drewN HB.out _) _⟩
          · have d1 : decide (x < 0) = false := decide_eq_false (by omega)
            have d2 : decide (1000000 < x) = false := decide_eq_false (by omega)
            have hn0 : ¬ n = 0 := by omega
            have hn1 : (n == 0) = false := beq_eq_false_iff_ne.2 hn0
            obtain ⟨d, hd⟩ : ∃ d, (j : Int) / n = d := ⟨_, rfl⟩
            obtain ⟨r, hr⟩ : ∃ r, (j : Int) % n = r := ⟨_, rfl⟩
            have d0 : 0 ≤ d := by rw [← hd]; exact Int.ediv_nonneg (by omega) (by omega)
            have d3 : d ≤ 256 := by rw [← hd]; have : (j : Int) / n ≤ (j : Int) := Int.ediv_le_self _ (by omega); omega
            by_cases e : d = r
            · have eb : (d == r) = true := beq_iff_eq.2 e
              have EE := Lib.hid (show (j : Int) / n = (j : Int) % n by rw [hd, hr]; exact e); clear e
              by_cases z : x = 0
              · have zb : (x != 0) = false := by rw [z]; rfl
                have hok := Lib.hid (show okB n j (at_ L j) = true by rw [HX.out, okB_iff]; exact ⟨g, g', fun _ => z⟩)
                clear z
                go_wp2_with fail
                go_quiet (fail)
                go_wp2_with fail
                go_roundw
                case rel => exact ⟨j + 1, q + _, by omega, by go_num, (World.drewN_drewN _ m (q + _)).trans (congrArg _ (Nat.add_assoc m q _).symm), HU.out.step hok.out⟩
                case measure => simp [intOf]; omega
              · have zb : (x != 0) = true := bne_iff_ne.2 z
                have hbad := Lib.hid (show okB n j (at_ L j) = false by rw [HX.out, ← Bool.not_eq_true, okB_iff]; exact fun h => z (h.2.2 EE.out))
                clear z
                go_wp2_with fail
                go_quiet (fail)
                go_wp2_with fail
                go_ret
                exact ⟨.inr ⟨rfl, bad_of hlt (by rw [HLL.out]; exact listB_not HJ.out hbad.out)⟩, below_drewN (below_drewN HB.out _) _⟩
            · have eb : (d == r) = false := beq_eq_false_iff_ne.2 e
              have hok := Lib.hid (show okB n j (at_ L j) = true by rw [HX.out, okB_iff]; exact ⟨g, g', fun h => absurd (by rw [← hd, ← hr]; exact h) e⟩)
              clear e
              go_wp2_with fail
              go_quiet (fail)
              go_wp2_with fail
              go_roundw
              case rel => exact ⟨j + 1, q + _, by omega, by go_num, (World.drewN_drewN _ m (q + _)).trans (congrArg _ (Nat.add_assoc m q _).symm), HU.out.step hok.out⟩
              case measure => simp [intOf]; omega
        · obtain rfl : j = nL := by omega
          have HUD := Lib.hid (show listB n L = true by have := HU.out; rw [← HP.out.2.1] at this; exact this.done)
          go_wp2_with fail
          go_roundw
          case rel => exact ⟨k + 1, _, by omega, by go_num, rfl, HR.out.step hlt (by rw [HLL.out]; exact HUD.out)⟩
          case measure => simp [intOf]; omega
    · obtain rfl : k = 2 := by omega
      go_wp2_with fail
      go_ret
      exact ⟨.inl ⟨rfl, HR.out.1 (by omega), HR.out.2 (by omega)⟩, below_drewN HB.out _⟩
end Go.Proofs.Ytakiciemkecgfaa.Area

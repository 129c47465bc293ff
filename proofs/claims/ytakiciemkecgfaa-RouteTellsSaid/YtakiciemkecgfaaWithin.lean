/-
  The walks of load's within: the closure, IndexFunc and ContainsFunc over spans.
-/
import Derived.Test.YtakiciemkecgfaaLeg
namespace Go.Proofs.Ytakiciemkecgfaa.Load
open Go.RowKit Go.Proofs Go.Proofs.Ytakiciemkecgfaa.AreaMath Go.Proofs.Ytakiciemkecgfaa.Area
set_option maxRecDepth 100000
set_option linter.unusedVariables false

/-- a number, and from where to where it may be -/
structure Span where
  n : Int
  low : Int
  high : Int
def Span.ok (s : Span) : Bool := decide (s.low ≤ s.n) && decide (s.n ≤ s.high)
def spanAt (l : List Span) (k : Nat) : Span := l.getD k ⟨0, 0, 0⟩
/-- a slice of spans that is read -/
def ReadsS (w : World) (a : Option Addr) (l : List Span) : Prop :=
  0 < l.length → ∃ b off, a = some ⟨b, off, none⟩ ∧ ∀ k, k < l.length → w.cell? ⟨b, off + k * 3, none⟩ = some (.int .i64 (spanAt l k).n) ∧ w.cell? ⟨b, off + k * 3 + 1, none⟩ = some (.int .i64 (spanAt l k).low) ∧ w.cell? ⟨b, off + k * 3 + 2, none⟩ = some (.int .i64 (spanAt l k).high)
theorem ReadsS.below {w w1 : World} {a : Option Addr} {l : List Span} (h : ReadsS w a l) (hb : Below w.heap.size w w1) : ReadsS w1 a l := by
  intro hl
  obtain ⟨b, off, ha, hc⟩ := h hl
  exact ⟨b, off, ha, fun k hk => ⟨cell_on hb (hc k hk).1, cell_on hb (hc k hk).2.1, cell_on hb (hc k hk).2.2⟩⟩
theorem ret_bool {a b : Bool} (h : a = b) : Ending.returned (.bool a) = .returned (.bool b) := by rw [h]

set_option maxHeartbeats 1000000 in
theorem span_any (s : Span) (w : World) :
    Calls Try.prog 67 #[.agg #[.int .i64 s.n, .int .i64 s.low, .int .i64 s.high]] w fun e w' => e = .returned (.bool (!s.ok)) ∧ Below w.heap.size w w' := by
  obtain ⟨n, low, high⟩ := s
  have HB : Hid (Below w.heap.size w (w.alloc (.cells #[.int .i64 n, .int .i64 low, .int .i64 high] 83))) := (Below.refl _ _).alloc (Nat.le_refl _) _
  dsimp only
  rcases (by omega : n < low ∨ (low ≤ n ∧ high < n) ∨ (low ≤ n ∧ n ≤ high)) with h | ⟨h, h'⟩ | ⟨h, h'⟩
  · have F := Lib.hid (show true = !(Span.ok ⟨n, low, high⟩) by unfold Span.ok; simp; omega)
    go_enter Try.func67, Try.ntmps67
    go_wp2_with fail
    go_ret
    exact ⟨ret_bool F.out, HB.out⟩
  · have F := Lib.hid (show true = !(Span.ok ⟨n, low, high⟩) by unfold Span.ok; simp; omega)
    go_enter Try.func67, Try.ntmps67
    go_wp2_with fail
    go_ret
    exact ⟨ret_bool F.out, HB.out⟩
  · have F := Lib.hid (show (decide (n < low) || decide (high < n)) = !(Span.ok ⟨n, low, high⟩) by
      rw [decide_eq_false (by omega), decide_eq_false (by omega)]; unfold Span.ok; rw [decide_eq_true h, decide_eq_true h']; rfl)
    go_enter Try.func67, Try.ntmps67
    go_wp2_with fail
    go_ret
    exact ⟨ret_bool F.out, HB.out⟩

/-- the first k may be -/
def OkTo (l : List Span) (k : Nat) : Prop := ∀ j, j < k → (spanAt l j).ok = true
theorem OkTo.step {l : List Span} {k : Nat} (h : OkTo l k) (hk : (spanAt l k).ok = true) : OkTo l (k + 1) := by
  intro j hj
  by_cases e : j = k
  · subst e; exact hk
  · exact h j (by omega)

set_option maxHeartbeats 1000000 in
theorem index_span (a : Option Addr) (l : List Span) (len cap : Nat) (w : World) (hl : l.length = len) (hr : ReadsS w a l) (hm : len ≤ 9223372036854775807) :
    Calls Try.prog 72 #[.slice a len cap, .func (.func 67) #[] #[]] w fun e w' => ∃ r : Int, e = .returned (.int .i64 r) ∧ (decide (0 ≤ r) = !(l.all Span.ok)) ∧ Below w.heap.size w w' := by
  have HR := Lib.hid hr; have HL := Lib.hid hl
  clear hr hl
  go_enter Try.func72, Try.ntmps72
  go_wp2_with fail
  go_loopw [8] (fun i wr => ∃ k : Nat, k ≤ len ∧ i = .int .i64 k ∧ OkTo l k ∧ Below w.heap.size w wr) (fun i wr => len - (intOf i).toNat)
  case atStart => exact ⟨0, by omega, rfl, fun j hj => by omega, Below.refl _ _⟩
  case round =>
    obtain ⟨k, hk, rfl, hO, hb⟩ := hrel
    have HO := Lib.hid hO; have HB := Lib.hid hb
    clear hO hb
    by_cases hlt : k < len
    · have hkl : k < l.length := by rw [HL.out]; exact hlt
      obtain ⟨b, off, ha, hc⟩ := HR.out (by omega)
      subst ha
      obtain ⟨c0, c1, c2⟩ := hc k hkl
      have c0 := cell_on HB.out c0
      have c1 := cell_on HB.out c1
      have c2 := cell_on HB.out c2
      clear hc
      have HK := Lib.hid hkl; clear hkl
      go_wp2_with fail
      refine (span_any (spanAt l k) wr).mono ?_
      rintro _ w1 ⟨rfl, hw1⟩
      have H1 := Lib.hid (below_on HB.out hw1)
      clear hw1 c0 c1 c2
      cases hok : (spanAt l k).ok with
      | true =>
        have HOK := Lib.hid hok; clear hok
        simp only [Bool.not_true]
        go_wp2_with fail
        go_roundw
        case rel => exact ⟨k + 1, by omega, by go_num, HO.out.step HOK.out, H1.out⟩
        case measure => simp [intOf]; omega
      | false =>
        have F := Lib.hid (show decide (0 ≤ (k : Int)) = !(l.all Span.ok) by
          rw [decide_eq_true (by omega)]
          have : l.all Span.ok = false := by
            rw [← Bool.not_eq_true, List.all_eq_true]
            intro hall
            have := hall (spanAt l k) (by unfold spanAt; simp [HK.out])
            rw [hok] at this; cases this
          rw [this]; rfl)
        clear hok
        simp only [Bool.not_false]
        go_wp2_with fail
        go_ret
        exact ⟨_, rfl, F.out, H1.out⟩
    · obtain rfl : k = len := by omega
      have F := Lib.hid (show decide (0 ≤ (-1 : Int)) = !(l.all Span.ok) by
        have : l.all Span.ok = true := by
          rw [List.all_eq_true]
          intro x hx
          obtain ⟨j, hj, rfl⟩ := List.getElem_of_mem hx
          have := HO.out j (by rw [← HL.out]; exact hj)
          unfold spanAt at this
          rw [List.getD_eq_getElem?_getD, List.getElem?_eq_getElem hj] at this
          exact this
        rw [this]; rfl)
      go_wp2_with fail
      go_ret
      exact ⟨_, rfl, F.out, HB.out⟩

set_option maxHeartbeats 1000000 in
theorem contains_span (a : Option Addr) (l : List Span) (len cap : Nat) (w : World) (hl : l.length = len) (hr : ReadsS w a l) (hm : len ≤ 9223372036854775807) :
    Calls Try.prog 66 #[.slice a len cap, .func (.func 67) #[] #[]] w fun e w' => e = .returned (.bool (!(l.all Span.ok))) ∧ Below w.heap.size w w' := by
  go_enter Try.func66, Try.ntmps66
  go_wp2_with fail
  refine (index_span a l len cap w hl hr hm).mono ?_
  rintro _ w1 ⟨r, rfl, hd, hb⟩
  have HD := Lib.hid hd; have HB := Lib.hid hb
  clear hd hb hr hl
  go_wp2_with fail
  go_ret
  exact ⟨ret_bool HD.out, HB.out⟩

/-- what within tells -/
def withinE (l : List Span) : Int := if l.all Span.ok then 0 else 1
set_option maxHeartbeats 1000000 in
theorem within_any (a : Option Addr) (l : List Span) (len cap : Nat) (w : World) (hl : l.length = len) (hr : ReadsS w a l) (hm : len ≤ 9223372036854775807) :
    Calls Try.prog 48 #[.slice a len cap] w fun e w' => e = .returned (.int .i64 (withinE l)) ∧ Below w.heap.size w w' := by
  have HC := Lib.hid (contains_span a l len cap w hl hr hm)
  clear hl hr
  cases h : l.all Span.ok with
  | true =>
    rw [h] at HC
    have F := Lib.hid (show (0 : Int) = withinE l by unfold withinE; rw [h]; rfl)
    clear h
    go_enter Try.func48, Try.ntmps48
    go_wp2_with fail
    refine HC.out.mono ?_; rintro _ w1 ⟨rfl, hw1⟩
    go_wp2_with fail
    go_ret
    exact ⟨ret_i64 F.out, hw1⟩
  | false =>
    rw [h] at HC
    have F := Lib.hid (show (1 : Int) = withinE l by unfold withinE; rw [h]; rfl)
    clear h
    go_enter Try.func48, Try.ntmps48
    go_wp2_with fail
    refine HC.out.mono ?_; rintro _ w1 ⟨rfl, hw1⟩
    go_wp2_with fail
    go_ret
    exact ⟨ret_i64 F.out, hw1⟩
end Go.Proofs.Ytakiciemkecgfaa.Load

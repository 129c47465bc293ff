/-
  The walks of load's each, over orders and over trucks.
-/
import Derived.Test.YtakiciemkecgfaaLoadFind
namespace Go.Proofs.Ytakiciemkecgfaa.Load
open Go.RowKit Go.Proofs Go.Proofs.Ytakiciemkecgfaa.AreaMath Go.Proofs.Ytakiciemkecgfaa.Area
set_option maxRecDepth 100000
set_option linter.unusedVariables false

theorem withinE_01 (l : List Span) : withinE l = 0 ∨ withinE l = 1 := by unfold withinE; cases l.all Span.ok <;> simp
def ordersE (l : List Ord) (n : Int) : Int := if l.all fun o => ordE o n == 0 then 0 else 1

set_option maxHeartbeats 1000000 in
theorem order_cl (o : Ord) (n : Int) (B : Nat) (w : World) (hB : w.cell? ⟨B, 0, none⟩ = some (.int .i64 n)) :
    Calls Try.prog 52 #[.agg o.cells, .pointer (some ⟨B, 0, none⟩)] w fun e w' => e = .returned (.int .i64 (ordE o n)) ∧ Below w.heap.size w w' := by
  have hC := Lib.hid (fun w => order_any o n w)
  obtain ⟨oid, owner, node, weight, volume, frm, to, service⟩ := o
  unfold Ord.cells at *
  dsimp only at *
  have HB : Hid (Below w.heap.size w (w.alloc (.cells #[.int .i64 oid, .int .i64 owner, .int .i64 node, .int .i64 weight, .int .i64 volume, .int .i64 frm, .int .i64 to, .int .i64 service] 44))) := (Below.refl _ _).alloc (Nat.le_refl _) _
  have hB1 := cell_on HB.out hB
  go_enter Try.func52, Try.ntmps52
  go_wp2_with fail
  refine (hC.out _).mono ?_
  rintro _ w1 ⟨rfl, hw1⟩
  have H1 := Lib.hid (below_on HB.out hw1)
  clear hw1
  go_wp2_with fail
  go_ret
  exact ⟨rfl, H1.out⟩

set_option maxHeartbeats 2000000 in
theorem each_ord (a : Option Addr) (l : List Ord) (len cap : Nat) (n : Int) (B : Nat) (w : World) (hl : l.length = len) (hr : ReadsO w a l) (hm : len ≤ 9223372036854775807) (hB : w.cell? ⟨B, 0, none⟩ = some (.int .i64 n)) :
    Calls Try.prog 51 #[.slice a len cap, .func (.func 52) #[] #[.pointer (some ⟨B, 0, none⟩)]] w fun e w' => e = .returned (.int .i64 (ordersE l n)) ∧ Below w.heap.size w w' := by
  have HR := Lib.hid hr; have HL := Lib.hid hl; have HBX := Lib.hid hB
  clear hr hl hB
  go_enter Try.func51, Try.ntmps51
  go_wp2_with fail
  go_loopw [10] (fun i wr => ∃ k : Nat, k ≤ len ∧ i = .int .i64 k ∧ (∀ j, j < k → ordE (ordAt l j) n = 0) ∧ Below w.heap.size w wr) (fun i wr => len - (intOf i).toNat)
  case atStart => exact ⟨0, by omega, rfl, fun j hj => by omega, Below.refl _ _⟩
  case round =>
    obtain ⟨k, hk, rfl, hO, hb⟩ := hrel
    have HO := Lib.hid hO; have HB := Lib.hid hb
    clear hO hb
    by_cases hlt : k < len
    · have hkl : k < l.length := by rw [HL.out]; exact hlt
      obtain ⟨b, off, ha, hc⟩ := HR.out.below HB.out (by omega)
      subst ha
      obtain ⟨c0, c1, c2, c3, c4, c5, c6, c7⟩ := ordCells_at (hc k hkl)
      have HK := Lib.hid hkl
      obtain ⟨o, ho⟩ : ∃ o, ordAt l k = o := ⟨_, rfl⟩
      rw [ho] at c0 c1 c2 c3 c4 c5 c6 c7
      have HOO := Lib.hid ho
      have hB2 : Below wr.heap.size wr (wr.alloc (.cells #[.int .i64 o.id, .int .i64 o.owner, .int .i64 o.node, .int .i64 o.weight, .int .i64 o.volume, .int .i64 o.frm, .int .i64 o.to, .int .i64 o.service] 44)) := (Below.refl _ _).alloc (Nat.le_refl _) _
      have HC := Lib.hid (order_cl o n B (wr.alloc (.cells #[.int .i64 o.id, .int .i64 o.owner, .int .i64 o.node, .int .i64 o.weight, .int .i64 o.volume, .int .i64 o.frm, .int .i64 o.to, .int .i64 o.service] 44)) (cell_on hB2 (cell_on HB.out HBX.out)))
      have HB2 := Lib.hid (below_on HB.out hB2)
      clear hc hkl ho hB2
      go_wp2_with fail
      refine HC.out.mono ?_
      rintro _ w1 ⟨rfl, hw1⟩
      have H1 := Lib.hid (below_on HB2.out hw1)
      clear hw1 c0 c1 c2 c3 c4 c5 c6 c7 HC
      by_cases h0 : ordE o n = 0
      · have HN : Hid (∀ j, j < k + 1 → ordE (ordAt l j) n = 0) := fun j hj => by
          by_cases e : j = k
          · subst e; rw [HOO.out]; exact h0
          · exact HO.out j (by omega)
        rw [h0]
        clear h0
        go_wp2_with fail
        go_roundw
        case rel => exact ⟨k + 1, by omega, by go_num, HN.out, H1.out⟩
        case measure => simp [intOf]; omega
      · have h1 : ordE o n = 1 := (withinE_01 _).resolve_left h0
        have F := Lib.hid (show (1 : Int) = ordersE l n by
          unfold ordersE
          have : (l.all fun o => ordE o n == 0) = false := by
            rw [← Bool.not_eq_true, List.all_eq_true]
            intro hall
            have := hall (ordAt l k) (by unfold ordAt; simp [HK.out])
            rw [HOO.out] at this
            exact h0 (by simpa using this)
          rw [this]; rfl)
        rw [h1]
        clear h0 h1
        go_wp2_with fail
        go_ret
        exact ⟨ret_i64 F.out, H1.out⟩
    · obtain rfl : k = len := by omega
      have F := Lib.hid (show (0 : Int) = ordersE l n by
        unfold ordersE
        have : (l.all fun o => ordE o n == 0) = true := by
          rw [List.all_eq_true]
          intro x hx
          obtain ⟨j, hj, rfl⟩ := List.getElem_of_mem hx
          have := HO.out j (by rw [← HL.out]; exact hj)
          unfold ordAt at this
          rw [List.getD_eq_getElem?_getD, List.getElem?_eq_getElem hj] at this
          simpa using this
        rw [this]; rfl)
      go_wp2_with fail
      go_ret
      exact ⟨ret_i64 F.out, HB.out⟩

def trk0 : Trk := ⟨0, 0, 0, 0, 0, 0, 0⟩
def trkAt (l : List Trk) (k : Nat) : Trk := l.getD k trk0
/-- a slice of trucks that is read -/
def ReadsT (w : World) (a : Option Addr) (l : List Trk) : Prop :=
  0 < l.length → ∃ b off, a = some ⟨b, off, none⟩ ∧ ∀ k, k < l.length → ∀ j v, (trkAt l k).cells[j]? = some v → w.cell? ⟨b, off + k * 7 + j, none⟩ = some v
theorem ReadsT.below {w w1 : World} {a : Option Addr} {l : List Trk} (h : ReadsT w a l) (hb : Below w.heap.size w w1) : ReadsT w1 a l := by
  intro hl
  obtain ⟨b, off, ha, hc⟩ := h hl
  exact ⟨b, off, ha, fun k hk j v hv => cell_on hb (hc k hk j v hv)⟩
def TrkCells (w : World) (b off : Nat) (o : Trk) : Prop :=
  w.cell? ⟨b, off, none⟩ = some (.int .i64 o.id) ∧ w.cell? ⟨b, off + 1, none⟩ = some (.int .i64 o.weight) ∧ w.cell? ⟨b, off + 2, none⟩ = some (.int .i64 o.volume) ∧ w.cell? ⟨b, off + 3, none⟩ = some (.int .i64 o.start) ∧
  w.cell? ⟨b, off + 4, none⟩ = some (.int .i64 o.stop) ∧ w.cell? ⟨b, off + 5, none⟩ = some (.int .i64 o.fixed) ∧ w.cell? ⟨b, off + 6, none⟩ = some (.int .i64 o.rate)
theorem trkCells_at {w : World} {b off : Nat} {l : List Trk} {k : Nat} (hc : ∀ j v, (trkAt l k).cells[j]? = some v → w.cell? ⟨b, off + k * 7 + j, none⟩ = some v) : TrkCells w b (off + k * 7) (trkAt l k) :=
  ⟨hc 0 _ rfl, hc 1 _ rfl, hc 2 _ rfl, hc 3 _ rfl, hc 4 _ rfl, hc 5 _ rfl, hc 6 _ rfl⟩
def trucksE (l : List Trk) : Int := if l.all fun o => trkE o == 0 then 0 else 1

set_option maxHeartbeats 2000000 in
theorem each_trk (a : Option Addr) (l : List Trk) (len cap : Nat) (w : World) (hl : l.length = len) (hr : ReadsT w a l) (hm : len ≤ 9223372036854775807) :
    Calls Try.prog 53 #[.slice a len cap, .func (.func 29) #[] #[]] w fun e w' => e = .returned (.int .i64 (trucksE l)) ∧ Below w.heap.size w w' := by
  have HR := Lib.hid hr; have HL := Lib.hid hl
  clear hr hl
  go_enter Try.func53, Try.ntmps53
  go_wp2_with fail
  go_loopw [10] (fun i wr => ∃ k : Nat, k ≤ len ∧ i = .int .i64 k ∧ (∀ j, j < k → trkE (trkAt l j) = 0) ∧ Below w.heap.size w wr) (fun i wr => len - (intOf i).toNat)
  case atStart => exact ⟨0, by omega, rfl, fun j hj => by omega, Below.refl _ _⟩
  case round =>
    obtain ⟨k, hk, rfl, hO, hb⟩ := hrel
    have HO := Lib.hid hO; have HB := Lib.hid hb
    clear hO hb
    by_cases hlt : k < len
    · have hkl : k < l.length := by rw [HL.out]; exact hlt
      obtain ⟨b, off, ha, hc⟩ := HR.out.below HB.out (by omega)
      subst ha
      obtain ⟨c0, c1, c2, c3, c4, c5, c6⟩ := trkCells_at (hc k hkl)
      have HK := Lib.hid hkl
      obtain ⟨o, ho⟩ : ∃ o, trkAt l k = o := ⟨_, rfl⟩
      rw [ho] at c0 c1 c2 c3 c4 c5 c6
      have HOO := Lib.hid ho
      have hB2 : Below wr.heap.size wr (wr.alloc (.cells #[.int .i64 o.id, .int .i64 o.weight, .int .i64 o.volume, .int .i64 o.start, .int .i64 o.stop, .int .i64 o.fixed, .int .i64 o.rate] 42)) := (Below.refl _ _).alloc (Nat.le_refl _) _
      have HC := Lib.hid (truck_any o (wr.alloc (.cells #[.int .i64 o.id, .int .i64 o.weight, .int .i64 o.volume, .int .i64 o.start, .int .i64 o.stop, .int .i64 o.fixed, .int .i64 o.rate] 42)))
      have HB2 := Lib.hid (below_on HB.out hB2)
      clear hc hkl ho hB2
      go_wp2_with fail
      refine HC.out.mono ?_
      rintro _ w1 ⟨rfl, hw1⟩
      have H1 := Lib.hid (below_on HB2.out hw1)
      clear hw1 c0 c1 c2 c3 c4 c5 c6 HC
      by_cases h0 : trkE o = 0
      · have HN : Hid (∀ j, j < k + 1 → trkE (trkAt l j) = 0) := fun j hj => by
          by_cases e : j = k
          · subst e; rw [HOO.out]; exact h0
          · exact HO.out j (by omega)
        rw [h0]
        clear h0
        go_wp2_with fail
        go_roundw
        case rel => exact ⟨k + 1, by omega, by go_num, HN.out, H1.out⟩
        case measure => simp [intOf]; omega
      · have h1 : trkE o = 1 := (withinE_01 _).resolve_left h0
        have F := Lib.hid (show (1 : Int) = trucksE l by
          unfold trucksE
          have : (l.all fun o => trkE o == 0) = false := by
            rw [← Bool.not_eq_true, List.all_eq_true]
            intro hall
            have := hall (trkAt l k) (by unfold trkAt; simp [HK.out])
            rw [HOO.out] at this
            exact h0 (by simpa using this)
          rw [this]; rfl)
        rw [h1]
        clear h0 h1
        go_wp2_with fail
        go_ret
        exact ⟨ret_i64 F.out, H1.out⟩
    · obtain rfl : k = len := by omega
      have F := Lib.hid (show (0 : Int) = trucksE l by
        unfold trucksE
        have : (l.all fun o => trkE o == 0) = true := by
          rw [List.all_eq_true]
          intro x hx
          obtain ⟨j, hj, rfl⟩ := List.getElem_of_mem hx
          have := HO.out j (by rw [← HL.out]; exact hj)
          unfold trkAt at this
          rw [List.getD_eq_getElem?_getD, List.getElem?_eq_getElem hj] at this
          simpa using this
        rw [this]; rfl)
      go_wp2_with fail
      go_ret
      exact ⟨ret_i64 F.out, HB.out⟩
end Go.Proofs.Ytakiciemkecgfaa.Load

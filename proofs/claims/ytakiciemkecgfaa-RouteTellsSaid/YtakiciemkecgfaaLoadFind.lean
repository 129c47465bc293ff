/-
  The walks of load's Find, with IndexFunc over orders and the closure.
-/
import Derived.Test.YtakiciemkecgfaaLoadSum
namespace Go.Proofs.Ytakiciemkecgfaa.Load
open Go.RowKit Go.Proofs Go.Proofs.Ytakiciemkecgfaa.AreaMath Go.Proofs.Ytakiciemkecgfaa.Area
set_option maxRecDepth 100000
set_option linter.unusedVariables false

set_option maxHeartbeats 1000000 in
theorem find_cl (o : Ord) (id : Int) (B : Nat) (w : World) (hB : w.cell? ⟨B, 0, none⟩ = some (.int .i64 id)) :
    Calls Try.prog 59 #[.agg o.cells, .pointer (some ⟨B, 0, none⟩)] w fun e w' => e = .returned (.bool (o.id == id)) ∧ Below w.heap.size w w' := by
  obtain ⟨oid, owner, node, weight, volume, frm, to, service⟩ := o
  unfold Ord.cells
  dsimp only
  have HB : Hid (Below w.heap.size w (w.alloc (.cells #[.int .i64 oid, .int .i64 owner, .int .i64 node, .int .i64 weight, .int .i64 volume, .int .i64 frm, .int .i64 to, .int .i64 service] 44))) := (Below.refl _ _).alloc (Nat.le_refl _) _
  have hB1 := cell_on HB.out hB
  go_enter Try.func59, Try.ntmps59
  go_wp2_with fail
  go_ret
  exact ⟨rfl, HB.out⟩

/-- the place of the first order of a number, or -1 -/
def Found (l : List Ord) (id r : Int) : Prop := (r = -1 ∧ ∀ j, j < l.length → (ordAt l j).id ≠ id) ∨ ∃ k : Nat, k < l.length ∧ r = k ∧ (ordAt l k).id = id ∧ ∀ j, j < k → (ordAt l j).id ≠ id
def NotTo (l : List Ord) (id : Int) (k : Nat) : Prop := ∀ j, j < k → (ordAt l j).id ≠ id

set_option maxHeartbeats 2000000 in
theorem index_ord (a : Option Addr) (l : List Ord) (len cap : Nat) (id : Int) (B : Nat) (w : World) (hl : l.length = len) (hr : ReadsO w a l) (hm : len ≤ 9223372036854775807) (hB : w.cell? ⟨B, 0, none⟩ = some (.int .i64 id)) :
    Calls Try.prog 58 #[.slice a len cap, .func (.func 59) #[] #[.pointer (some ⟨B, 0, none⟩)]] w fun e w' => ∃ r : Int, e = .returned (.int .i64 r) ∧ Found l id r ∧ Below w.heap.size w w' := by
  have HR := Lib.hid hr; have HL := Lib.hid hl; have HBX := Lib.hid hB
  clear hr hl hB
  go_enter Try.func58, Try.ntmps58
  go_wp2_with fail
  go_loopw [8] (fun i wr => ∃ k : Nat, k ≤ len ∧ i = .int .i64 k ∧ NotTo l id k ∧ Below w.heap.size w wr) (fun i wr => len - (intOf i).toNat)
  case atStart => exact ⟨0, by omega, rfl, fun j hj => by omega, Below.refl _ _⟩
  case round =>
    obtain ⟨k, hk, rfl, hO, hb⟩ := hrel
    have HO := Lib.hid hO; have HB := Lib.hid hb
    clear hO hb
    by_cases hlt : k < len
    · have hkl : k < l.length := by rw [HL.out]; exact hlt
      obtain ⟨b, off, ha, hc⟩ := HR.out.below HB.out (by omega)
      subst ha
      obtain ⟨c0, c1, c2, c3, c4, c5, c6, c7⟩ := ordCells_at (hc k hkl)
      have HK := Lib.hid hkl
      have HC := Lib.hid (find_cl (ordAt l k) id B wr (cell_on HB.out HBX.out))
      obtain ⟨o, ho⟩ : ∃ o, ordAt l k = o := ⟨_, rfl⟩
      rw [ho] at c0 c1 c2 c3 c4 c5 c6 c7 HC
      have HOO := Lib.hid ho
      clear hc hkl ho
      go_wp2_with fail
      refine HC.out.mono ?_
      rintro _ w1 ⟨rfl, hw1⟩
      have H1 := Lib.hid (below_on HB.out hw1)
      clear hw1 c0 c1 c2 c3 c4 c5 c6 c7 HC
      by_cases hid : o.id = id
      · have hidb : (o.id == id) = true := beq_iff_eq.2 hid
        have F : Hid (Found l id k) := .inr ⟨k, HK.out, rfl, by rw [HOO.out]; exact hid, HO.out⟩
        clear hid
        go_wp2_with fail
        go_ret
        exact ⟨_, rfl, F.out, H1.out⟩
      · have hidb : (o.id == id) = false := beq_eq_false_iff_ne.2 hid
        have HN : Hid (NotTo l id (k + 1)) := fun j hj => by
          by_cases e : j = k
          · subst e; rw [HOO.out]; exact hid
          · exact HO.out j (by omega)
        clear hid
        go_wp2_with fail
        go_roundw
        case rel => exact ⟨k + 1, by omega, by go_num, HN.out, H1.out⟩
        case measure => simp [intOf]; omega
    · obtain rfl : k = len := by omega
      have F : Hid (Found l id (-1)) := .inl ⟨rfl, by rw [HL.out]; exact HO.out⟩
      go_wp2_with fail
      go_ret
      exact ⟨_, rfl, F.out, HB.out⟩

set_option maxHeartbeats 1000000 in
theorem find_any (a : Option Addr) (l : List Ord) (len cap : Nat) (id : Int) (w : World) (hl : l.length = len) (hr : ReadsO w a l) (hm : len ≤ 9223372036854775807) :
    Calls Try.prog 33 #[.slice a len cap, .int .i64 id] w fun e w' => ∃ r : Int, e = .returned (.int .i64 r) ∧ Found l id r ∧ Below w.heap.size w w' := by
  have HB : Hid (Below w.heap.size w (w.alloc (.cells #[.int .i64 id] 3))) := (Below.refl _ _).alloc (Nat.le_refl _) _
  have HC := Lib.hid (index_ord a l len cap id w.heap.size (w.alloc (.cells #[.int .i64 id] 3)) hl (hr.below HB.out) hm (box_cell w _ _ 0 _ rfl))
  clear hl hr
  go_enter Try.func33, Try.ntmps33
  go_wp2_with fail
  refine HC.out.mono ?_
  rintro _ w1 ⟨r, rfl, hf, hb⟩
  have HF := Lib.hid hf; have H1 := Lib.hid (below_on HB.out hb)
  clear hf hb
  go_wp2_with fail
  go_ret
  exact ⟨_, rfl, HF.out, H1.out⟩
end Go.Proofs.Ytakiciemkecgfaa.Load

/-
  The walks of load's alike, over orders and over trucks: a set of numbers, and how many there are.
-/
import Derived.Test.YtakiciemkecgfaaLoadCarries
import Derived.Maps.OwnSet
import Derived.Maps.OwnOps
namespace Go.Proofs.Ytakiciemkecgfaa.Load
open Go.RowKit Go.Proofs Go.Maps Go.WideMaps Go.Proofs.Ytakiciemkecgfaa.AreaMath Go.Proofs.Ytakiciemkecgfaa.Area
set_option maxRecDepth 100000
set_option linter.unusedVariables false

def keysI (ids : List Int) (k : Nat) : List Lit := (ids.take k).map fun x => .int .i64 x
def SnI {H : Type} (ids : List Int) (k : Nat) : DataW H := setOf (.lit (.bool true)) (keysI ids k)
theorem keysI_succ (ids : List Int) (k : Nat) (hk : k < ids.length) : keysI ids (k + 1) = keysI ids k ++ [.int .i64 (at_ ids k)] := by
  unfold keysI
  rw [take_snoc ids k hk, List.map_append]; rfl
theorem SnI_succ {H : Type} (ids : List Int) (k : Nat) (hk : k < ids.length) : SnI (H := H) ids (k + 1) = (SnI ids k).put (.int .i64 (at_ ids k)) (.lit (.bool true)) := by
  unfold SnI
  rw [keysI_succ ids k hk, setOf_snoc]
theorem SnI_zero {H : Type} (ids : List Int) : SnI (H := H) ids 0 = .map [] := by simp [SnI, keysI, setOf]
theorem lawK : Keyed Try.prog 3 := int_keyed Try.underlying3
/-- are two alike? -/
def dupB (ids : List Int) : Bool := decide (Maps.size (SnI (H := Unit) ids ids.length) < ids.length)

set_option maxHeartbeats 1000000 in
theorem id_cl (o : Ord) (w : World) :
    Calls Try.prog 55 #[.agg o.cells] w fun e w' => e = .returned (.int .i64 o.id) ∧ Below w.heap.size w w' := by
  obtain ⟨oid, owner, node, weight, volume, frm, to, service⟩ := o
  unfold Ord.cells
  dsimp only
  have HB : Hid (Below w.heap.size w (w.alloc (.cells #[.int .i64 oid, .int .i64 owner, .int .i64 node, .int .i64 weight, .int .i64 volume, .int .i64 frm, .int .i64 to, .int .i64 service] 44))) := (Below.refl _ _).alloc (Nat.le_refl _) _
  go_enter Try.func55, Try.ntmps55
  go_wp2_with fail
  go_ret
  exact ⟨rfl, HB.out⟩

theorem below_grown {w w1 : World} (hb : Below w.heap.size w w1) : w.grownBy w1 none := ⟨hb.os, hb.tape, hb.output, hb.size, fun k hk _ => hb.block k hk⟩
def ids (l : List Ord) : List Int := l.map Ord.id
set_option maxHeartbeats 2000000 in
theorem alike_ord (a : Option Addr) (l : List Ord) (len cap : Nat) (w : World) (hl : l.length = len) (hr : ReadsO w a l) (hm : len ≤ 9223372036854775806) (hw : ∀ o ∈ l, (Lit.int .i64 o.id).wf = true) :
    Calls Try.prog 54 #[.slice a len cap, .func (.func 55) #[] #[]] w fun e w' => e = .returned (.bool (dupB (ids l))) ∧ Below w.heap.size w w' := by
  have HR := Lib.hid hr; have HL := Lib.hid hl; have HWF := Lib.hid hw
  clear hr hl hw
  have hmm := @run_makeMap Try.prog
  go_enter Try.func54, Try.ntmps54
  go_wp2_with fail
  go_loopw [11] (fun i wr => ∃ k : Nat, k ≤ len ∧ i = .int .i64 k ∧ wr.ownsMap Try.prog 3 (plainElem Try.prog 4) w.heap.size k (SnI (H := Unit) (ids l) k) ∧ Below w.heap.size w wr)
    (fun i _ => len - (intOf i).toNat)
  case atStart => exact ⟨0, Nat.zero_le _, rfl, by rw [SnI_zero]; exact World.ownsMap_made _ _ _ _, (Below.refl _ _).alloc (Nat.le_refl _) _⟩
  case round =>
    obtain ⟨k, hk, rfl, hown, hnx⟩ := hrel
    have HO := Lib.hid hown; have HB := Lib.hid hnx
    clear hown hnx
    by_cases hlt : k < len
    · have hkl : k < l.length := by rw [HL.out]; exact hlt
      obtain ⟨b, off, ha, hc⟩ := HR.out.below HB.out (by omega)
      subst ha
      obtain ⟨c0, c1, c2, c3, c4, c5, c6, c7⟩ := ordCells_at (hc k hkl)
      have hkey := keyOf_int_mk (P := Try.prog) Try.underlying3 (HWF.out (ordAt l k) (by unfold ordAt; simp [hkl]))
      have hsucc := SnI_succ (H := Unit) (ids l) k (by unfold ids; simpa using hkl)
      have hat : at_ (ids l) k = (ordAt l k).id := by unfold at_ ids ordAt; simp [hkl]
      rw [hat] at hsucc
      obtain ⟨o, ho⟩ : ∃ o, ordAt l k = o := ⟨_, rfl⟩
      rw [ho] at c0 c1 c2 c3 c4 c5 c6 c7 hkey hsucc
      have HK := Lib.hid hkey; have HS := Lib.hid hsucc
      have HC := Lib.hid (id_cl o (wr.alloc (.cells #[.int .i64 o.id, .int .i64 o.owner, .int .i64 o.node, .int .i64 o.weight, .int .i64 o.volume, .int .i64 o.frm, .int .i64 o.to, .int .i64 o.service] 44)))
      have HB2 := Lib.hid (HB.out.alloc HB.out.size (.cells #[.int .i64 o.id, .int .i64 o.owner, .int .i64 o.node, .int .i64 o.weight, .int .i64 o.volume, .int .i64 o.frm, .int .i64 o.to, .int .i64 o.service] 44))
      have HO2 := Lib.hid (HO.out.alloc (.cells #[.int .i64 o.id, .int .i64 o.owner, .int .i64 o.node, .int .i64 o.weight, .int .i64 o.volume, .int .i64 o.frm, .int .i64 o.to, .int .i64 o.service] 44))
      clear hc hkl ho hat hkey hsucc
      go_wp2_with fail
      refine HC.out.mono ?_
      rintro _ w1 ⟨rfl, hw1⟩
      have HO3 := Lib.hid (HO2.out.kept (below_grown hw1) (by simp))
      have HB3 := Lib.hid (below_on HB2.out hw1)
      clear hw1 c0 c1 c2 c3 c4 c5 c6 c7 HC HO HO2
      go_wp2_with (at_mapUpdate; refine wpList_mapUpdate_own _ rfl _ _ _ 111 rfl 3 4 lawK Try.underlying111 (plainElem (H := Unit) Try.prog 4) w.heap.size k _ rfl HO3.out (by unfold maxLen; omega) _ _ _ rfl rfl HK.out _ [] (plainElem_bool Try.underlying4 true) ?_; intro w2 hown2 hgrow2)
      go_roundw
      case rel => exact ⟨k + 1, by omega, by go_num, HS.out.symm ▸ hown2, HB3.out.grown hgrow2 HB3.out.size (fun j hj => by cases hj; exact Nat.le_refl _)⟩
      case measure => simp [intOf]; omega
    · obtain rfl : k = len := by omega
      have hf : dupB (ids l) = decide (Maps.size (SnI (H := Unit) (ids l) k) < k) := by
        unfold dupB
        have e : (ids l).length = k := by unfold ids; rw [List.length_map]; exact HL.out
        rw [e]
      have F := Lib.hid hf
      clear hf
      go_wp2_with (at_len; refine wpList_len_own _ rfl _ 111 rfl 3 4 Try.underlying111 (plainElem (H := Unit) Try.prog 4) w.heap.size k _ rfl HO.out ?_)
      go_ret
      exact ⟨ret_bool F.out.symm, HB.out⟩
set_option maxHeartbeats 1000000 in
theorem idt_cl (o : Trk) (w : World) :
    Calls Try.prog 57 #[.agg o.cells] w fun e w' => e = .returned (.int .i64 o.id) ∧ Below w.heap.size w w' := by
  obtain ⟨oid, weight, volume, start, stop, fixed, rate⟩ := o
  unfold Trk.cells
  dsimp only
  have HB : Hid (Below w.heap.size w (w.alloc (.cells #[.int .i64 oid, .int .i64 weight, .int .i64 volume, .int .i64 start, .int .i64 stop, .int .i64 fixed, .int .i64 rate] 42))) := (Below.refl _ _).alloc (Nat.le_refl _) _
  go_enter Try.func57, Try.ntmps57
  go_wp2_with fail
  go_ret
  exact ⟨rfl, HB.out⟩

def idsT (l : List Trk) : List Int := l.map Trk.id
set_option maxHeartbeats 2000000 in
theorem alike_trk (a : Option Addr) (l : List Trk) (len cap : Nat) (w : World) (hl : l.length = len) (hr : ReadsT w a l) (hm : len ≤ 9223372036854775806) (hw : ∀ o ∈ l, (Lit.int .i64 o.id).wf = true) :
    Calls Try.prog 56 #[.slice a len cap, .func (.func 57) #[] #[]] w fun e w' => e = .returned (.bool (dupB (idsT l))) ∧ Below w.heap.size w w' := by
  have HR := Lib.hid hr; have HL := Lib.hid hl; have HWF := Lib.hid hw
  clear hr hl hw
  have hmm := @run_makeMap Try.prog
  go_enter Try.func56, Try.ntmps56
  go_wp2_with fail
  go_loopw [11] (fun i wr => ∃ k : Nat, k ≤ len ∧ i = .int .i64 k ∧ wr.ownsMap Try.prog 3 (plainElem Try.prog 4) w.heap.size k (SnI (H := Unit) (idsT l) k) ∧ Below w.heap.size w wr)
    (fun i _ => len - (intOf i).toNat)
  case atStart => exact ⟨0, Nat.zero_le _, rfl, by rw [SnI_zero]; exact World.ownsMap_made _ _ _ _, (Below.refl _ _).alloc (Nat.le_refl _) _⟩
  case round =>
    obtain ⟨k, hk, rfl, hown, hnx⟩ := hrel
    have HO := Lib.hid hown; have HB := Lib.hid hnx
    clear hown hnx
    by_cases hlt : k < len
    · have hkl : k < l.length := by rw [HL.out]; exact hlt
      obtain ⟨b, off, ha, hc⟩ := HR.out.below HB.out (by omega)
      subst ha
      obtain ⟨c0, c1, c2, c3, c4, c5, c6⟩ := trkCells_at (hc k hkl)
      have hkey := keyOf_int_mk (P := Try.prog) Try.underlying3 (HWF.out (trkAt l k) (by unfold trkAt; simp [hkl]))
      have hsucc := SnI_succ (H := Unit) (idsT l) k (by unfold idsT; simpa using hkl)
      have hat : at_ (idsT l) k = (trkAt l k).id := by unfold at_ idsT trkAt; simp [hkl]
      rw [hat] at hsucc
      obtain ⟨o, ho⟩ : ∃ o, trkAt l k = o := ⟨_, rfl⟩
      rw [ho] at c0 c1 c2 c3 c4 c5 c6 hkey hsucc
      have HK := Lib.hid hkey; have HS := Lib.hid hsucc
      have HC := Lib.hid (idt_cl o (wr.alloc (.cells #[.int .i64 o.id, .int .i64 o.weight, .int .i64 o.volume, .int .i64 o.start, .int .i64 o.stop, .int .i64 o.fixed, .int .i64 o.rate] 42)))
      have HB2 := Lib.hid (HB.out.alloc HB.out.size (.cells #[.int .i64 o.id, .int .i64 o.weight, .int .i64 o.volume, .int .i64 o.start, .int .i64 o.stop, .int .i64 o.fixed, .int .i64 o.rate] 42))
      have HO2 := Lib.hid (HO.out.alloc (.cells #[.int .i64 o.id, .int .i64 o.weight, .int .i64 o.volume, .int .i64 o.start, .int .i64 o.stop, .int .i64 o.fixed, .int .i64 o.rate] 42))
      clear hc hkl ho hat hkey hsucc
      go_wp2_with fail
      refine HC.out.mono ?_
      rintro _ w1 ⟨rfl, hw1⟩
      have HO3 := Lib.hid (HO2.out.kept (below_grown hw1) (by simp))
      have HB3 := Lib.hid (below_on HB2.out hw1)
      clear hw1 c0 c1 c2 c3 c4 c5 c6 HC HO HO2
      go_wp2_with (at_mapUpdate; refine wpList_mapUpdate_own _ rfl _ _ _ 111 rfl 3 4 lawK Try.underlying111 (plainElem (H := Unit) Try.prog 4) w.heap.size k _ rfl HO3.out (by unfold maxLen; omega) _ _ _ rfl rfl HK.out _ [] (plainElem_bool Try.underlying4 true) ?_; intro w2 hown2 hgrow2)
      go_roundw
      case rel => exact ⟨k + 1, by omega, by go_num, HS.out.symm ▸ hown2, HB3.out.grown hgrow2 HB3.out.size (fun j hj => by cases hj; exact Nat.le_refl _)⟩
      case measure => simp [intOf]; omega
    · obtain rfl : k = len := by omega
      have hf : dupB (idsT l) = decide (Maps.size (SnI (H := Unit) (idsT l) k) < k) := by
        unfold dupB
        have e : (idsT l).length = k := by unfold idsT; rw [List.length_map]; exact HL.out
        rw [e]
      have F := Lib.hid hf
      clear hf
      go_wp2_with (at_len; refine wpList_len_own _ rfl _ 111 rfl 3 4 Try.underlying111 (plainElem (H := Unit) Try.prog 4) w.heap.size k _ rfl HO.out ?_)
      go_ret
      exact ⟨ret_bool F.out.symm, HB.out⟩
end Go.Proofs.Ytakiciemkecgfaa.Load

/-
  The walk of groupagelaw02's awake.
-/
import Derived.Test.YtknpncnogocbjaaMore
import Derived.Lib.SlBytesConst
import Derived.Lib.SmallJoins
namespace Go.Proofs.Ytknpncnogocbjaa.Crc
open Go.RowKit Go.Proofs Go.Proofs.Ytknpncnogocbjaa.CrcMath
set_option maxRecDepth 100000
set_option linter.unusedVariables false

theorem reads_new (w : World) (t : TypeId) (fr : Nat × Nat) (l : List Nat) (hl : ∀ x ∈ l, x < 256) : ReadsB (w.alloc (.cells (l.map fun x => Value.int .u8 (x : Nat)).toArray t fr)) (some ⟨w.heap.size, 0, none⟩) l := by
  refine ⟨hl, fun _ => ⟨_, _, rfl, fun k hk => ?_⟩⟩
  have e := heap_alloc_new w (.cells (l.map fun x => Value.int .u8 (x : Nat)).toArray t fr)
  unfold World.cell?
  simp only [e]
  simp [at_, hk]
theorem nine : more 0 [49, 50, 51, 52, 53, 54, 55, 56, 57] = 3421780262 := by decide +kernel
theorem ev1 : ev 1 = 1996959894 := by decide +kernel
theorem ev255 : ev 255 = 755167117 := by decide +kernel

theorem sum_nine (a : Option Addr) (w : World) (hr : ReadsB w a [49, 50, 51, 52, 53, 54, 55, 56, 57]) :
    Calls Try.prog 12 #[.slice a 9 9] w fun e w' => e = .returned (.int .u32 3421780262) ∧ Below w.heap.size w w' := by
  have := sum_any a 9 [49, 50, 51, 52, 53, 54, 55, 56, 57] 9 w rfl (by decide) hr
  rwa [nine] at this
theorem sum_nil (w : World) : Calls Try.prog 12 #[.slice none 0 0] w fun e w' => e = .returned (.int .u32 0) ∧ Below w.heap.size w w' := by
  have := sum_any none 0 [] 0 w rfl (by decide) ⟨by simp, by simp⟩
  rwa [show more 0 [] = 0 by decide] at this
theorem tab1 : (tab 256)[1]? = some (.int .u32 1996959894) := by rw [tab_get 256 1 (by decide), if_pos (by decide), ev1]; rfl
theorem tab255 : (tab 256)[255]? = some (.int .u32 755167117) := by rw [tab_get 256 255 (by decide), if_pos (by decide), ev255]; rfl

theorem const_bytes (w : World) (o : Obj) (C : Array Value) (n c : Nat) :
    (convert 23 23 (.slice (some ⟨w.heap.size + 1, 0, none⟩) n c)).run Try.prog ((w.alloc o).alloc (.cells C 5)) = .ok (.slice (some ⟨w.heap.size + 1, 0, none⟩) n c) ((w.alloc o).alloc (.cells C 5 (C.size, C.size + 1))) := by
  have := Lib.run_convert_bytes_const (P := Try.prog) (w.alloc o) 23 5 C n c Try.underlying23 Try.underlying5
  have e : (w.alloc o).heap.size = w.heap.size + 1 := by simp
  rwa [e] at this

theorem tab_kept {w1 w2 : World} {B i : Nat} {v : Value} (h : (tab 256)[i]? = some v) (hb : Below (w1.heap.size + B) (w1.alloc (.cells (tab 256) 25)) w2) (hB : 0 < B) : w2.cell? ⟨w1.heap.size, i, none⟩ = some v := by
  rw [hb.cell (p := ⟨w1.heap.size, i, none⟩) (by show w1.heap.size < _; omega)]
  unfold World.cell?
  simp only [heap_alloc_new]
  exact h

set_option maxHeartbeats 400000 in
theorem awake_any (w : World) : Calls Try.prog 10 #[] w fun e w' => e = .returned (.bool true) ∧ Below w.heap.size w w' := by
  have hz := zero25
  have kc := const_bytes
  go_enter Try.func10, Try.ntmps10
  go_wp2_with fail
  refine (table_any _).mono ?_; rintro _ w1 ⟨rfl, hw1⟩
  have hi : (Try.prog.info? 25).map (·.size) = some (tab 256).size := by rw [tab_size]; exact size25
  have HI := Lib.hid hi; clear hi
  go_wp2_with (refine wpList_store_row rfl 25 _ _ rfl w1.heap.size (tab 256) rfl rfl 25 (tab 0) (heap_alloc_new _ _) HI.out (by rw [tab_size, tab_size]) (tab_one _) ?_; rw [World.setRow_alloc_new])
  clear kc hz
  refine (sum_nine _ _ ?_).mono ?_
  · have := reads_new (w1.alloc (.cells (tab 256) 25)) 5 (9, 10) [49, 50, 51, 52, 53, 54, 55, 56, 57] (by decide)
    have e : (w1.alloc (.cells (tab 256) 25)).heap.size = w1.heap.size + 1 := by simp
    rw [e] at this
    exact this
  rintro _ w2 ⟨rfl, hw2⟩
  go_wp2_with fail
  refine (sum_nil _).mono ?_; rintro _ w3 ⟨rfl, hw3⟩
  have hz1 : w1.heap.size + 2 ≤ w2.heap.size := by have h := hw2.size; simp at h; omega
  have hB : Below (w1.heap.size + 1) (w1.alloc (.cells (tab 256) 25)) w3 :=
    (((Below.refl _ _).alloc (by simp) _).trans (hw2.mono (by simp))).trans (hw3.mono (by omega))
  have hW : Below w.heap.size w w3 := (hw1.alloc hw1.size _).trans (hB.mono (by have := hw1.size; omega))
  have c1 := tab_kept tab1 hB (by decide)
  have c2 := tab_kept tab255 hB (by decide)
  have HW := Lib.hid hW
  clear hW hB hz1 hw2 hw3 hw1
  go_wp2_with fail
  go_ret
  exact ⟨rfl, HW.out⟩
end Go.Proofs.Ytknpncnogocbjaa.Crc

/-
  The walk of CrcTells.
-/
import Derived.Test.YtknpncnogocbjaaCrcFrom
namespace Go.Proofs.Ytknpncnogocbjaa.Crc
open Go.RowKit Go.Proofs Go.Proofs.Ytknpncnogocbjaa.CrcMath
set_option maxRecDepth 100000
set_option linter.unusedVariables false

set_option maxHeartbeats 1000000 in
theorem tells_walk (sum i : Nat) (at_ : Int) (a : Option Addr) (cap n : Nat) (l : List Nat) (w : World) (hs : sum < 4294967296) (hi : i < 256) (hat : bits .and .i64 at_ 255 = (i : Int))
    (hl : l.length = n) (hn : n ≤ 9223372036854775807) (hr : ReadsB w a l) :
    Calls Try.prog 3 #[.int .u32 sum, .slice a n cap, .int .i64 at_] w fun e w' => e = .returned (.bool true) ∧ Below w.heap.size w w' := by
  have HL := Lib.hid hl; clear hl
  have HR := Lib.hid hr; clear hr
  have hz := zero25
  by_cases hm : 2000 < n
  · go_enter Try.func3, Try.ntmps3
    go_wp2_with fail
    refine (awake_any _).mono ?_; rintro _ w1 ⟨rfl, hw1⟩
    go_wp2_with fail
    go_ret
    exact ⟨rfl, hw1⟩
  have hm' : n ≤ 2000 := by omega
  clear hm
  have hi' : (Try.prog.info? 25).map (·.size) = some (tab 256).size := by rw [tab_size]; exact size25
  have HI := Lib.hid hi'; clear hi'
  go_enter Try.func3, Try.ntmps3
  go_wp2_with fail
  refine (awake_any _).mono ?_; rintro _ w1 ⟨rfl, hw1⟩
  go_wp2_with fail
  refine (table_any _).mono ?_; rintro _ w2 ⟨rfl, hw2⟩
  go_wp2_with (refine wpList_store_row rfl 25 _ _ rfl w2.heap.size (tab 256) rfl rfl 25 (tab 0) (heap_alloc_new _ _) HI.out (by rw [tab_size, tab_size]) (tab_one _) ?_; rw [World.setRow_alloc_new])
  have hc0 : (w2.alloc (.cells (tab 256) 25)).cell? ⟨w2.heap.size, i, none⟩ = some (.int .u32 (ev i : Nat)) := by
    have := tab_get 256 i hi
    rw [if_pos hi] at this
    unfold World.cell?
    simp only [heap_alloc_new]
    exact this
  have hg0 : w2.heap.size < (w2.alloc (.cells (tab 256) 25)).heap.size := by simp
  have hB0 : Below w.heap.size w (w2.alloc (.cells (tab 256) 25)) := (hw1.trans (hw2.mono hw1.size)).alloc (Nat.le_trans hw1.size hw2.size) _
  have HR0 := Lib.hid (HR.out.below hB0)
  have HB0 := Lib.hid hB0
  clear hB0 HR hz hat HI hw1 hw2
  generalize w2.alloc (.cells (tab 256) 25) = W0 at *
  generalize w2.heap.size = g at *
  have keep : ∀ W, Below W0.heap.size W0 W → W.cell? ⟨g, i, none⟩ = some (.int .u32 (ev i : Nat)) := fun W hb => by rw [hb.cell (p := ⟨g, i, none⟩) hg0]; exact hc0
  have K := Lib.hid keep; clear keep
  have hwr : IntKind.u32.wrap (i : Int) = (i : Int) := by rw [IntKind.wrap_u32']; omega
  go_region_with (first
    | (go_at_call 12; refine (sum_from (w0 := W0) ?_ HR0 HL hn).mono ?_; (first | assumption | exact (Below.refl _ _).drew); rintro _ w5 ⟨rfl, h5⟩; have c5 := K.out _ h5)
    | (go_at_call 13; refine (rsum_from (w0 := W0) ?_ HR0 HL hn).mono ?_; (first | assumption | exact (Below.refl _ _).drew); rintro _ w5 ⟨rfl, h5⟩; have c5 := K.out _ h5)
    | (go_at_call 14; refine (more_from (w0 := W0) ?_ hs HR0 HL hn).mono ?_; (first | assumption | exact (Below.refl _ _).drew); rintro _ w5 ⟨rfl, h5⟩; have c5 := K.out _ h5)
    | (go_at_call 15; refine (rmore_from (w0 := W0) ?_ hs HR0 HL hn).mono ?_; (first | assumption | exact (Below.refl _ _).drew); rintro _ w5 ⟨rfl, h5⟩; have c5 := K.out _ h5)
    | (go_at_call 16; refine (eight_from (w0 := W0) ?_ (by omega)).mono ?_; (first | assumption | exact (Below.refl _ _).drew); rintro _ w5 ⟨rfl, h5⟩; have c5 := K.out _ h5))
  all_goals go_wp2_with fail
  all_goals go_ret
  all_goals exact ⟨rfl, below_on HB0.out (by assumption)⟩
end Go.Proofs.Ytknpncnogocbjaa.Crc

/-
  The walk of crc's Table: 256 numbers, each what comes of its place by eight steps.
-/
import Derived.Test.YtknpncnogocbjaaProg
import Derived.Test.YtknpncnogocbjaaCrcMath
import Derived.WalkKit
import Derived.WalkLawsBesides
import Derived.WalkSpells
import Derived.Lib.Hide
import Derived.Deep.WholeRow
import Derived.Laws.CopyOwn
namespace Go.Proofs.Ytknpncnogocbjaa.Crc
open Go.RowKit Go.Proofs Go.Proofs.Ytknpncnogocbjaa.CrcMath
set_option maxRecDepth 100000
set_option linter.unusedVariables false

/-- The table, k of its places filled. -/
def tab (k : Nat) : Array Value := (Array.range 256).map fun i => if i < k then .int .u32 (ev i : Nat) else .int .u32 0
theorem tab_size (k : Nat) : (tab k).size = 256 := by simp [tab]
theorem tab_get (k i : Nat) (h : i < 256) : (tab k)[i]? = some (if i < k then .int .u32 (ev i : Nat) else .int .u32 0) := by
  unfold tab
  rw [Array.getElem?_map, Array.getElem?_range]
  simp [h]
theorem tab_set (k : Nat) (h : k < 256) : (tab k).setIfInBounds k (.int .u32 (ev k : Nat)) = tab (k + 1) := by
  apply Array.ext_getElem?
  intro i
  rw [Array.getElem?_setIfInBounds]
  by_cases hi : i < 256
  · rw [tab_get _ _ hi, tab_get _ _ hi]
    by_cases e : k = i
    · subst e; simp [tab_size, h]
    · rw [if_neg e]
      by_cases h2 : i < k
      · rw [if_pos h2, if_pos (by omega)]
      · rw [if_neg h2, if_neg (by omega)]
  · have e1 : (tab k)[i]? = none := Array.getElem?_eq_none (by rw [tab_size]; omega)
    have e2 : (tab (k + 1))[i]? = none := Array.getElem?_eq_none (by rw [tab_size]; omega)
    rw [e1, e2, if_neg (by omega)]
theorem tab_one (k : Nat) : (tab k).all (·.oneCell') = true := by
  rw [Array.all_eq_true]
  intro i hi
  have := tab_get k i (by rw [tab_size] at hi; exact hi)
  rw [Array.getElem?_eq_getElem hi] at this
  rw [Option.some.inj this]
  split <;> rfl
theorem zero25 (w : World) : (zeroValue 25).run Try.prog w = .ok (.agg (tab 0)) w := by kernel_rfl
theorem size25 : (Try.prog.info? 25).map (·.size) = some 256 := by kernel_rfl

theorem sts_succ (m n : Nat) : sts (m + 1) n = st (sts m n) := by rw [sts_add]; rfl
theorem and_one (c : Nat) (h : c < 4294967296) : bits .and .u32 (c : Int) 1 = ((c % 2 : Nat) : Int) := by
  have := u32_and_nat c 1 h (by decide)
  rw [nat_mask1] at this
  exact this
theorem bits_step (c : Nat) (h : c < 4294967296) : bits .xor .u32 ((c : Int) / 2) (bits .and .u32 3988292384 (-(bits .and .u32 (c : Int) 1) % 4294967296)) = ((st c : Nat) : Int) := by
  rw [and_one c h]
  unfold st poly
  rcases (by omega : c % 2 = 0 ∨ c % 2 = 1) with e | e
  · rw [e, if_neg (by decide)]
    have e1 : bits .and .u32 3988292384 (-((0 : Nat) : Int) % 4294967296) = ((0 : Nat) : Int) := by decide
    rw [e1]
    exact u32_xor_nat (c / 2) 0 (by omega) (by decide)
  · rw [e, if_pos rfl]
    have e1 : bits .and .u32 3988292384 (-((1 : Nat) : Int) % 4294967296) = ((3988292384 : Nat) : Int) := by decide
    rw [e1]
    exact u32_xor_nat (c / 2) 3988292384 (by omega) (by decide)
theorem u32_val {a b : Int} (h : a = b) : Value.int .u32 a = Value.int .u32 b := by rw [h]

theorem table_any (w : World) : Calls Try.prog 11 #[] w fun e w' => e = .returned (.agg (tab 256)) ∧ Below w.heap.size w w' := by
  have hz := zero25
  go_enter Try.func11, Try.ntmps11
  go_wp2_with fail
  clear hz
  go_loopw [2, 4] (fun u i wr => ∃ k : Nat, k ≤ 256 ∧ i = .int .i64 k ∧ wr = (w.alloc (.cells (tab 0) 25)).alloc (.cells (tab k) 25)) (fun u i wr => 256 - (intOf i).toNat)
  case atStart => exact ⟨0, by omega, rfl, rfl⟩
  case round =>
    obtain ⟨k, hk, rfl, hw⟩ := hrel
    subst hw
    by_cases hlt : k < 256
    · have hget := tab_get k k hlt
      rw [if_neg (Nat.lt_irrefl _)] at hget
      go_wp2_with fail
      go_loop [3, 9] (fun c j => ∃ (m : Nat), m ≤ 8 ∧ j = .int .i64 m ∧ c = .int .u32 (sts m k : Nat)) (fun c j => 8 - (intOf j).toNat)
      case atStart => exact ⟨0, by omega, rfl, rfl⟩
      case round =>
        obtain ⟨m, hm, rfl, rfl⟩ := hrel
        have hb : sts m k < 4294967296 := sts_lt m (by omega)
        by_cases hlt2 : m < 8
        · go_wp2_with fail
          go_round
          case rel => exact ⟨m + 1, by omega, by go_num, u32_val (by rw [sts_succ]; exact bits_step _ hb)⟩
          case measure => simp [intOf]; omega
        · obtain rfl : m = 8 := by omega
          go_wp2_with fail
          go_roundw
          case rel => exact ⟨k + 1, by omega, by go_num, by rw [← tab_set k hlt]; rfl⟩
          case measure => simp [intOf]; omega
    · obtain rfl : k = 256 := by omega
      have hg1 : ((w.alloc (.cells (tab 0) 25)).alloc (.cells (tab 256) 25)).heap[w.heap.size + 1]? = some (.cells (tab 256) 25 (0, 0)) := heap_alloc2_new _ _ _
      have hg0 : ((w.alloc (.cells (tab 0) 25)).alloc (.cells (tab 256) 25)).heap[w.heap.size]? = some (.cells (tab 0) 25 (0, 0)) := heap_alloc2_old _ _ _
      have G1 := Lib.hid hg1; have G0 := Lib.hid hg0; clear hg1 hg0
      have hi : (Try.prog.info? 25).map (·.size) = some (tab 256).size := by rw [tab_size]; exact size25
      have HI := Lib.hid hi; clear hi
      go_wp2_with (first
        | refine wpList_load_row rfl 25 _ rfl (w.heap.size + 1) rfl 25 (tab 256) (0, 0) _ G1.out Try.underlying25 rfl HI.out ?_
        | refine wpList_store_row rfl 25 _ _ rfl w.heap.size (tab 256) rfl rfl 25 (tab 0) G0.out HI.out (by rw [tab_size, tab_size]) (tab_one _) ?_)
      refine bodyPost_ret (results_cell_row rfl _ _ w.heap.size 25 (tab 256) (0, 0) _ rfl (setRow_heap _ _ _ _ _ _ G0.out) Try.underlying25 rfl HI.out) rfl ⟨rfl, ?_⟩
      exact below_setRow (((Below.refl _ _).alloc (Nat.le_refl _) _).alloc (by simp) _) (Nat.le_refl _) _
end Go.Proofs.Ytknpncnogocbjaa.Crc

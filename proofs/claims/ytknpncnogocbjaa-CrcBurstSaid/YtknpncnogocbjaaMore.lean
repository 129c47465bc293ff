/-
  The walks of crc's More and Sum, and of the document's.
-/
import Derived.Test.YtknpncnogocbjaaTable
namespace Go.Proofs.Ytknpncnogocbjaa.Crc
open Go.RowKit Go.Proofs Go.Proofs.Ytknpncnogocbjaa.CrcMath
set_option maxRecDepth 100000
set_option linter.unusedVariables false

theorem ret_u32 {a b : Int} (h : a = b) : Ending.returned (.int .u32 a) = .returned (.int .u32 b) := by rw [h]
/-- a list's byte at a place -/
def at_ (l : List Nat) (k : Nat) : Nat := l.getD k 0
/-- A slice of bytes that is read: nil, empty or not. -/
def ReadsB (w : World) (a : Option Addr) (l : List Nat) : Prop :=
  (∀ x ∈ l, x < 256) ∧ (0 < l.length → ∃ b off, a = some ⟨b, off, none⟩ ∧ ∀ k, k < l.length → w.cell? ⟨b, off + k, none⟩ = some (.int .u8 (at_ l k : Nat)))
theorem ReadsB.below {w w1 : World} {a : Option Addr} {l : List Nat} (h : ReadsB w a l) (hb : Below w.heap.size w w1) : ReadsB w1 a l := by
  refine ⟨h.1, fun hl => ?_⟩
  obtain ⟨b, off, ha, hc⟩ := h.2 hl
  refine ⟨b, off, ha, fun k hk => ?_⟩
  have := hc k hk
  rw [hb.cell (World.block_lt_of_cell? w _ this)]
  exact this
/-- the sum of bytes more -/
def more (sum : Nat) (l : List Nat) : Nat := 4294967295 - run (4294967295 - sum) l

theorem ones_xor (x : Nat) (h : x < 4294967296) : 4294967295 ^^^ x = 4294967295 - x := by
  have e := BitVec.allOnes_xor (x := BitVec.ofNat 32 x)
  have := congrArg BitVec.toNat e
  rw [BitVec.toNat_xor, BitVec.toNat_allOnes, BitVec.toNat_not, BitVec.toNat_ofNat, Nat.mod_eq_of_lt h] at this
  exact this
theorem not_u32 (x : Nat) (h : x < 4294967296) : bits .xor .u32 IntKind.u32.max (x : Int) = ((4294967295 - x : Nat) : Int) := by
  have := u32_xor_nat 4294967295 x (by decide) h
  rw [ones_xor x h] at this
  exact this
theorem take_succ' (l : List Nat) (k : Nat) (h : k < l.length) : l.take (k + 1) = l.take k ++ [at_ l k] := by
  rw [List.take_succ_eq_append_getElem h]; simp [at_, h]
theorem at_lt {l : List Nat} (hl : ∀ x ∈ l, x < 256) (k : Nat) (h : k < l.length) : at_ l k < 256 := by
  have : at_ l k ∈ l := by simp [at_, h]
  exact hl _ this
theorem xor_byte {a b : Nat} (ha : a < 256) (hb : b < 256) : a ^^^ b < 256 := by
  have e : (256 : Nat) = 2 ^ 8 := by decide
  rw [e] at ha hb ⊢
  exact Nat.xor_lt_two_pow ha hb
theorem run_take (s : Nat) (l : List Nat) (k : Nat) (h : k < l.length) : run s (l.take (k + 1)) = ev (run s (l.take k) ^^^ at_ l k) := by
  rw [take_succ' l k h, run_append]; rfl
theorem run_take_lt {s : Nat} (hs : s < 4294967296) {l : List Nat} (hl : ∀ x ∈ l, x < 256) (k : Nat) : run s (l.take k) < 4294967296 :=
  run_lt _ (fun x hx => hl x (List.mem_of_mem_take hx)) hs

set_option maxHeartbeats 400000 in
theorem more_any (sum : Nat) (hs : sum < 4294967296) (a : Option Addr) (cap : Nat) (l : List Nat) (n : Nat) (w : World) (hl : l.length = n) (hn : n ≤ 9223372036854775807) (hr : ReadsB w a l) :
    Calls Try.prog 14 #[.int .u32 sum, .slice a n cap] w fun e w' => e = .returned (.int .u32 (more sum l : Nat)) ∧ Below w.heap.size w w' := by
  have HL := Lib.hid hl; clear hl
  have HR := Lib.hid hr; clear hr
  have hz := zero25
  obtain ⟨s0, hs0⟩ : ∃ s0, 4294967295 - sum = s0 := ⟨_, rfl⟩
  have hs1 : s0 < 4294967296 := by omega
  have hnot := not_u32 sum hs
  rw [hs0] at hnot
  have HS := Lib.hid hs0; clear hs0
  go_enter Try.func14, Try.ntmps14
  go_wp2_with fail
  refine (table_any _).mono ?_; rintro _ w1 ⟨rfl, hw1⟩
  have hi : (Try.prog.info? 25).map (·.size) = some (tab 256).size := by rw [tab_size]; exact size25
  have HI := Lib.hid hi; clear hi
  go_wp2_with (refine wpList_store_row rfl 25 _ _ rfl w1.heap.size (tab 256) rfl rfl 25 (tab 0) (heap_alloc_new _ _) HI.out (by rw [tab_size, tab_size]) (tab_one _) ?_; rw [World.setRow_alloc_new])
  clear hz hnot
  have HB : Hid (Below w.heap.size w (w1.alloc (.cells (tab 256) 25))) := hw1.alloc hw1.size _
  have HB1 : Hid (Below w1.heap.size w1 (w1.alloc (.cells (tab 256) 25))) := (Below.refl _ _).alloc (Nat.le_refl _) _
  have HR1 := Lib.hid ((HR.out.below hw1).below HB1.out)
  clear HR HB1 hw1
  go_loop [6, 14] (fun c i => ∃ k : Nat, k ≤ n ∧ i = .int .i64 k ∧ c = .int .u32 (run s0 (l.take k) : Nat)) (fun c i => n - (intOf i).toNat)
  case atStart => exact ⟨0, by omega, rfl, rfl⟩
  case round =>
    obtain ⟨k, hk, rfl, rfl⟩ := hrel
    have hc := run_take_lt hs1 HR1.out.1 k
    by_cases hlt : k < n
    · obtain ⟨b, off, ha, hcell⟩ := HR1.out.2 (by rw [HL.out]; omega)
      subst ha
      have hkl : k < l.length := by rw [HL.out]; exact hlt
      have hcell := hcell k hkl
      have hx := at_lt HR1.out.1 k hkl
      have hrun := Lib.hid (run_take s0 l k hkl)
      clear hkl
      generalize hcc : run s0 (l.take k) = c at *
      generalize hxx : at_ l k = x at *
      have HC := Lib.hid hcc; have HX := Lib.hid hxx; clear hcc hxx
      have h8 : c % 256 < 256 := Nat.mod_lt _ (by decide)
      obtain ⟨i, hi⟩ : ∃ i, c % 256 ^^^ x = i := ⟨_, rfl⟩
      have hi8 : i < 256 := by rw [← hi]; exact xor_byte h8 hx
      have hx8 : bits .xor .u8 ((c : Int) % 256) (x : Int) = (i : Int) := by
        rw [← hi]; exact u8_xor_nat (c % 256) x h8 hx
      have hget := tab_get 256 i hi8
      rw [if_pos hi8] at hget
      have hev : ev i < 4294967296 := sts_lt 8 (by omega)
      have hx32 : bits .xor .u32 ((ev i : Nat) : Int) ((c : Int) / 256) = ((ev i ^^^ c / 256 : Nat) : Int) := u32_xor_nat (ev i) (c / 256) hev (by omega)
      have hsp := Lib.hid (ev_split c x)
      have HI2 := Lib.hid hi; clear hi
      go_wp2_with fail
      go_round
      case rel => exact ⟨k + 1, by omega, by go_num, u32_val (by rw [hrun.out, hsp.out, HI2.out])⟩
      case measure => simp [intOf]; omega
    · obtain rfl : k = n := by omega
      have hnot := not_u32 _ hc
      have e := Lib.hid (show 4294967295 - run s0 (l.take k) = more sum l by unfold more; rw [HS.out, ← HL.out, List.take_length])
      go_wp2_with fail
      go_ret
      exact ⟨ret_u32 (by rw [e.out]), HB.out⟩

theorem sum_any (a : Option Addr) (cap : Nat) (l : List Nat) (n : Nat) (w : World) (hl : l.length = n) (hn : n ≤ 9223372036854775807) (hr : ReadsB w a l) :
    Calls Try.prog 12 #[.slice a n cap] w fun e w' => e = .returned (.int .u32 (more 0 l : Nat)) ∧ Below w.heap.size w w' := by
  have HL := Lib.hid hl; clear hl
  have HR := Lib.hid hr; clear hr
  go_enter Try.func12, Try.ntmps12
  go_wp2_with fail
  refine (more_any 0 (by decide) a cap l n w HL.out hn HR.out).mono ?_; rintro _ w1 ⟨rfl, hw1⟩
  go_wp2_with fail
  go_ret
  exact ⟨rfl, hw1⟩

/-! ### the document's -/
theorem eight_any (x : Nat) (hx : x < 4294967296) (w : World) : Calls Try.prog 16 #[.int .u32 x] w fun e w' => e = .returned (.int .u32 (ev x : Nat)) ∧ w = w' := by
  go_enter Try.func16, Try.ntmps16
  go_wp2_with fail
  go_loop [0, 3] (fun c j => ∃ (m : Nat), m ≤ 8 ∧ j = .int .i64 m ∧ c = .int .u32 (sts m x : Nat)) (fun c j => 8 - (intOf j).toNat)
  case atStart => exact ⟨0, by omega, rfl, rfl⟩
  case round =>
    obtain ⟨m, hm, rfl, rfl⟩ := hrel
    have hb : sts m x < 4294967296 := sts_lt m hx
    have hst := Lib.hid (sts_succ m x)
    by_cases hlt2 : m < 8
    · generalize hcc : sts m x = c at *
      have HC := Lib.hid hcc; clear hcc
      by_cases ho : c % 2 = 1
      · have hob : ((c : Int) % 2 == 1) = true := by rw [beq_iff_eq]; omega
        have h32 : bits .xor .u32 ((c : Int) / 2) 3988292384 = ((c / 2 ^^^ 3988292384 : Nat) : Int) := u32_xor_nat (c / 2) 3988292384 (by omega) (by decide)
        have e := Lib.hid (show c / 2 ^^^ 3988292384 = sts (m + 1) x by rw [hst.out]; unfold st poly; rw [if_pos ho])
        clear ho
        go_wp2_with fail
        go_round
        case rel => exact ⟨m + 1, by omega, by go_num, u32_val (by rw [e.out])⟩
        case measure => simp [intOf]; omega
      · have hob : ((c : Int) % 2 == 1) = false := by rw [beq_eq_false_iff_ne]; omega
        have e := Lib.hid (show c / 2 = sts (m + 1) x by rw [hst.out]; unfold st; rw [if_neg ho, Nat.xor_zero])
        clear ho
        go_wp2_with fail
        go_round
        case rel => exact ⟨m + 1, by omega, by go_num, u32_val (by rw [← e.out]; rfl)⟩
        case measure => simp [intOf]; omega
    · obtain rfl : m = 8 := by omega
      go_wp2_with fail
      go_ret
      exact ⟨rfl, rfl⟩

set_option maxHeartbeats 400000 in
theorem rmore_any (sum : Nat) (hs : sum < 4294967296) (a : Option Addr) (cap : Nat) (l : List Nat) (n : Nat) (w : World) (hl : l.length = n) (hn : n ≤ 9223372036854775807) (hr : ReadsB w a l) :
    Calls Try.prog 15 #[.int .u32 sum, .slice a n cap] w fun e w' => e = .returned (.int .u32 (more sum l : Nat)) ∧ w = w' := by
  have HL := Lib.hid hl; clear hl
  have HR1 := Lib.hid hr; clear hr
  obtain ⟨s0, hs0⟩ : ∃ s0, 4294967295 - sum = s0 := ⟨_, rfl⟩
  have hs1 : s0 < 4294967296 := by omega
  have hsub : (4294967295 : Int) - (sum : Int) = (s0 : Int) := by omega
  have HS := Lib.hid hs0; clear hs0
  go_enter Try.func15, Try.ntmps15
  go_wp2_with fail
  clear hsub
  go_loop [5, 6] (fun c i => ∃ k : Nat, k ≤ n ∧ i = .int .i64 k ∧ c = .int .u32 (run s0 (l.take k) : Nat)) (fun c i => n - (intOf i).toNat)
  case atStart => exact ⟨0, by omega, rfl, rfl⟩
  case round =>
    obtain ⟨k, hk, rfl, rfl⟩ := hrel
    have hc := run_take_lt hs1 HR1.out.1 k
    by_cases hlt : k < n
    · obtain ⟨b, off, ha, hcell⟩ := HR1.out.2 (by rw [HL.out]; omega)
      subst ha
      have hkl : k < l.length := by rw [HL.out]; exact hlt
      have hcell := hcell k hkl
      have hx := at_lt HR1.out.1 k hkl
      have hrun := Lib.hid (run_take s0 l k hkl)
      clear hkl
      generalize hcc : run s0 (l.take k) = c at *
      generalize hxx : at_ l k = x at *
      have HC := Lib.hid hcc; have HX := Lib.hid hxx; clear hcc hxx
      have hx32 : bits .xor .u32 (c : Int) (x : Int) = ((c ^^^ x : Nat) : Int) := u32_xor_nat c x hc (by omega)
      have hlt32 : c ^^^ x < 4294967296 := Nat.xor_lt_two_pow (n := 32) hc (by omega)
      go_wp2_with fail
      refine (eight_any (c ^^^ x) hlt32 _).mono ?_; rintro _ w' ⟨rfl, rfl⟩
      go_wp2_with fail
      go_round
      case rel => exact ⟨k + 1, by omega, by go_num, u32_val (by rw [hrun.out])⟩
      case measure => simp [intOf]; omega
    · obtain rfl : k = n := by omega
      have e := Lib.hid (show 4294967295 - run s0 (l.take k) = more sum l by unfold more; rw [HS.out, ← HL.out, List.take_length])
      obtain ⟨r, hr⟩ : ∃ r, run s0 (l.take k) = r := ⟨_, rfl⟩
      rw [hr] at hc
      have hsub : (4294967295 : Int) - (run s0 (l.take k) : Int) = ((4294967295 - run s0 (l.take k) : Nat) : Int) := by rw [hr]; omega
      have HR := Lib.hid hr; clear hr
      go_wp2_with fail
      go_ret
      exact ⟨ret_u32 (by rw [e.out]), rfl⟩

theorem rsum_any (a : Option Addr) (cap : Nat) (l : List Nat) (n : Nat) (w : World) (hl : l.length = n) (hn : n ≤ 9223372036854775807) (hr : ReadsB w a l) :
    Calls Try.prog 13 #[.slice a n cap] w fun e w' => e = .returned (.int .u32 (more 0 l : Nat)) ∧ w = w' := by
  have HL := Lib.hid hl; clear hl
  have HR := Lib.hid hr; clear hr
  go_enter Try.func13, Try.ntmps13
  go_wp2_with fail
  refine (rmore_any 0 (by decide) a cap l n w HL.out hn HR.out).mono ?_; rintro _ w1 ⟨rfl, rfl⟩
  go_wp2_with fail
  go_ret
  exact ⟨rfl, rfl⟩
end Go.Proofs.Ytknpncnogocbjaa.Crc

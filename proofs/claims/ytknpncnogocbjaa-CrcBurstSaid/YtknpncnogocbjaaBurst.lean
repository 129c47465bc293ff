/-
  The walk of CrcBurst.
-/
import Derived.Test.YtknpncnogocbjaaCrcFrom
import Derived.Deep.RegionHeld3
import Derived.Deep.AppendLies
import Derived.BigRegion
namespace Go.Proofs.Ytknpncnogocbjaa.Crc
open Go.RowKit Go.Proofs Go.Proofs.Ytknpncnogocbjaa.CrcMath
set_option maxRecDepth 100000
set_option linter.unusedVariables false

/-- bytes as cells -/
def bytesV (l : List Nat) : List Value := l.map fun x => Value.int .u8 (x : Nat)
theorem info5 : (Try.prog.info? 5).map (fun i => (i.zero, i.size, i.bytes)) = some (some (.int .u8 0), 1, 1) := by kernel_rfl
theorem bytesV_get (l : List Nat) (k : Nat) (h : k < l.length) : (bytesV l)[k]? = some (.int .u8 (at_ l k : Nat)) := by
  simp [bytesV, at_, h]
theorem news_of {w : World} {b off : Nat} {l : List Nat} (h : ReadsB w (some ⟨b, off, none⟩) l) : ∀ j u, (bytesV l)[j]? = some u → w.cell? ((⟨b, off, none⟩ : Addr).add j) = some u := by
  intro j u hu
  have hj : j < l.length := by
    have := (List.getElem?_eq_some_iff.1 hu).1
    simpa [bytesV] using this
  obtain ⟨b', off', ha, hc⟩ := h.2 (by omega)
  have ha' := Option.some.inj ha
  cases ha'
  rw [Addr.add_lit, hc j hj, ← hu, bytesV_get l j hj]
theorem bytesV_one (l : List Nat) : ∀ u ∈ bytesV l, u.oneCell' = true := by
  intro u hu
  obtain ⟨_, _, rfl⟩ := List.mem_map.1 hu
  rfl

theorem burst_short (turn : Int) (at_ : Int) (a : Option Addr) (cap n : Nat) (w : World) (h : 2000 < n ∨ (n ≤ 2000 ∧ (at_ < 0 ∨ (0 ≤ at_ ∧ 8 * (n : Int) ≤ at_)))) (hn : n ≤ 9223372036854775807) :
    Calls Try.prog 5 #[.slice a n cap, .int .i64 at_, .int .u32 turn] w fun e w' => e = .returned (.bool true) ∧ Below w.heap.size w w' := by
  rcases h with h | ⟨h1, h | ⟨h2, h⟩⟩
  all_goals
    go_enter Try.func5, Try.ntmps5
    go_wp2_with fail
    refine (awake_any _).mono ?_; rintro _ w1 ⟨rfl, hw1⟩
    go_wp2_with fail
    go_ret
    exact ⟨rfl, hw1⟩

/-- What the loop keeps: the copy is a row of the call's own; so many bits of the turn are turned. -/
def Kept (w : World) (l : List Nat) (g n cap at_ turn j : Nat) (wr : World) : Prop :=
  ∃ c, wr.ownsRow w.heap.size 5 1 (.slice (some ⟨g, 0, none⟩) n cap) n (bytesV c) ∧ Below w.heap.size w wr ∧ Turned l c at_ turn j

theorem own_base {w : World} {base g n cap : Nat} {xs : List Value} (h : w.ownsRow base 5 1 (.slice (some ⟨g, 0, none⟩) n cap) n xs) : base ≤ g := by
  rcases h.2 with ⟨h', _⟩ | ⟨g', cap'', cur, h', hb, _⟩
  · simp at h'
  · simp only [Value.slice.injEq, Option.some.injEq, Addr.mk.injEq, and_true, true_and] at h'
    obtain ⟨rfl, rfl⟩ := h'
    exact hb
theorem hown_cast {w : World} {base g n cap : Nat} {xs : List Value} (h : w.ownsRow base 5 1 (.slice (some ⟨g, 0, none⟩) (0 + n) cap) (0 + n) ([] ++ xs)) : w.ownsRow base 5 1 (.slice (some ⟨g, 0, none⟩) n cap) n xs := by
  rw [Nat.zero_add, List.nil_append] at h; exact h
def flagB (turn j : Nat) : Bool := turn % 2 ^ j != 0
theorem flagB_zero (turn : Nat) : flagB turn 0 = false := by simp [flagB, Nat.mod_one]
theorem flagB_yes {turn j : Nat} (h : turn / 2 ^ j % 2 = 1) : flagB turn (j + 1) = true := by
  unfold flagB
  rw [bne_iff_ne, mod_succ, if_pos h]
  intro h0
  have := congrArg (fun x => x.testBit j) h0
  simp [Nat.testBit_xor, Nat.testBit_mod_two_pow] at this
theorem flagB_no {turn j : Nat} (h : ¬ turn / 2 ^ j % 2 = 1) : flagB turn (j + 1) = flagB turn j := by
  unfold flagB
  rw [mod_succ, if_neg h, Nat.xor_zero]

theorem bit_at (turn j : Nat) (h : turn < 4294967296) : bits .and .u32 ((turn : Int) / 2 ^ j) 1 = ((turn / 2 ^ j % 2 : Nat) : Int) := by
  have e : ((turn : Int) / 2 ^ j) = ((turn / 2 ^ j : Nat) : Int) := by
    rw [Int.natCast_ediv, Int.natCast_pow]; rfl
  rw [e]
  exact and_one _ (Nat.lt_of_le_of_lt (Nat.div_le_self _ _) h)
theorem flip_set (c : List Nat) (p : Nat) (h : p < 8 * c.length) : CrcMath.flip c p = c.set (p / 8) (at_ c (p / 8) ^^^ 2 ^ (p % 8)) := by
  induction c generalizing p with
  | nil => simp at h
  | cons x l ih =>
    unfold CrcMath.flip
    split
    · rename_i h8
      rw [Nat.div_eq_of_lt h8, Nat.mod_eq_of_lt h8]
      rfl
    · rename_i h8
      have e : p / 8 = (p - 8) / 8 + 1 := by omega
      have e2 : p % 8 = (p - 8) % 8 := by omega
      rw [e, e2, ih (p - 8) (by simp at h; omega)]
      rfl
theorem bytesV_set (c : List Nat) (q x : Nat) : bytesV (c.set q x) = (bytesV c).set q (.int .u8 (x : Nat)) := by
  simp [bytesV]
theorem kept_step {w wr : World} {l c : List Nat} {g n cap p0 turn j q s x : Nat} (hown : wr.ownsRow w.heap.size 5 1 (.slice (some ⟨g, 0, none⟩) n cap) n (bytesV c)) (hB : Below w.heap.size w wr)
    (hT : Turned l c p0 turn j) (hl : l.length = n) (hg : w.heap.size ≤ g) (h8 : p0 + j < 8 * n) (hb : turn / 2 ^ j % 2 = 1) (hq : (p0 + j) / 8 = q) (hs : (p0 + j) % 8 = s) (hx : at_ c q = x) :
    Kept w l g n cap p0 turn (j + 1) (wr.setCell ⟨g, q, none⟩ (.int .u8 (bits .xor .u8 (x : Int) (2 ^ s % 256)))).drew := by
  have hcl : c.length = n := by rw [hT.1, hl]
  have hs8 : s < 8 := by omega
  have hx8 : x < 256 := by rw [← hx]; exact at_lt hT.2.1 q (by omega)
  have hy8 : 2 ^ s < 256 := Nat.pow_lt_pow_right (by decide : 1 < 2) hs8
  have e : bits .xor .u8 (x : Int) (2 ^ s % 256) = ((x ^^^ 2 ^ s : Nat) : Int) := by
    have e1 : ((2 : Int) ^ s % 256) = ((2 ^ s : Nat) : Int) := by
      rw [Int.natCast_pow]
      exact Int.emod_eq_of_lt (Int.le_of_lt (Int.pow_pos (by decide))) (by exact_mod_cast hy8)
    rw [e1]
    exact u8_xor_nat x (2 ^ s) hx8 hy8
  rw [e]
  have hst := hT.step (i := j) (by omega)
  rw [if_pos hb, flip_set c (p0 + j) (by omega), hq, hs, hx] at hst
  refine ⟨_, ?_, (hB.setCell hg _).drew, hst⟩
  rw [bytesV_set]
  exact ((hown.stored q _).1).drew
theorem kept_skip {w wr : World} {l : List Nat} {g n cap p0 turn j : Nat} (hK : Kept w l g n cap p0 turn j wr) (hl : l.length = n) (h8 : p0 + j < 8 * n) (hb : ¬ turn / 2 ^ j % 2 = 1) :
    Kept w l g n cap p0 turn (j + 1) wr := by
  obtain ⟨c, hown, hB, hT⟩ := hK
  have hst := hT.step (i := j) (by omega)
  rw [if_neg hb] at hst
  exact ⟨c, hown, hB, hst⟩
/-- Sum (12), from a world on -/
def SumTo (w0 : World) (v : Value) (r : Nat) : Prop := ∀ w, Below w0.heap.size w0 w → Calls Try.prog 12 #[v] w fun e w' => e = .returned (.int .u32 (r : Nat)) ∧ Below w0.heap.size w0 w'
theorem sum_to {w0 : World} {a : Option Addr} {cap n : Nat} {l : List Nat} (hr : ReadsB w0 a l) (hl : l.length = n) (hn : n ≤ 9223372036854775807) : SumTo w0 (.slice a n cap) (more 0 l) :=
  fun w hb => sum_from hb hr hl hn
theorem reads_own {w : World} {base g n cap : Nat} {c : List Nat} (h : w.ownsRow base 5 1 (.slice (some ⟨g, 0, none⟩) n cap) n (bytesV c)) (hc : ∀ x ∈ c, x < 256) (hl : c.length = n) : ReadsB w (some ⟨g, 0, none⟩) c := by
  refine ⟨hc, fun _ => ⟨g, 0, rfl, fun k hk => ?_⟩⟩
  rw [Nat.zero_add, h.cellAt k (by omega), bytesV_get c k hk]
theorem sums_at {w wr : World} {b off : Nat} {l c : List Nat} {g n cap cap' p0 turn j : Nat} (hr : ReadsB w (some ⟨b, off, none⟩) l) (hl : l.length = n) (hn : n ≤ 2000)
    (hown : wr.ownsRow w.heap.size 5 1 (.slice (some ⟨g, 0, none⟩) n cap') n (bytesV c)) (hB : Below w.heap.size w wr) (hT : Turned l c p0 turn j) (hj : j ≤ 32) (h8 : p0 + j ≤ 8 * n) :
    ∃ x y : Nat, SumTo wr (.slice (some ⟨g, 0, none⟩) n cap') x ∧ SumTo wr (.slice (some ⟨b, off, none⟩) n cap) y ∧ ((x : Int) != (y : Int)) = flagB turn j := by
  have hcl : c.length = n := by rw [hT.1, hl]
  refine ⟨_, _, sum_to (reads_own hown hT.2.1 hcl) hcl (by omega), sum_to (hr.below hB) hl (by omega), ?_⟩
  have hb := burst hr.1 hT (by omega) hj 4294967295
  have e1 : run 4294967295 c < 4294967296 := run_lt _ hT.2.1 (by decide)
  have e2 : run 4294967295 l < 4294967296 := run_lt _ hr.1 (by decide)
  unfold flagB more
  rw [Bool.eq_iff_iff, bne_iff_ne, bne_iff_ne, ne_eq, ne_eq, ← hb]
  simp only [Nat.sub_zero]
  omega

set_option maxHeartbeats 2000000 in
theorem burst_core (turn p0 : Nat) (b off cap n : Nat) (l : List Nat) (w : World) (ht : turn < 4294967296) (hp : p0 < 8 * n) (hn : n ≤ 2000) (hl : l.length = n) (hr : ReadsB w (some ⟨b, off, none⟩) l) :
    Calls Try.prog 5 #[.slice (some ⟨b, off, none⟩) n cap, .int .i64 p0, .int .u32 turn] w fun e w' => e = .returned (.bool true) ∧ Below w.heap.size w w' := by
  have HR := Lib.hid hr; have HL := Lib.hid hl; clear hr hl
  obtain ⟨i0, hi, hz0, hz1, hz2⟩ := info_parts info5
  have HI := Lib.hid hi; have HZ0 := Lib.hid hz0; have HZ1 := Lib.hid hz1; have HZ2 := Lib.hid hz2
  clear hi hz0 hz1 hz2
  go_enter Try.func5, Try.ntmps5
  go_wp2_with fail
  refine (awake_any _).mono ?_; rintro _ w1 ⟨rfl, hw1⟩
  have HR1 := Lib.hid (HR.out.below hw1)
  have HW1 := Lib.hid hw1
  clear hw1
  have C1 := Lib.hid (show (bytesV l).length = n * 1 by simp [bytesV, HL.out])
  have C2 := Lib.hid (news_of (HR1.out.below ((Below.refl _ w1).alloc (Nat.le_refl _) (.cells #[] 5))))
  have C3 := Lib.hid (show w.heap.size ≤ (w1.alloc (.cells #[] 5)).heap.size by have := HW1.out.size; simp; omega)
  have C4 := Lib.hid (show (w1.alloc (.cells #[] 5)).heap.size = w1.heap.size + 1 by simp)
  go_wp2_with (at_builtin; refine wpList_append_lies _ rfl _ _ 23 rfl w.heap.size 5 i0 (.int .u8 0) 1 1 Try.underlying23 HI.out HZ0.out HZ1.out HZ2.out rfl (by decide) _ 0 [] rfl (World.ownsRow_lit w1 #[] 0 HW1.out.size (by decide) (by decide)) _ n cap (bytesV l) rfl C1.out C2.out (bytesV_one l) (by omega) (by unfold maxLen; omega) (by omega) C3.out (w1.heap.size + 1) C4.out ?_; intro g cap' w2 hown hgrow hat hlt)
  have hg2 : w.heap.size ≤ g := own_base hown
  have K0 : Kept w l g n cap' p0 turn 0 w2 := by
    refine ⟨l, hown_cast hown, HW1.out.trans ?_, Turned.zero HR1.out.1 p0 turn⟩
    exact ((Below.refl _ w1).alloc HW1.out.size _).grown hgrow C3.out (fun k hk => by cases hk; exact HW1.out.size)
  have HG := Lib.hid hg2
  clear hown hgrow hat hlt C1 C2 C3 C4 HI HZ0 HZ1 HZ2 hg2
  have hK0 := Lib.hid K0; clear K0
  go_loopw [8, 9] (fun f i wr => ∃ j : Nat, j ≤ 32 ∧ p0 + j ≤ 8 * n ∧ i = .int .i64 j ∧ f = .bool (flagB turn j) ∧ Kept w l g n cap' p0 turn j wr) (fun f i wr => 32 - (intOf i).toNat)
  case atStart => exact ⟨0, by omega, by omega, rfl, by rw [flagB_zero], hK0.out⟩
  case round =>
    obtain ⟨j, hj, hj8, rfl, rfl, hK⟩ := hrel
    have HK := Lib.hid hK; clear hK hK0
    by_cases h32 : j < 32
    · by_cases h8 : p0 + j < 8 * n
      · by_cases hb : turn / 2 ^ j % 2 = 1
        · have hbit : (bits .and .u32 ((turn : Int) / 2 ^ j) 1 == 1) = true := by
            rw [bit_at turn j ht]; rw [beq_iff_eq]; omega
          have HBT := Lib.hid hb; clear hb
          obtain ⟨c, hown, hB, hT⟩ := HK.out
          have hcl : c.length = n := by rw [hT.1, HL.out]
          obtain ⟨q, hq⟩ : ∃ q, (p0 + j) / 8 = q := ⟨_, rfl⟩
          obtain ⟨s, hs⟩ : ∃ s, (p0 + j) % 8 = s := ⟨_, rfl⟩
          have hqn : q < n := by omega
          have hs8 : s < 8 := by omega
          obtain ⟨x, hx⟩ : ∃ x, at_ c q = x := ⟨_, rfl⟩
          have hx8 : x < 256 := by rw [← hx]; exact at_lt hT.2.1 q (by omega)
          have hcell : wr.cell? ⟨g, q, none⟩ = some (.int .u8 (x : Nat)) := by
            rw [hown.cellAt q (by omega), bytesV_get c q (by omega), hx]
          have hfro : wr.frozen? ⟨g, q, none⟩ = false := hown.frozenAt q
          obtain ⟨y, hy⟩ : ∃ y, 2 ^ s = y := ⟨_, rfl⟩
          have hy8 : y < 256 := by rw [← hy]; exact Nat.pow_lt_pow_right (by decide) hs8
          obtain ⟨z, hz⟩ : ∃ z, x ^^^ y = z := ⟨_, rfl⟩
          have hxor : bits .xor .u8 (x : Int) (y : Int) = (z : Int) := by rw [← hz]; exact u8_xor_nat x y hx8 hy8
          have d1 : ((p0 : Int) + (j : Int)) / 8 = (q : Int) := by omega
          have d2 : ((p0 : Int) + (j : Int)) % 8 = (s : Int) := by omega
          have HX := Lib.hid hx; have HY := Lib.hid hy; have HZ := Lib.hid hz; have HQ := Lib.hid hq; have HS := Lib.hid hs; have HO := Lib.hid hown; have HB := Lib.hid hB; have HT := Lib.hid hT; have HC := Lib.hid hcl
          clear hx hy hz hq hs hown hB hT hcl
          go_wp2_with fail
          go_region
          go_wp2_with fail
          go_roundw
          case rel => exact ⟨j + 1, by omega, by omega, by go_num, by rw [flagB_yes HBT.out], kept_step HO.out HB.out HT.out HL.out HG.out h8 HBT.out HQ.out HS.out HX.out⟩
          case measure => simp [intOf]; omega
        · have hbit : (bits .and .u32 ((turn : Int) / 2 ^ j) 1 == 1) = false := by
            rw [bit_at turn j ht]; rw [beq_eq_false_iff_ne]; omega
          have HBT := Lib.hid hb; clear hb
          go_wp2_with fail
          go_roundw
          case rel => exact ⟨j + 1, by omega, by omega, by go_num, by rw [flagB_no HBT.out], kept_skip HK.out HL.out h8 HBT.out⟩
          case measure => simp [intOf]; omega
      · have hjj := Lib.hid (show p0 + j = 8 * n by omega)
        obtain ⟨c, hown, hB, hT⟩ := HK.out
        have HBr := Lib.hid hB
        obtain ⟨x, y, hc1, hc2, hxy⟩ := sums_at (cap := cap) HR.out HL.out hn hown hB hT hj hj8
        have HC1 := Lib.hid hc1; have HC2 := Lib.hid hc2
        clear hc1 hc2 hown hB hT
        have hne : ((x : Int) != (y : Int)) = flagB turn j := hxy
        go_wp2_with fail
        refine (HC1.out _ (Below.refl _ _)).mono ?_; rintro _ w3 ⟨rfl, hw3⟩
        go_wp2_with fail
        refine (HC2.out _ hw3).mono ?_; rintro _ w4 ⟨rfl, hw4⟩
        go_wp2_with fail
        go_ret
        exact ⟨rfl, below_on HBr.out hw4⟩
    · have hjj := Lib.hid (show j = 32 by omega)
      obtain ⟨c, hown, hB, hT⟩ := HK.out
      have HBr := Lib.hid hB
      obtain ⟨x, y, hc1, hc2, hxy⟩ := sums_at (cap := cap) HR.out HL.out hn hown hB hT hj hj8
      have HC1 := Lib.hid hc1; have HC2 := Lib.hid hc2
      clear hc1 hc2 hown hB hT
      have hne : ((x : Int) != (y : Int)) = flagB turn j := hxy
      go_wp2_with fail
      refine (HC1.out _ (Below.refl _ _)).mono ?_; rintro _ w3 ⟨rfl, hw3⟩
      go_wp2_with fail
      refine (HC2.out _ hw3).mono ?_; rintro _ w4 ⟨rfl, hw4⟩
      go_wp2_with fail
      go_ret
      exact ⟨rfl, below_on HBr.out hw4⟩

theorem burst_any (turn : Nat) (at_ : Int) (a : Option Addr) (cap n : Nat) (l : List Nat) (w : World) (ht : turn < 4294967296) (hn : n ≤ 9223372036854775807) (hl : l.length = n) (hr : ReadsB w a l) :
    Calls Try.prog 5 #[.slice a n cap, .int .i64 at_, .int .u32 turn] w fun e w' => e = .returned (.bool true) ∧ Below w.heap.size w w' := by
  by_cases h1 : 2000 < n
  · exact burst_short turn at_ a cap n w (.inl h1) hn
  by_cases h2 : at_ < 0
  · exact burst_short turn at_ a cap n w (.inr ⟨by omega, .inl h2⟩) hn
  by_cases h3 : 8 * (n : Int) ≤ at_
  · exact burst_short turn at_ a cap n w (.inr ⟨by omega, .inr ⟨by omega, h3⟩⟩) hn
  obtain ⟨p, rfl⟩ := Int.eq_ofNat_of_zero_le (show 0 ≤ at_ by omega)
  obtain ⟨b, off, rfl, _⟩ := hr.2 (by omega)
  exact burst_core turn p b off cap n l w ht (by omega) (by omega) hl hr
end Go.Proofs.Ytknpncnogocbjaa.Crc

/-
  The walk of CrcParts.
-/
import Derived.Test.YtknpncnogocbjaaCrcFrom
import Derived.Deep.RegionHeld3
namespace Go.Proofs.Ytknpncnogocbjaa.Crc
open Go.RowKit Go.Proofs Go.Proofs.Ytknpncnogocbjaa.CrcMath
set_option maxRecDepth 100000
set_option linter.unusedVariables false

theorem ReadsB.nil (w : World) (a : Option Addr) : ReadsB w a [] := ⟨fun x hx => by simp at hx, fun h => by simp at h⟩
theorem ReadsB.take {w : World} {a : Option Addr} {l : List Nat} (h : ReadsB w a l) (k : Nat) : ReadsB w a (l.take k) := by
  refine ⟨fun x hx => h.1 x (List.mem_of_mem_take hx), fun hk => ?_⟩
  rw [List.length_take] at hk
  obtain ⟨b, off, ha, hc⟩ := h.2 (by omega)
  refine ⟨b, off, ha, fun j hj => ?_⟩
  rw [List.length_take] at hj
  rw [hc j (by omega)]
  have e : at_ (l.take k) j = at_ l j := by
    unfold at_; simp [List.getD, show j < k by omega]
  rw [e]
theorem ReadsB.drop {w : World} {b off : Nat} {l : List Nat} (h : ReadsB w (some ⟨b, off, none⟩) l) (k : Nat) : ReadsB w (some ⟨b, off + k, none⟩) (l.drop k) := by
  refine ⟨fun x hx => h.1 x (List.mem_of_mem_drop hx), fun hk => ?_⟩
  rw [List.length_drop] at hk
  obtain ⟨b', off', ha, hc⟩ := h.2 (by omega)
  have ha' := Option.some.inj ha
  cases ha'
  refine ⟨b, off + k, rfl, fun j hj => ?_⟩
  rw [List.length_drop] at hj
  have := hc (k + j) (by omega)
  rw [Nat.add_assoc, this]
  have e : at_ (l.drop k) j = at_ l (k + j) := by
    unfold at_; simp [List.getD]
  rw [e]
theorem more_parts (sum : Nat) (hs : sum < 4294967296) (l : List Nat) (hl : ∀ x ∈ l, x < 256) (k : Nat) : more (more sum (l.take k)) (l.drop k) = more sum l := by
  unfold more
  have h1 : run (4294967295 - sum) (l.take k) < 4294967296 := run_take_lt (by omega) hl k
  rw [show 4294967295 - (4294967295 - run (4294967295 - sum) (l.take k)) = run (4294967295 - sum) (l.take k) by omega, ← run_append, List.take_append_drop]
theorem more_lt (sum : Nat) (l : List Nat) : more sum l < 4294967296 := by unfold more; omega

/-- a call of More (14) or Sum (12), from a world on -/
def MoreTo (w0 : World) (sum : Nat) (v : Value) (r : Nat) : Prop := ∀ w, Below w0.heap.size w0 w → Calls Try.prog 14 #[.int .u32 sum, v] w fun e w' => e = .returned (.int .u32 (r : Nat)) ∧ Below w0.heap.size w0 w'
def SumTo (w0 : World) (v : Value) (r : Nat) : Prop := ∀ w, Below w0.heap.size w0 w → Calls Try.prog 12 #[v] w fun e w' => e = .returned (.int .u32 (r : Nat)) ∧ Below w0.heap.size w0 w'
theorem more_to {w0 : World} {a : Option Addr} {cap n : Nat} {l : List Nat} {sum r : Nat} (hs : sum < 4294967296) (hr : ReadsB w0 a l) (hl : l.length = n) (hn : n ≤ 9223372036854775807) (he : more sum l = r) : MoreTo w0 sum (.slice a n cap) r :=
  fun w hb => by rw [← he]; exact more_from hb hs hr hl hn
theorem sum_to {w0 : World} {a : Option Addr} {cap n : Nat} {l : List Nat} {r : Nat} (hr : ReadsB w0 a l) (hl : l.length = n) (hn : n ≤ 9223372036854775807) (he : more 0 l = r) : SumTo w0 (.slice a n cap) r :=
  fun w hb => by rw [← he]; exact sum_from hb hr hl hn

set_option maxHeartbeats 2000000 in
theorem parts_core (sum k : Nat) (a a' : Option Addr) (cap n d e m1 m0 r1 r0 : Nat) (w : World) (hk : k ≤ n) (hn : n ≤ 2000)
    (hsl : ∀ W, (Instr.slice 23 (.slice a n cap) none (some (.int .i64 k)) none).run Try.prog W = .ok (.slice a k cap) W)
    (hsr : ∀ W, (Instr.slice 23 (.slice a n cap) (some (.int .i64 k)) none none).run Try.prog W = .ok (.slice a' d e) W)
    (C1 : ∀ W, Below w.heap.size w W → MoreTo W sum (.slice a k cap) m1) (C2 : ∀ W, Below w.heap.size w W → MoreTo W m1 (.slice a' d e) r1) (C3 : ∀ W, Below w.heap.size w W → MoreTo W sum (.slice a n cap) r1)
    (D1 : ∀ W, Below w.heap.size w W → SumTo W (.slice a k cap) m0) (D2 : ∀ W, Below w.heap.size w W → MoreTo W m0 (.slice a' d e) r0) (D3 : ∀ W, Below w.heap.size w W → SumTo W (.slice a n cap) r0) :
    Calls Try.prog 4 #[.int .u32 sum, .slice a n cap, .int .i64 k] w fun e w' => e = .returned (.bool true) ∧ Below w.heap.size w w' := by
  have HC1 := Lib.hid C1; have HC2 := Lib.hid C2; have HC3 := Lib.hid C3; have HD1 := Lib.hid D1; have HD2 := Lib.hid D2; have HD3 := Lib.hid D3
  clear C1 C2 C3 D1 D2 D3
  go_enter Try.func4, Try.ntmps4
  go_wp2_with fail
  refine (awake_any _).mono ?_; rintro _ w1 ⟨rfl, hw1⟩
  have C1 := Lib.hid (HC1.out _ hw1); have C2 := Lib.hid (HC2.out _ hw1); have C3 := Lib.hid (HC3.out _ hw1); have D1 := Lib.hid (HD1.out _ hw1); have D2 := Lib.hid (HD2.out _ hw1); have D3 := Lib.hid (HD3.out _ hw1)
  have HB0 := Lib.hid hw1
  clear HC1 HC2 HC3 HD1 HD2 HD3 hw1
  go_wp2_with fail
  go_region_held3 (fun _ => True) (trivial) (first
    | (go_at_call_of 12 (Value.slice a k cap); refine (D1.out _ ?_).mono ?_; (first | assumption | exact (Below.refl _ _).drew); rintro _ w5 ⟨rfl, h5⟩)
    | (go_at_call_of 12 (Value.slice a n cap); refine (D3.out _ ?_).mono ?_; (first | assumption | exact (Below.refl _ _).drew); rintro _ w5 ⟨rfl, h5⟩)
    | (go_at_call_of 14 (Value.slice a k cap); refine (C1.out _ ?_).mono ?_; (first | assumption | exact (Below.refl _ _).drew); rintro _ w5 ⟨rfl, h5⟩)
    | (go_at_call_of 14 (Value.slice a n cap); refine (C3.out _ ?_).mono ?_; (first | assumption | exact (Below.refl _ _).drew); rintro _ w5 ⟨rfl, h5⟩)
    | (go_at_call_of 14 (Value.int .u32 (m1 : Nat)); refine (C2.out _ ?_).mono ?_; (first | assumption | exact (Below.refl _ _).drew); rintro _ w5 ⟨rfl, h5⟩)
    | (go_at_call_of 14 (Value.int .u32 (m0 : Nat)); refine (D2.out _ ?_).mono ?_; (first | assumption | exact (Below.refl _ _).drew); rintro _ w5 ⟨rfl, h5⟩))
  all_goals go_wp2_with fail
  all_goals go_ret
  all_goals exact ⟨rfl, below_on HB0.out (by assumption)⟩

theorem elem23 : Try.prog.underlying 23 = some (.slice (Try.prog.elem 23)) := by kernel_rfl
theorem size1 (w : World) : (sizeOf (Try.prog.elem 23)).run Try.prog w = .ok 1 w := by kernel_rfl
theorem slice_to (a : Option Addr) (n cap k : Nat) (hk : k ≤ cap) (W : World) : (Instr.slice 23 (.slice a n cap) none (some (.int .i64 k)) none).run Try.prog W = .ok (.slice a k cap) W := by
  rw [run_slice_h W 23 a n cap elem23 .i64 (k : Int) (by omega) (by omega), size1]
  simp only [Result.andThen, sliced, Int.toNat_natCast, Nat.zero_mul, Nat.sub_zero]
  have e : a.map (fun x => x.add 0) = a := by
    cases a with
    | none => rfl
    | some x => simp [Addr.add]
  rw [e, ite_self]
theorem slice_from (a : Option Addr) (n cap k : Nat) (hk : k ≤ n) (W : World) : (Instr.slice 23 (.slice a n cap) (some (.int .i64 k)) none none).run Try.prog W = .ok (.slice (if cap = k then a else a.map (fun x => x.add k)) (n - k) (cap - k)) W := by
  rw [run_slice_l W 23 a n cap elem23 .i64 (k : Int) (by omega) (by omega), size1]
  simp only [Result.andThen, sliced, Int.toNat_natCast, Nat.mul_one]

theorem ReadsB.dropped {w : World} {a : Option Addr} {l : List Nat} {cap : Nat} (h : ReadsB w a l) (k : Nat) (hc : l.length ≤ cap) : ReadsB w (if cap = k then a else a.map (fun x => x.add k)) (l.drop k) := by
  by_cases hk : k < l.length
  · obtain ⟨b, off, ha, _⟩ := h.2 (by omega)
    subst ha
    rw [if_neg (by omega)]
    have := h.drop k
    simpa [Addr.add_lit] using this
  · rw [List.drop_eq_nil_of_le (by omega)]
    exact ReadsB.nil _ _

theorem parts_short (sum : Nat) (at_ : Int) (a : Option Addr) (cap n : Nat) (w : World) (h : 2000 < n ∨ (n ≤ 2000 ∧ (at_ < 0 ∨ (0 ≤ at_ ∧ (n : Int) < at_)))) (hn : n ≤ 9223372036854775807) :
    Calls Try.prog 4 #[.int .u32 sum, .slice a n cap, .int .i64 at_] w fun e w' => e = .returned (.bool true) ∧ Below w.heap.size w w' := by
  rcases h with h | ⟨h1, h | ⟨h2, h⟩⟩
  all_goals
    go_enter Try.func4, Try.ntmps4
    go_wp2_with fail
    refine (awake_any _).mono ?_; rintro _ w1 ⟨rfl, hw1⟩
    go_wp2_with fail
    go_ret
    exact ⟨rfl, hw1⟩

theorem parts_any (sum : Nat) (at_ : Int) (a : Option Addr) (cap n : Nat) (l : List Nat) (w : World) (hs : sum < 4294967296) (hc : n ≤ cap)
    (hl : l.length = n) (hn : n ≤ 9223372036854775807) (hr : ReadsB w a l) :
    Calls Try.prog 4 #[.int .u32 sum, .slice a n cap, .int .i64 at_] w fun e w' => e = .returned (.bool true) ∧ Below w.heap.size w w' := by
  by_cases h1 : 2000 < n
  · exact parts_short sum at_ a cap n w (.inl h1) hn
  by_cases h2 : at_ < 0
  · exact parts_short sum at_ a cap n w (.inr ⟨by omega, .inl h2⟩) hn
  by_cases h3 : (n : Int) < at_
  · exact parts_short sum at_ a cap n w (.inr ⟨by omega, .inr ⟨by omega, h3⟩⟩) hn
  obtain ⟨k, rfl⟩ := Int.eq_ofNat_of_zero_le (show 0 ≤ at_ by omega)
  have hk : k ≤ n := by omega
  have l1 : (l.take k).length = k := by rw [List.length_take]; omega
  have l2 : (l.drop k).length = n - k := by rw [List.length_drop]; omega
  exact parts_core sum k a _ cap n (n - k) (cap - k) (more sum (l.take k)) (more 0 (l.take k)) (more sum l) (more 0 l) w hk (by omega)
    (slice_to a n cap k (by omega)) (slice_from a n cap k hk)
    (fun W h => more_to hs ((hr.from h).take k) l1 (by omega) rfl)
    (fun W h => more_to (more_lt _ _) ((hr.from h).dropped k (by omega)) l2 (by omega) (more_parts sum hs l hr.1 k))
    (fun W h => more_to hs (hr.from h) hl hn rfl)
    (fun W h => sum_to ((hr.from h).take k) l1 (by omega) rfl)
    (fun W h => more_to (more_lt _ _) ((hr.from h).dropped k (by omega)) l2 (by omega) (more_parts 0 (by decide) l hr.1 k))
    (fun W h => sum_to (hr.from h) hl hn rfl)
theorem Row8.cap {w : World} {a : Option Addr} {len cap : Nat} {zs : List Int} (h : Row8 w a len cap zs) : len ≤ cap := by
  rcases h with ⟨rfl, rfl, rfl, rfl⟩ | ⟨x, rfl, h1, h2, h3, h4, h5⟩
  · exact Nat.le_refl _
  · exact h1
end Go.Proofs.Ytknpncnogocbjaa.Crc

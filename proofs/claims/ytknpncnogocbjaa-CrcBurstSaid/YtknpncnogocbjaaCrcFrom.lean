/-
  Contracts of the sum's functions from a world on, and how a slice of bytes is read.
-/
import Derived.Test.YtknpncnogocbjaaAwake2
import Derived.Deep.RegionWith
namespace Go.Proofs.Ytknpncnogocbjaa.Crc
open Go.RowKit Go.Proofs Go.Proofs.Ytknpncnogocbjaa.CrcMath
set_option maxRecDepth 100000
set_option linter.unusedVariables false

theorem ReadsB.from {w0 w : World} {a : Option Addr} {l : List Nat} (h : ReadsB w0 a l) (hb : Below w0.heap.size w0 w) : ReadsB w a l := h.below hb
theorem below_on {w0 w w' : World} (h : Below w0.heap.size w0 w) (k : Below w.heap.size w w') : Below w0.heap.size w0 w' := h.trans (k.mono h.size)

section
variable {w0 w : World} {a : Option Addr} {cap n : Nat} {l : List Nat}
theorem sum_from (hb : Below w0.heap.size w0 w) (hr : Hid (ReadsB w0 a l)) (hl : Hid (l.length = n)) (hn : n ≤ 9223372036854775807) :
    Calls Try.prog 12 #[.slice a n cap] w fun e w' => e = .returned (.int .u32 (more 0 l : Nat)) ∧ Below w0.heap.size w0 w' :=
  (sum_any a cap l n w hl.out hn (hr.out.from hb)).mono fun _ _ ⟨h, k⟩ => ⟨h, below_on hb k⟩
theorem rsum_from (hb : Below w0.heap.size w0 w) (hr : Hid (ReadsB w0 a l)) (hl : Hid (l.length = n)) (hn : n ≤ 9223372036854775807) :
    Calls Try.prog 13 #[.slice a n cap] w fun e w' => e = .returned (.int .u32 (more 0 l : Nat)) ∧ Below w0.heap.size w0 w' :=
  (rsum_any a cap l n w hl.out hn (hr.out.from hb)).mono fun _ _ ⟨h, k⟩ => ⟨h, k ▸ hb⟩
theorem more_from {sum : Nat} (hb : Below w0.heap.size w0 w) (hs : sum < 4294967296) (hr : Hid (ReadsB w0 a l)) (hl : Hid (l.length = n)) (hn : n ≤ 9223372036854775807) :
    Calls Try.prog 14 #[.int .u32 sum, .slice a n cap] w fun e w' => e = .returned (.int .u32 (more sum l : Nat)) ∧ Below w0.heap.size w0 w' :=
  (more_any sum hs a cap l n w hl.out hn (hr.out.from hb)).mono fun _ _ ⟨h, k⟩ => ⟨h, below_on hb k⟩
theorem rmore_from {sum : Nat} (hb : Below w0.heap.size w0 w) (hs : sum < 4294967296) (hr : Hid (ReadsB w0 a l)) (hl : Hid (l.length = n)) (hn : n ≤ 9223372036854775807) :
    Calls Try.prog 15 #[.int .u32 sum, .slice a n cap] w fun e w' => e = .returned (.int .u32 (more sum l : Nat)) ∧ Below w0.heap.size w0 w' :=
  (rmore_any sum hs a cap l n w hl.out hn (hr.out.from hb)).mono fun _ _ ⟨h, k⟩ => ⟨h, k ▸ hb⟩
theorem eight_from {x : Nat} (hb : Below w0.heap.size w0 w) (hx : x < 4294967296) :
    Calls Try.prog 16 #[.int .u32 x] w fun e w' => e = .returned (.int .u32 (ev x : Nat)) ∧ Below w0.heap.size w0 w' :=
  (eight_any x hx w).mono fun _ _ ⟨h, k⟩ => ⟨h, k ▸ hb⟩
end

/-- A slice of bytes, as the row's reading tells it. -/
def Row8 (w : World) (a : Option Addr) (len cap : Nat) (zs : List Int) : Prop :=
  (a = none ∧ len = 0 ∧ cap = 0 ∧ zs = []) ∨
  ∃ x, a = some x ∧ len ≤ cap ∧ cap ≤ maxLen ∧ zs.length = cap ∧ (∀ i, i < zs.length → w.cell? (x.add i) = some (.int .u8 (zs.getD i 0))) ∧ ∀ n ∈ zs, (Lit.int .u8 n).wf = true

theorem wf_u8 {n : Int} (h : (Lit.int .u8 n).wf = true) : 0 ≤ n ∧ n < 256 := by
  simp [Lit.wf, IntKind.min, IntKind.max, IntKind.signed, IntKind.bits] at h; omega
theorem wf_u32 {n : Int} (h : (Lit.int .u32 n).wf = true) : 0 ≤ n ∧ n < 4294967296 := by
  simp [Lit.wf, IntKind.min, IntKind.max, IntKind.signed, IntKind.bits] at h; omega
theorem wf_i64 {n : Int} (h : (Lit.int .i64 n).wf = true) : -9223372036854775808 ≤ n ∧ n ≤ 9223372036854775807 := by
  simp [Lit.wf, IntKind.min, IntKind.max, IntKind.signed, IntKind.bits] at h; omega

theorem Row8.reads {w : World} {a : Option Addr} {len cap : Nat} {zs : List Int} (h : Row8 w a len cap zs) :
    ((zs.take len).map Int.toNat).length = len ∧ ReadsB w a ((zs.take len).map Int.toNat) ∧ len ≤ 9223372036854775807 := by
  rcases h with ⟨rfl, rfl, rfl, rfl⟩ | ⟨x, rfl, h1, h2, h3, h4, h5⟩
  · exact ⟨rfl, ⟨fun x hx => by simp at hx, fun h => by simp at h⟩, by omega⟩
  · unfold maxLen at h2
    have hlen : ((zs.take len).map Int.toNat).length = len := by rw [List.length_map, List.length_take]; omega
    refine ⟨hlen, ⟨?_, fun _ => ?_⟩, by omega⟩
    · intro y hy
      obtain ⟨z, hz, rfl⟩ := List.mem_map.1 hy
      have := wf_u8 (h5 z (List.mem_of_mem_take hz))
      omega
    have hz0 : 0 < zs.length → x.spot = none := fun hz => by
      have h0 := h4 0 hz
      have e0 : x.add 0 = x := by unfold Addr.add; simp
      rw [e0] at h0
      unfold World.cell? at h0
      split at h0
      · split at h0
        · cases h0
        · rename_i hs; cases hx : x.spot with
          | none => rfl
          | some q => rw [hx] at hs; simp at hs
      · cases h0
    by_cases hz : 0 < zs.length
    · obtain ⟨b, off, sp⟩ := x
      have hs : sp = none := hz0 hz
      subst hs
      refine ⟨b, off, rfl, fun k hk => ?_⟩
      rw [hlen] at hk
      have hkz : k < zs.length := by omega
      have := h4 k hkz
      rw [Addr.add_lit] at this
      rw [this]
      have hw := wf_u8 (h5 (zs.getD k 0) (by simp [hkz]))
      have e : ((at_ ((zs.take len).map Int.toNat) k : Nat) : Int) = zs.getD k 0 := by
        unfold at_
        have : ((zs.take len).map Int.toNat).getD k 0 = (zs.getD k 0).toNat := by
          simp [List.getD, hk, hkz]
        rw [this]; omega
      rw [e]
    · exact ⟨x.block, x.off, by rename_i hlt; simp at hlt; omega, fun k hk => by simp at hk; omega⟩

theorem and255 {n : Int} (h0 : -9223372036854775808 ≤ n) (h1 : n ≤ 9223372036854775807) : bits .and .i64 n 255 = n % 256 := by
  show IntKind.i64.wrap (((BitVec.ofInt 64 n &&& BitVec.ofInt 64 255).toNat : Nat) : Int) = _
  have e : (BitVec.ofInt 64 n &&& BitVec.ofInt 64 255).toNat = (n % 256).toNat := by
    rw [BitVec.toNat_and]
    have e2 : (BitVec.ofInt 64 255).toNat = 255 := by decide
    rw [e2, BitVec.toNat_ofInt]
    rw [show (255 : Nat) = 2 ^ 8 - 1 by decide, Nat.and_two_pow_sub_one_eq_mod]
    omega
  rw [e]
  have : ∀ m : Nat, m < 256 → IntKind.i64.wrap (m : Int) = (m : Int) := by
    intro m hm
    rw [IntKind.wrap_i64]; omega
  rw [this _ (by omega)]
  omega
end Go.Proofs.Ytknpncnogocbjaa.Crc

/-
  The contract of area's iterator over the legs of a tour.
-/
import Derived.RangeFuncNested
import Derived.RangeFuncBound
import Derived.RangeFuncCalls
import Derived.RangeFuncLeaves
import Derived.Shelf.Abstract
import Derived.Shelf.RegionOpen
import Derived.WalkKit
import Derived.OwnWalkIn
import Derived.TacticsInMore
import Derived.LoopNIn
import Derived.LoopIn
import Derived.Test.YtakiciemkecgfaaLeg
namespace Go.Proofs.Ytakiciemkecgfaa.Area
open Go.RowKit Go.Shelf Go.Proofs Go.Proofs.Ytakiciemkecgfaa.AreaMath
set_option maxRecDepth 100000
set_option linter.unusedVariables false
attribute [local go_sem] Oper.semAt_some

/-- two nodes -/
abbrev PN (n : Int) := { p : Int × Int // nodeB n p.1 = true ∧ nodeB n p.2 = true }
def steps : Int → List Int → List (Int × Int)
  | _, [] => []
  | x, y :: l => (x, y) :: steps y l
theorem steps_snoc (x y : Int) (l : List Int) : steps x (l ++ [y]) = steps x l ++ [(lastN x l, y)] := by
  induction l generalizing x with
  | nil => rfl
  | cons z l ih => simp only [List.cons_append, steps, lastN, ih]
theorem steps_length (x : Int) (l : List Int) : (steps x l).length = l.length := by
  induction l generalizing x with
  | nil => rfl
  | cons z l ih => simp only [List.length_cons, steps, ih]
def sumLegs (n : Int) (D : List Int) : List (Int × Int) → Int
  | [] => 0
  | p :: l => leg n D p.1 p.2 + sumLegs n D l
theorem sumLegs_snoc (n : Int) (D : List Int) (p : Int × Int) (l : List (Int × Int)) : sumLegs n D (l ++ [p]) = sumLegs n D l + leg n D p.1 p.2 := by
  induction l with
  | nil => simp [sumLegs]
  | cons z l ih => simp only [List.cons_append, sumLegs, ih]; omega
theorem sumLegs_steps (n : Int) (D : List Int) (x : Int) (l : List Int) : sumLegs n D (steps x l) = path n D x l := by
  induction l generalizing x with
  | nil => rfl
  | cons z l ih => simp only [steps, sumLegs, path, ih]

/-- the legs of the first k nodes have come -/
def CameTo (n : Int) (L : List Int) (k : Nat) (pre : List (PN n)) : Prop := pre.map Subtype.val = steps 0 (L.take k)
def CameAll (n : Int) (L : List Int) (pre : List (PN n)) : Prop := pre.map Subtype.val = steps 0 L ++ [(lastN 0 L, 0)]
theorem CameTo.zero (n : Int) (L : List Int) : CameTo n L 0 [] := rfl
theorem CameTo.step {n : Int} {L : List Int} {k : Nat} {pre : List (PN n)} (h : CameTo n L k pre) (hk : k < L.length) {x : PN n} (hx : x.1 = (lastN 0 (L.take k), at_ L k)) : CameTo n L (k + 1) (pre ++ [x]) := by
  unfold CameTo at *
  rw [List.map_append, h, take_snoc L k hk, steps_snoc]
  simp [hx]
theorem CameTo.done {n : Int} {L : List Int} {pre : List (PN n)} (h : CameTo n L L.length pre) {x : PN n} (hx : x.1 = (lastN 0 L, 0)) : CameAll n L (pre ++ [x]) := by
  unfold CameTo at h; unfold CameAll
  rw [List.map_append, h, List.take_length]
  simp [hx]
theorem CameTo.length {n : Int} {L : List Int} {k : Nat} {pre : List (PN n)} (h : CameTo n L k pre) (hk : k ≤ L.length) : pre.length = k := by
  have := congrArg List.length h
  rw [List.length_map, steps_length, List.length_take] at this
  omega
theorem lastN_take_succ (L : List Int) (k : Nat) (hk : k < L.length) : lastN 0 (L.take (k + 1)) = at_ L k := by
  rw [take_snoc L k hk, lastN_snoc]
theorem cell_from {n₀ : Nat} {w0 w1 w2 : World} {b off k : Nat} {v : Value} (h0 : w0.heap.size = n₀) (h : w0.cell? ⟨b, off + k, none⟩ = some v) (hb : Below n₀ w0 w1) : w1.cell? ⟨b, off + k, none⟩ = some v := by
  subst h0; exact cell_on hb h

set_option maxHeartbeats 2000000 in
theorem legs1_in (F : Fence) (m : Nat) (h65 : F.fn 65) (hro : F.round = none) (hm : 1 ≤ m) (l Bs len cap : Nat) (n : Int) (a : Option Addr) (L : List Int) (w0 : World) (lL1 : L.length = len) (hle : len ≤ 9223372036854775807) (hL : ReadsI w0 a L) (hn : 1 ≤ n) (hnL : nodesB n L = true) (J Jx : List (PN n) → World → Prop)
    (hY : ∀ pre (x : PN n) W, J pre W → pre.length < len + 1 → YieldAt F (m - 1) Try.prog l #[.int .i64 x.1.1, .int .i64 x.1.2] W fun e W' =>
      (e = .returned (.bool true) ∧ J (pre ++ [x]) W' ∧ Below w0.heap.size W W') ∨ (e = .returned (.bool false) ∧ Jx (pre ++ [x]) W'))
    (W : World) (hW0 : Below w0.heap.size w0 W) (hBs : W.cell? ⟨Bs, 0, none⟩ = some (.slice a len cap)) (h0 : J [] W) :
    CallsIn F m Try.prog 65 #[.func (.yield l) #[] #[], .pointer (some ⟨Bs, 0, none⟩)] W fun e W' => (∃ v, e = .returned v) ∧
      ((∃ ys, CameAll n L ys ∧ J ys W') ∨ (∃ pre, True ∧ Jx pre W')) := by
  have h00 : nodeB n 0 = true := nodeB_iff.2 ⟨by omega, by omega⟩
  have LL := Lib.hid lL1; have HL := Lib.hid hL; have HN := Lib.hid hnL; have HW0 := Lib.hid hW0
  have H00 := Lib.hid h00
  clear lL1 hL hnL hW0 h00
  refine callsIn_of_wp Try.func65 rfl h65 ?_ hro
  simp only [Try.ntmps65, List.size_toArray, List.length_cons, List.length_nil, Nat.reduceAdd, Nat.reduceSub, Array.replicate_succ, Array.replicate_zero, List.push_toArray, List.append_toArray, List.nil_append, List.cons_append]
  gi_wp2
  gi_loopw [8, 3] (fun i x wr => ∃ (k : Nat) (pre : List (PN n)) (y : Int), k ≤ len ∧ i = .int .i64 k ∧ x = .int .i64 y ∧ lastN 0 (L.take k) = y ∧ CameTo n L k pre ∧ J pre wr ∧ Below w0.heap.size w0 wr)
    (fun i _ _ => len - (intOf i).toNat)
  case atStart => exact ⟨0, [], 0, Nat.zero_le _, rfl, rfl, rfl, CameTo.zero _ _, h0, HW0.out⟩
  case round =>
    obtain ⟨k, pre, y, hk, rfl, rfl, hy0, hC, hJs, hnx⟩ := hrel
    have HC := Lib.hid hC; have HX := Lib.hid hnx; have HY0 := Lib.hid hy0
    have hlen : pre.length = k := hC.length (by rw [LL.out]; exact hk)
    clear hC hnx hy0
    have hny : nodeB n y = true := by rw [← HY0.out]; exact nodeB_lastN H00.out (nodesB_take HN.out k)
    have HNY := Lib.hid hny
    clear hny
    by_cases hlt : k < len
    · have hkl : k < L.length := by rw [LL.out]; exact hlt
      have hnz : nodeB n (at_ L k) = true := nodesB_at HN.out k hkl
      obtain ⟨b, off, ha, hc⟩ := HL.out (by omega)
      subst ha
      have hcell := cell_on HX.out (hc k hkl)
      clear hc
      obtain ⟨z, hz⟩ : ∃ z, at_ L k = z := ⟨_, rfl⟩
      rw [hz] at hcell hnz
      have HK := Lib.hid hkl; have HZ := Lib.hid hz
      clear hkl hz
      obtain ⟨fn, tmps, assign, body, hy, hR⟩ := hY pre ⟨(y, z), HNY.out, hnz⟩ wr hJs (by omega)
      dsimp only at hy
      gi_wp2
      refine hR.mono ?_
      rintro e W3 (⟨rfl, hJ3, hk3⟩ | ⟨rfl, hJx3⟩)
      · gi_wp2
        go_roundw
        case rel => exact ⟨k + 1, _, z, by omega, by go_num, rfl, by rw [lastN_take_succ L k HK.out]; exact HZ.out, HC.out.step HK.out (by rw [HY0.out, HZ.out]), hJ3, HX.out.trans hk3⟩
        case measure => simp [intOf]; omega
      · gi_wp2
        refine bodyPost_ret (results_none rfl _ _ _) rfl ?_
        exact ⟨⟨_, rfl⟩, .inr ⟨_, trivial, hJx3⟩⟩
    · obtain rfl : k = len := by omega
      obtain ⟨fn, tmps, assign, body, hy, hR⟩ := hY pre ⟨(y, 0), HNY.out, H00.out⟩ wr hJs (by omega)
      dsimp only at hy
      have HD : Hid (∀ x : PN n, x.1 = (y, 0) → CameAll n L (pre ++ [x])) := fun x hx => by
        have h1 := HC.out
        have h2 := HY0.out
        rw [← LL.out] at h1 h2
        rw [List.take_length] at h2
        exact h1.done (by rw [hx, h2])
      gi_wp2
      refine hR.mono ?_
      rintro e W3 (⟨rfl, hJ3, hk3⟩ | ⟨rfl, hJx3⟩)
      · gi_wp2
        go_end0
        exact ⟨⟨_, rfl⟩, .inl ⟨_, HD.out _ rfl, hJ3⟩⟩
      · gi_wp2
        go_end0
        exact ⟨⟨_, rfl⟩, .inr ⟨_, trivial, hJx3⟩⟩

/-- legs(nodes): the slice is boxed; the function value captures the box. -/
theorem legs_in (F : Fence) (m : Nat) (h47 : F.fn 47) (hro : F.round = none) (a : Option Addr) (len cap : Nat) (w : World) :
    CallsIn F m Try.prog 47 #[.slice a len cap] w fun e w' => e = .returned (.func (.func 65) #[] #[.pointer (some ⟨w.heap.size, 0, none⟩)]) ∧ w' = w.alloc (.cells #[.slice a len cap] 25) := by
  refine callsIn_of_wp Try.func47 rfl h47 ?_ hro
  simp only [Try.ntmps47, List.size_toArray, List.length_cons, List.length_nil, Nat.reduceAdd, Nat.reduceSub, Array.replicate_succ, Array.replicate_zero, List.push_toArray, List.append_toArray, List.nil_append, List.cons_append]
  gi_wp2
  go_ret
  exact ⟨rfl, rfl⟩

theorem legs_stops (F : Fence) (m : Nat) (h65 : F.fn 65) (hro : F.round = none) (hm : 1 ≤ m) (Bs len cap : Nat) (n : Int) (a : Option Addr) (L : List Int) (w0 w : World) (lL1 : L.length = len) (hle : len ≤ 9223372036854775807) (hL : ReadsI w0 a L) (hn : 1 ≤ n) (hnL : nodesB n L = true) (hw : Below w0.heap.size w0 w) (hBs : Bs < w.heap.size) (hc : w.cell? ⟨Bs, 0, none⟩ = some (.slice a len cap)) :
    SeqStopsK F m Try.prog 65 #[.pointer (some ⟨Bs, 0, none⟩)] (fun x : PN n => #[Value.int .i64 x.1.1, Value.int .i64 x.1.2]) (Below w0.heap.size) (CameAll n L) (fun _ => True) (len + 1) w := fun l J Jx W hW _ _ hY h0 =>
  legs1_in F m h65 hro hm l Bs len cap n a L w0 lL1 hle hL hn hnL J Jx hY W (hw.trans (hW.mono hw.size)) ((hW.cell (p := ⟨Bs, 0, none⟩) hBs).trans hc) h0
end Go.Proofs.Ytakiciemkecgfaa.Area

/-
  The walks of the reference's Find (layer 7) and Truck (layer 8).
-/
import Derived.Test.YtakiciemkecgfaaFirstMath
namespace Go.Proofs.Ytakiciemkecgfaa.Route
open Go.RowKit Go.Proofs Go.Proofs.Ytakiciemkecgfaa.AreaMath Go.Proofs.Ytakiciemkecgfaa.Area Go.Proofs.Ytakiciemkecgfaa.Load
set_option maxRecDepth 100000
set_option linter.unusedVariables false

set_option maxHeartbeats 4000000 in
theorem rfind_any (a : Option Addr) (l : List Ord) (len cap : Nat) (id : Int) (w : World) (hl : l.length = len) (hr : ReadsO w a l) (hm : len ≤ 200) :
    Calls Try.prog 34 #[.slice a len cap, .int .i64 id] w fun e w' => ∃ r : Int, e = .returned (.int .i64 r) ∧ Load.Found l id r ∧ Below w.heap.size w w' := by
  have HR := Lib.hid hr; have HL := Lib.hid hl
  clear hr hl
  go_enter Try.func34, Try.ntmps34
  go_wp2_with fail
  go_loopw [5] (fun i wr => ∃ k : Nat, k ≤ len ∧ i = .int .i64 k ∧ NotTo l id k ∧ Below w.heap.size w wr) (fun i wr => len - (intOf i).toNat)
  case atStart => exact ⟨0, by omega, rfl, fun j hj => by omega, Below.refl _ _⟩
  case round =>
    obtain ⟨k, hk, rfl, hO, hb⟩ := hrel
    have HO := Lib.hid hO; have HB := Lib.hid hb
    clear hO hb
    by_cases hlt : k < len
    · have hkl : k < l.length := by rw [HL.out]; exact hlt
      obtain ⟨b, off, ha, hc⟩ := HR.out.below HB.out (by omega)
      subst ha
      obtain ⟨c0, -⟩ := ordCells_at (hc k hkl)
      have HK := Lib.hid hkl
      obtain ⟨o, ho⟩ : ∃ o, ordAt l k = o := ⟨_, rfl⟩
      rw [ho] at c0
      have HOO := Lib.hid ho
      clear hc hkl ho
      by_cases hid : o.id = id
      · have hidb : (o.id == id) = true := beq_iff_eq.2 hid
        have F : Hid (Load.Found l id k) := .inr ⟨k, HK.out, rfl, by rw [HOO.out]; exact hid, HO.out⟩
        clear hid
        go_wp2_with fail
        go_ret
        exact ⟨_, rfl, F.out, HB.out⟩
      · have hidb : (o.id == id) = false := beq_eq_false_iff_ne.2 hid
        have HN : Hid (NotTo l id (k + 1)) := fun j hj => by
          by_cases e : j = k
          · subst e; rw [HOO.out]; exact hid
          · exact HO.out j (by omega)
        clear hid
        go_wp2_with fail
        go_roundw
        case rel => exact ⟨k + 1, by omega, by go_num, HN.out, HB.out⟩
        case measure => simp [intOf]; omega
    · obtain rfl : k = len := by omega
      have F : Hid (Load.Found l id (-1)) := .inl ⟨rfl, by rw [HL.out]; exact HO.out⟩
      go_wp2_with fail
      go_ret
      exact ⟨_, rfl, F.out, HB.out⟩

set_option maxHeartbeats 4000000 in
theorem reftruck_any (x : Wd) (q : Wp) (id : Int) (w : World) (h : Lies w x q) (hs : q.lR ≤ 200) :
    Calls Try.prog 44 #[.agg (wcells x.n q), .int .i64 id] w fun e w' => ∃ r : Int, e = .returned (.int .i64 r) ∧ FoundT x.R id r ∧ Below w.heap.size w w' := by
  have HLI := Lib.hid h
  have HF := Lib.hid (FBox.new w x.n (.slice q.aD q.lD q.cD) (.slice q.aT q.lT q.cT) (.slice q.aO q.lO q.cO) (.slice q.aR q.lR q.cR) 40)
  have HB0 := Lib.hid (below_new w (.cells #[.int .i64 x.n, .slice q.aD q.lD q.cD, .slice q.aT q.lT q.cT, .slice q.aO q.lO q.cO, .slice q.aR q.lR q.cR] 40))
  clear h
  unfold wcells
  go_enter Try.func44, Try.ntmps44
  go_wp2_with fail
  obtain ⟨w0, hw0⟩ : ∃ W, w.alloc (.cells #[.int .i64 x.n, .slice q.aD q.lD q.cD, .slice q.aT q.lT q.cT, .slice q.aO q.lO q.cO, .slice q.aR q.lR q.cR] 40) = W := ⟨_, rfl⟩
  rw [hw0] at HF HB0 ⊢
  clear hw0
  have HBR := Lib.hid (Below.refl w0.heap.size w0)
  go_loopw [5] (fun i wr => ∃ k : Nat, k ≤ q.lR ∧ i = .int .i64 k ∧ (∀ j, j < k → (trkAt x.R j).id ≠ id) ∧ Below w0.heap.size w0 wr) (fun i wr => q.lR - (intOf i).toNat)
  case atStart => exact ⟨0, by omega, rfl, fun j hj => by omega, HBR.out⟩
  case round =>
    obtain ⟨k, hk, rfl, hO, hb⟩ := hrel
    have HO := Lib.hid hO; have HB := Lib.hid hb
    clear hO hb
    obtain ⟨b0, b1, b2, b3, b4⟩ := HF.out.on HB.out
    by_cases hlt : k < q.lR
    · obtain ⟨b, off, ha, hc⟩ := (((HLI.out.below HB0.out).below HB.out)).R (by rw [HLI.out.lR]; omega)
      obtain ⟨c0, -⟩ := trkCells_at (hc k (by rw [HLI.out.lR]; exact hlt))
      rw [ha] at b4
      have HK := Lib.hid (show k < x.R.length by rw [HLI.out.lR]; exact hlt)
      obtain ⟨o, ho⟩ : ∃ o, trkAt x.R k = o := ⟨_, rfl⟩
      rw [ho] at c0
      have HOO := Lib.hid ho
      clear hc ho b0 b1 b2 b3
      by_cases hid : o.id = id
      · have hidb : (o.id == id) = true := beq_iff_eq.2 hid
        have F : Hid (FoundT x.R id k) := .inr ⟨k, HK.out, rfl, by rw [HOO.out]; exact hid, HO.out⟩
        clear hid
        go_wp2_with fail
        go_ret
        exact ⟨_, rfl, F.out, below_on HB0.out HB.out⟩
      · have hidb : (o.id == id) = false := beq_eq_false_iff_ne.2 hid
        have HN : Hid (∀ j, j < k + 1 → (trkAt x.R j).id ≠ id) := fun j hj => by
          by_cases e : j = k
          · subst e; rw [HOO.out]; exact hid
          · exact HO.out j (by omega)
        clear hid
        go_wp2_with fail
        go_roundw
        case rel => exact ⟨k + 1, by omega, by go_num, HN.out, HB.out⟩
        case measure => simp [intOf]; omega
    · obtain rfl : k = q.lR := by omega
      have F : Hid (FoundT x.R id (-1)) := .inl ⟨rfl, by rw [HLI.out.lR]; exact HO.out⟩
      go_wp2_with fail
      go_ret
      exact ⟨_, rfl, F.out, below_on HB0.out HB.out⟩
end Go.Proofs.Ytakiciemkecgfaa.Route

/-
  The walk of the document's Sum, and that of MoneyTells.
-/
import Derived.Test.YtknpncnogocbjaaRefShare
namespace Go.Proofs.Ytknpncnogocbjaa.Money
open Go.RowKit Go.Proofs Go.Proofs.Ytknpncnogocbjaa.MoneyMath
set_option maxRecDepth 100000
set_option linter.unusedVariables false

set_option maxHeartbeats 400000 in
theorem rsum_any (a : Option Addr) (cap : Nat) (l : List Int) (w : World) (hr : ReadsI w a l) (hl : l.length ≤ 9223372036854775807) :
    Calls Try.prog 23 #[.slice a l.length cap] w fun e w' => e = .returned (.tuple #[.int .i64 (sumP l).1, .int .i64 (sumP l).2]) ∧ w = w' := by
  have HR := Lib.hid hr; clear hr
  obtain ⟨n, hn⟩ : ∃ n, l.length = n := ⟨_, rfl⟩
  rw [hn] at hl ⊢
  have HN := Lib.hid hn; clear hn
  go_enter Try.func23, Try.ntmps23
  go_wp2_with fail
  go_loop [4] (fun i => ∃ (k : Nat), k ≤ n ∧ i = .int .i64 k ∧ AllMay l k) (fun i => n - (intOf i).toNat)
  case atStart => exact ⟨0, by omega, rfl, AllMay.zero l⟩
  case round =>
    obtain ⟨k, hk, rfl, hA⟩ := hrel
    have HA := Lib.hid hA; clear hA
    by_cases hlt : k < n
    · obtain ⟨b, off, ha, hc⟩ := HR.out (by rw [HN.out]; omega)
      subst ha
      have hcell := hc k (by rw [HN.out]; omega)
      clear hc
      cases hm : mayB (at_ l k) with
      | true =>
        have HM := Lib.hid hm; clear hm
        go_wp2_with fail
        refine (rmay_yes HM.out _).mono ?_; rintro e w' ⟨rfl, rfl⟩
        go_wp2_with fail
        go_round
        case rel => exact ⟨k + 1, by omega, by go_num, HA.out.step (by rw [HN.out]; omega) HM.out⟩
        case measure => simp [intOf]; omega
      | false =>
        have HM := Lib.hid hm; clear hm
        go_wp2_with fail
        refine (rmay_no HM.out _).mono ?_; rintro e w' ⟨rfl, rfl⟩
        go_wp2_with fail
        go_ret2
        exact ⟨pair_ret (AllMay.bad (by rw [HN.out]; omega) HM.out), rfl⟩
    · obtain rfl : k = n := by omega
      go_wp2_with fail
      go_loop [5, 6] (fun u i => ∃ (j : Nat) (acc : Int), j ≤ k ∧ i = .int .i64 j ∧ u = .int .i64 acc ∧ Folded l j acc) (fun _ i => k - (intOf i).toNat)
      case atStart => exact ⟨0, 0, by omega, rfl, rfl, Folded.start (by have := HA.out; rw [← HN.out] at this; exact this)⟩
      case round =>
        obtain ⟨j, acc, hj, rfl, rfl, hF⟩ := hrel
        have HF := Lib.hid hF; clear hF
        by_cases hlt2 : j < k
        · obtain ⟨b, off, ha, hc⟩ := HR.out (by rw [HN.out]; omega)
          subst ha
          have hcell := hc j (by rw [HN.out]; omega)
          clear hc
          by_cases he : addE acc (at_ l j) = 0
          · have hb : (addE acc (at_ l j) != 0) = false := by rw [he]; rfl
            have HE := Lib.hid he; clear he
            go_wp2_with fail
            refine (radd_any _ _ _).mono ?_; rintro e w' ⟨rfl, rfl⟩
            go_wp2_with fail
            go_round
            case rel => exact ⟨j + 1, _, by omega, by go_num, rfl, HF.out.step (by rw [HN.out]; omega) HE.out⟩
            case measure => simp [intOf]; omega
          · have hb : (addE acc (at_ l j) != 0) = true := bne_iff_ne.2 he
            have HE := Lib.hid he; clear he
            go_wp2_with fail
            refine (radd_any _ _ _).mono ?_; rintro e w' ⟨rfl, rfl⟩
            go_wp2_with fail
            go_ret2
            exact ⟨pair_ret (HF.out.bad (by rw [HN.out]; omega) HE.out), rfl⟩
        · obtain rfl : j = k := by omega
          go_wp2_with fail
          go_ret2
          exact ⟨pair_ret (Folded.done (by have := HF.out; rw [← HN.out] at this; exact this)), rfl⟩

theorem reads_below {w w1 : World} {a : Option Addr} {l : List Int} (h : ReadsI w a l) (hb : Below w.heap.size w w1) : ReadsI w1 a l := by
  intro hl
  obtain ⟨b, off, ha, hc⟩ := h hl
  refine ⟨b, off, ha, fun k hk => ?_⟩
  have := hc k hk
  rw [hb.cell (World.block_lt_of_cell? w _ this)]
  exact this

set_option maxHeartbeats 400000 in
theorem tells_walk (a b c s e u g x j y z k : Int) (l : List Int) (ad : Option Addr) (n cap : Nat) (w : World)
    (hl : l.length = n) (hr : ReadsI w ad l) (hn : n ≤ 9223372036854775807)
    (A1 : ∀ w, Calls Try.prog 18 #[.int .i64 a, .int .i64 b] w fun x w' => x = .returned (.tuple #[.int .i64 s, .int .i64 e]) ∧ w = w')
    (A2 : ∀ w, Calls Try.prog 19 #[.int .i64 a, .int .i64 b] w fun x w' => x = .returned (.tuple #[.int .i64 s, .int .i64 e]) ∧ w = w')
    (M1 : ∀ w, Calls Try.prog 20 #[.int .i64 a, .int .i64 b] w fun x w' => x = .returned (.tuple #[.int .i64 u, .int .i64 g]) ∧ w = w')
    (M2 : ∀ w, Calls Try.prog 21 #[.int .i64 a, .int .i64 b] w fun x w' => x = .returned (.tuple #[.int .i64 u, .int .i64 g]) ∧ w = w')
    (S1 : ∀ w, ReadsI w ad l → Calls Try.prog 22 #[.slice ad n cap] w fun r w' => r = .returned (.tuple #[.int .i64 x, .int .i64 j]) ∧ w = w')
    (S2 : ∀ w, ReadsI w ad l → Calls Try.prog 23 #[.slice ad n cap] w fun r w' => r = .returned (.tuple #[.int .i64 x, .int .i64 j]) ∧ w = w')
    (T1 : ∀ w, Calls Try.prog 24 #[.int .i64 a, .int .i64 b, .int .i64 c] w fun x w' => x = .returned (.tuple #[.int .i64 y, .int .i64 z, .int .i64 k]) ∧ w = w')
    (T2 : ∀ w, Calls Try.prog 25 #[.int .i64 a, .int .i64 b, .int .i64 c] w fun x w' => x = .returned (.tuple #[.int .i64 y, .int .i64 z, .int .i64 k]) ∧ w = w') :
    Calls Try.prog 6 #[.int .i64 a, .int .i64 b, .int .i64 c, .slice ad n cap] w fun x w' => x = .returned (.bool true) ∧ Below w.heap.size w w' := by
  have HR := Lib.hid hr; clear hr hl
  have B1 := Lib.hid A1; have B2 := Lib.hid A2; have B3 := Lib.hid M1; have B4 := Lib.hid M2; have B5 := Lib.hid S1; have B6 := Lib.hid S2; have B7 := Lib.hid T1; have B8 := Lib.hid T2
  clear A1 A2 M1 M2 S1 S2 T1 T2
  by_cases hm : 1000 < n
  · go_enter Try.func6, Try.ntmps6
    go_wp2_with fail
    refine (awake_any _).mono ?_; rintro _ w1 ⟨rfl, hw1⟩
    go_wp2_with fail
    go_ret
    exact ⟨rfl, hw1⟩
  · have hm' : n ≤ 1000 := by omega
    go_enter Try.func6, Try.ntmps6
    go_wp2_with fail
    refine (awake_any _).mono ?_; rintro _ w1 ⟨rfl, hw1⟩
    go_wp2_with fail
    refine (B1.out _).mono ?_; rintro _ w' ⟨rfl, rfl⟩
    go_wp2_with fail
    refine (B2.out _).mono ?_; rintro _ w' ⟨rfl, rfl⟩
    go_wp2_with fail
    refine (B3.out _).mono ?_; rintro _ w' ⟨rfl, rfl⟩
    go_wp2_with fail
    refine (B4.out _).mono ?_; rintro _ w' ⟨rfl, rfl⟩
    go_wp2_with fail
    refine (B5.out _ (reads_below HR.out hw1)).mono ?_; rintro _ w' ⟨rfl, rfl⟩
    go_wp2_with fail
    refine (B6.out _ (reads_below HR.out hw1)).mono ?_; rintro _ w' ⟨rfl, rfl⟩
    go_wp2_with fail
    refine (B7.out _).mono ?_; rintro _ w' ⟨rfl, rfl⟩
    go_wp2_with fail
    refine (B8.out _).mono ?_; rintro _ w' ⟨rfl, rfl⟩
    go_wp2_with fail
    go_ret
    exact ⟨rfl, hw1⟩

theorem tells_any (a b c : Int) (l : List Int) (ad : Option Addr) (n cap : Nat) (w : World) (hl : l.length = n) (hr : ReadsI w ad l) (hn : n ≤ 9223372036854775807) :
    Calls Try.prog 6 #[.int .i64 a, .int .i64 b, .int .i64 c, .slice ad n cap] w fun x w' => x = .returned (.bool true) ∧ Below w.heap.size w w' := by
  subst hl
  exact tells_walk a b c _ _ _ _ _ _ _ _ _ l ad l.length cap w rfl hr hn (add_any a b) (radd_any a b) (mul_any a b) (rmul_any a b)
    (fun w h => sum_any ad cap l w h hn) (fun w h => rsum_any ad cap l w h hn) (share_any a b c) (rshare_any a b c)

/-- A slice of numbers, as the row's reading tells it. -/
def Row (w : World) (a : Option Addr) (len cap : Nat) (zs : List Int) : Prop :=
  (a = none ∧ len = 0 ∧ cap = 0 ∧ zs = []) ∨
  ∃ x, a = some x ∧ len ≤ cap ∧ cap ≤ maxLen ∧ zs.length = cap ∧ (∀ i, i < zs.length → w.cell? (x.add i) = some (.int .i64 (zs.getD i 0))) ∧ ∀ n ∈ zs, (Lit.int .i64 n).wf = true

theorem Row.reads {w : World} {a : Option Addr} {len cap : Nat} {zs : List Int} (h : Row w a len cap zs) : (zs.take len).length = len ∧ ReadsI w a (zs.take len) ∧ len ≤ 9223372036854775807 := by
  rcases h with ⟨rfl, rfl, rfl, rfl⟩ | ⟨x, rfl, h1, h2, h3, h4, h5⟩
  · exact ⟨rfl, fun h => by simp at h, by omega⟩
  · unfold maxLen at h2
    have hlen : (zs.take len).length = len := by rw [List.length_take]; omega
    refine ⟨hlen, fun _ => ?_, by omega⟩
    have hz0 : 0 < zs.length → x.spot = none := fun hz => by
      have h0 := h4 0 hz
      have e0 : x.add 0 = x := by unfold Addr.add; simp
      rw [e0] at h0
      unfold World.cell? at h0
      split at h0
      · split at h0
        · cases h0
        · rename_i hs; cases hx : x.spot with
          | none => rfl
          | some q => rw [hx] at hs; simp at hs
      · cases h0
    by_cases hz : 0 < zs.length
    · obtain ⟨b, off, sp⟩ := x
      have hs : sp = none := hz0 hz
      subst hs
      refine ⟨b, off, rfl, fun k hk => ?_⟩
      rw [hlen] at hk
      have := h4 k (by omega)
      rw [Addr.add_lit] at this
      rw [this]
      have e : at_ (zs.take len) k = zs.getD k 0 := by
        unfold at_; simp [List.getD, hk]
      rw [e]
    · exact ⟨x.block, x.off, by rename_i hlt; simp at hlt; omega, fun k hk => by simp at hk; omega⟩
end Go.Proofs.Ytknpncnogocbjaa.Money

/-
  The walk of LoadLess.
-/
import Derived.Test.YtakiciemkecgfaaAwakeL
import Derived.Test.YtakiciemkecgfaaLessMath
import Derived.Test.YtakiciemkecgfaaOpenL
namespace Go.Proofs.Ytakiciemkecgfaa.Load
open Go.RowKit Go.Proofs Go.Proofs.Ytakiciemkecgfaa.AreaMath Go.Proofs.Ytakiciemkecgfaa.Area
set_option maxRecDepth 100000
set_option linter.unusedVariables false

theorem ReadsO.nil (w : World) (a : Option Addr) : ReadsO w a [] := fun h => absurd h (by simp)
theorem ReadsO.take {w : World} {a : Option Addr} {l : List Ord} (h : ReadsO w a l) (k : Nat) : ReadsO w a (l.take k) := by
  intro hl
  rw [List.length_take] at hl
  obtain ⟨b, off, ha, hc⟩ := h (by omega)
  refine ⟨b, off, ha, fun j hj => ?_⟩
  rw [List.length_take] at hj
  have e : ordAt (l.take k) j = ordAt l j := by
    unfold ordAt; simp [List.getD, show j < k by omega]
  rw [e]
  exact hc j (by omega)
theorem ReadsO.dropped {w : World} {a : Option Addr} {l : List Ord} {cap : Nat} (h : ReadsO w a l) (k : Nat) (hc : l.length ≤ cap) : ReadsO w (if cap = k then a else a.map (fun x => x.add (k * 8))) (l.drop k) := by
  by_cases hk : k < l.length
  · obtain ⟨b, off, ha, hc⟩ := h (by omega)
    subst ha
    rw [if_neg (by omega)]
    intro _
    refine ⟨b, off + k * 8, by simp [Addr.add], fun j hj => ?_⟩
    rw [List.length_drop] at hj
    have e : ordAt (l.drop k) j = ordAt l (k + j) := by
      unfold ordAt; simp [List.getD]
    rw [e]
    have := hc (k + j) (by omega)
    intro i v hv
    have h1 := this i v hv
    rw [show off + k * 8 + j * 8 + i = off + (k + j) * 8 + i by omega]
    exact h1
  · rw [List.drop_eq_nil_of_le (by omega)]
    exact ReadsO.nil _ _

theorem elem37 : Try.prog.underlying 37 = some (.slice (Try.prog.elem 37)) := by kernel_rfl
theorem size37 (w : World) : (sizeOf (Try.prog.elem 37)).run Try.prog w = .ok 8 w := by kernel_rfl
theorem slice_to (a : Option Addr) (n cap k : Nat) (hk : k ≤ cap) (W : World) : (Instr.slice 37 (.slice a n cap) none (some (.int .i64 k)) none).run Try.prog W = .ok (.slice a k cap) W := by
  rw [run_slice_h W 37 a n cap elem37 .i64 (k : Int) (by omega) (by omega), size37]
  simp only [Result.andThen, sliced, Int.toNat_natCast, Nat.zero_mul, Nat.sub_zero]
  have e : a.map (fun x => x.add 0) = a := by
    cases a with
    | none => rfl
    | some x => simp [Addr.add]
  rw [e, ite_self]
theorem slice_from (a : Option Addr) (n cap k : Nat) (hk : k ≤ n) (W : World) : (Instr.slice 37 (.slice a n cap) (some (.int .i64 k)) none none).run Try.prog W = .ok (.slice (if cap = k then a else a.map (fun x => x.add (k * 8))) (n - k) (cap - k)) W := by
  rw [run_slice_l W 37 a n cap elem37 .i64 (k : Int) (by omega) (by omega), size37]
  simp only [Result.andThen, sliced, Int.toNat_natCast]

theorem less_short (t : Trk) (at_ : Int) (a : Option Addr) (cap n : Nat) (w : World) (h : 200 < n ∨ (n ≤ 200 ∧ (at_ < 0 ∨ (0 ≤ at_ ∧ (n : Int) < at_)))) (hn : n ≤ 9223372036854775807) :
    Calls Try.prog 7 #[.agg t.cells, .slice a n cap, .int .i64 at_] w fun e w' => e = .returned (.bool true) ∧ Below w.heap.size w w' := by
  obtain ⟨tid, tw, tv, ts, te, tf, tr⟩ := t
  unfold Trk.cells
  dsimp only
  have HB : Hid (Below w.heap.size w (w.alloc (.cells #[.int .i64 tid, .int .i64 tw, .int .i64 tv, .int .i64 ts, .int .i64 te, .int .i64 tf, .int .i64 tr] 42))) := (Below.refl _ _).alloc (Nat.le_refl _) _
  rcases h with h | ⟨h1, h | ⟨h2, h⟩⟩
  all_goals
    go_enter Try.func7, Try.ntmps7
    go_wp2_with fail
    refine (awake_load _).mono ?_; rintro _ w1 ⟨rfl, hw1⟩
    have H1 := Lib.hid (below_on HB.out hw1)
    clear hw1
    go_wp2_with fail
    go_ret
    exact ⟨rfl, H1.out⟩

/-- a call of Sum (25), of Carries (31), from a world on -/
def LSumTo (w0 : World) (v : Value) (p q : Int) : Prop := ∀ w, Below w0.heap.size w0 w → Calls Try.prog 25 #[v] w fun e w' => e = .returned (.tuple #[.int .i64 p, .int .i64 q, .int .i64 0]) ∧ Below w0.heap.size w0 w'
def CarTo (w0 : World) (t : Trk) (v : Value) (r : Int) : Prop := ∀ w, Below w0.heap.size w0 w → Calls Try.prog 31 #[.agg t.cells, v] w fun e w' => e = .returned (.int .i64 r) ∧ Below w0.heap.size w0 w'
theorem lsum_to {w0 : World} {a : Option Addr} {cap n : Nat} {l : List Ord} (hr : ReadsO w0 a l) (hl : l.length = n) (hn : n ≤ 200) (hm : MayAll l) : LSumTo w0 (.slice a n cap) (sumW l) (sumV l) := fun w hb => by
  refine (lsum_walk a l n cap w hl (hr.below hb) (by omega)).mono ?_
  rintro _ w1 ⟨rfl, h1⟩
  have e := loadS_may hm (by omega)
  exact ⟨three_ret (by rw [e]) (by rw [e]) (by rw [e]), below_on hb h1⟩
theorem car_to {w0 : World} {a : Option Addr} {cap n : Nat} {l : List Ord} (t : Trk) (hr : ReadsO w0 a l) (hl : l.length = n) (hn : n ≤ 200) : CarTo w0 t (.slice a n cap) (carriesE t l) := fun w hb => by
  refine (carries_any t a l n cap w hl (hr.below hb) (by omega)).mono ?_
  rintro _ w1 ⟨rfl, h1⟩
  exact ⟨rfl, below_on hb h1⟩
set_option maxHeartbeats 4000000 in
theorem less_core (t : Trk) (l : List Ord) (k : Nat) (a : Option Addr) (cap n : Nat) (w : World) (hk : k ≤ n) (hn : n ≤ 200) (hl : l.length = n) (hr : ReadsO w a l) (hc : n ≤ cap) :
    Calls Try.prog 7 #[.agg t.cells, .slice a n cap, .int .i64 k] w fun e w' => e = .returned (.bool true) ∧ Below w.heap.size w w' := by
  have HC : Hid (∀ w1, Below w.heap.size w w1 → MayAll l → LSumTo w1 (.slice a n cap) (sumW l) (sumV l) ∧ LSumTo w1 (.slice a k cap) (sumW (l.take k)) (sumV (l.take k)) ∧ LSumTo w1 (.slice (if cap = k then a else a.map (fun x => x.add (k * 8))) (n - k) (cap - k)) (sumW (l.drop k)) (sumV (l.drop k))) := fun w1 hw1 hm =>
    ⟨lsum_to (hr.below hw1) hl hn hm, lsum_to ((hr.below hw1).take k) (by rw [List.length_take]; omega) (by omega) (hm.take k), lsum_to ((hr.below hw1).dropped k (by omega)) (by rw [List.length_drop]; omega) (by omega) (hm.drop k)⟩
  have HD : Hid (∀ w1, Below w.heap.size w w1 → CarTo w1 t (.slice a n cap) (carriesE t l) ∧ CarTo w1 t (.slice a k cap) (carriesE t (l.take k)) ∧ CarTo w1 t (.slice (if cap = k then a else a.map (fun x => x.add (k * 8))) (n - k) (cap - k)) (carriesE t (l.drop k))) := fun w1 hw1 =>
    ⟨car_to t (hr.below hw1) hl hn, car_to t ((hr.below hw1).take k) (by rw [List.length_take]; omega) (by omega), car_to t ((hr.below hw1).dropped k (by omega)) (by rw [List.length_drop]; omega) (by omega)⟩
  have hsl := slice_to a n cap k (by omega)
  have hsr := slice_from a n cap k hk
  generalize (if cap = k then a else a.map (fun x => x.add (k * 8))) = a' at HC HD hsr
  obtain ⟨d, hd⟩ : ∃ d, n - k = d := ⟨_, rfl⟩
  obtain ⟨e, he⟩ : ∃ d, cap - k = d := ⟨_, rfl⟩
  rw [hd, he] at HC HD hsr
  clear hd he
  obtain ⟨tid, tw, tv, ts, te, tf, tr⟩ := t
  have HB : Hid (Below w.heap.size w (w.alloc (.cells #[.int .i64 tid, .int .i64 tw, .int .i64 tv, .int .i64 ts, .int .i64 te, .int .i64 tf, .int .i64 tr] 42))) := (Below.refl _ _).alloc (Nat.le_refl _) _
  have HT := Lib.hid (TBox.new w ⟨tid, tw, tv, ts, te, tf, tr⟩)
  have HR := Lib.hid hr; have HL := Lib.hid hl
  clear hr hl
  unfold Trk.cells
  dsimp only
  have d1 : decide (200 < (n : Int)) = false := decide_eq_false (by omega)
  have d2 : decide ((k : Int) < 0) = false := decide_eq_false (by omega)
  have d3 : decide (n < k) = false := decide_eq_false (by omega)
  go_enter Try.func7, Try.ntmps7
  go_wp2_with fail
  refine (awake_load _).mono ?_; rintro _ w1 ⟨rfl, hw1⟩
  have HT1 := Lib.hid (HT.out.on hw1)
  have H1 := Lib.hid (below_on HB.out hw1)
  clear hw1 HT
  go_wp2_with fail
  go_loopw [35, 8] (fun i bx wr => ∃ j : Nat, j ≤ n ∧ i = .int .i64 j ∧ (∀ m, m < j → ordE (ordAt l m) 16 = 0) ∧ Below w1.heap.size w1 wr) (fun i bx wr => n - (intOf i).toNat)
  case atStart => exact ⟨0, by omega, rfl, fun j hj => by omega, Below.refl _ _⟩
  case round =>
    obtain ⟨j, hj, rfl, hO, hb⟩ := hrel
    have HO := Lib.hid hO; have HB1 := Lib.hid hb
    clear hO hb
    by_cases hlt : j < n
    · have hkl : j < l.length := by rw [HL.out]; exact hlt
      obtain ⟨b, off, ha, hc⟩ := HR.out.below (below_on H1.out HB1.out) (by omega)
      subst ha
      obtain ⟨c0, c1, c2, c3, c4, c5, c6, c7⟩ := ordCells_at (hc j hkl)
      obtain ⟨o, ho⟩ : ∃ o, ordAt l j = o := ⟨_, rfl⟩
      rw [ho] at c0 c1 c2 c3 c4 c5 c6 c7
      have HOO := Lib.hid ho
      have HC1 := Lib.hid (order_any o 16 (wr.alloc (.cells #[.int .i64 o.id, .int .i64 o.owner, .int .i64 o.node, .int .i64 o.weight, .int .i64 o.volume, .int .i64 o.frm, .int .i64 o.to, .int .i64 o.service] 44)))
      have HB2 := Lib.hid (below_on HB1.out (below_new wr (.cells #[.int .i64 o.id, .int .i64 o.owner, .int .i64 o.node, .int .i64 o.weight, .int .i64 o.volume, .int .i64 o.frm, .int .i64 o.to, .int .i64 o.service] 44)))
      clear hc hkl ho
      go_wp2_with fail
      refine HC1.out.mono ?_
      rintro _ w2 ⟨rfl, hw2⟩
      have H2 := Lib.hid (below_on HB2.out hw2)
      clear hw2 c0 c1 c2 c3 c4 c5 c6 c7 HC1
      by_cases h0 : ordE o 16 = 0
      · have HN : Hid (∀ m, m < j + 1 → ordE (ordAt l m) 16 = 0) := fun m hm => by
          by_cases e : m = j
          · subst e; rw [HOO.out]; exact h0
          · exact HO.out m (by omega)
        rw [h0]
        clear h0
        go_wp2_with fail
        go_roundw
        case rel => exact ⟨j + 1, by omega, by go_num, HN.out, H2.out⟩
        case measure => simp [intOf]; omega
      · have h1 : (ordE o 16 != 0) = true := bne_iff_ne.2 h0
        clear h0
        go_wp2_with fail
        go_ret
        exact ⟨rfl, below_on H1.out H2.out⟩
    · obtain rfl : j = n := by omega
      have hm : MayAll l := mayAll_of (n := 16) (by
        intro o ho
        obtain ⟨i, hi, rfl⟩ := List.getElem_of_mem ho
        have := HO.out i (by rw [← HL.out]; exact hi)
        unfold ordAt at this
        rw [List.getD_eq_getElem?_getD, List.getElem?_eq_getElem hi] at this
        exact this)
      have HBw := Lib.hid HB1.out
      obtain ⟨C1, C2, C3⟩ := HC.out wr (below_on H1.out HB1.out) hm
      obtain ⟨D1, D2, D3⟩ := HD.out wr (below_on H1.out HB1.out)
      have HC1 := Lib.hid C1; have HC2 := Lib.hid C2; have HC3 := Lib.hid C3
      have HD1 := Lib.hid D1; have HD2 := Lib.hid D2; have HD3 := Lib.hid D3
      have x1 := sumW_range hm; have x2 := sumW_range (hm.take k); have x3 := sumW_range (hm.drop k)
      have v1 := sumV_range hm; have v2 := sumV_range (hm.take k); have v3 := sumV_range (hm.drop k)
      have pW := sumW_parts l k; have pV := sumV_parts l k
      have e1 := carries_may (t := ⟨tid, tw, tv, ts, te, tf, tr⟩) hm (by rw [HL.out]; omega)
      have e2 := carries_may (t := ⟨tid, tw, tv, ts, te, tf, tr⟩) (hm.take k) (by rw [List.length_take, HL.out]; omega)
      have e3 := carries_may (t := ⟨tid, tw, tv, ts, te, tf, tr⟩) (hm.drop k) (by rw [List.length_drop, HL.out]; omega)
      rw [e1] at HD1; rw [e2] at HD2; rw [e3] at HD3
      rw [HL.out] at x1 v1
      rw [List.length_take, HL.out] at x2 v2
      rw [List.length_drop, HL.out] at x3 v3
      obtain ⟨p1, hp1⟩ : ∃ p, sumW l = p := ⟨_, rfl⟩
      obtain ⟨p2, hp2⟩ : ∃ p, sumW (l.take k) = p := ⟨_, rfl⟩
      obtain ⟨p3, hp3⟩ : ∃ p, sumW (l.drop k) = p := ⟨_, rfl⟩
      obtain ⟨q1, hq1⟩ : ∃ p, sumV l = p := ⟨_, rfl⟩
      obtain ⟨q2, hq2⟩ : ∃ p, sumV (l.take k) = p := ⟨_, rfl⟩
      obtain ⟨q3, hq3⟩ : ∃ p, sumV (l.drop k) = p := ⟨_, rfl⟩
      rw [hp1, hq1] at HC1 HD1; rw [hp2, hq2] at HC2 HD2; rw [hp3, hq3] at HC3 HD3
      rw [hp1] at x1; rw [hp2] at x2; rw [hp3] at x3; rw [hq1] at v1; rw [hq2] at v2; rw [hq3] at v3
      rw [hp1, hp2, hp3] at pW; rw [hq1, hq2, hq3] at pV
      dsimp only at HD1 HD2 HD3
      clear hp1 hp2 hp3 hq1 hq2 hq3 e1 e2 e3 C1 C2 C3 D1 D2 D3 HC HD hm HO
      have nn : ¬ (j < j) := by omega
      have s1 : IntKind.i64.wrap (p2 + p3) = p1 := by rw [← pW]; exact IntWalk.i64_in _ (by omega)
      have s2 : IntKind.i64.wrap (q2 + q3) = q1 := by rw [← pV]; exact IntWalk.i64_in _ (by omega)
      have HP := Lib.hid (show p2 ≤ p1 ∧ p3 ≤ p1 ∧ q2 ≤ q1 ∧ q3 ≤ q1 by omega)
      clear x1 x2 x3 v1 v2 v3 pW pV
      go_wp2_with fail
      refine (HC1.out _ (Below.refl _ _)).mono ?_
      rintro _ w3 ⟨rfl, hw3⟩
      have H3 := Lib.hid hw3
      clear hw3
      go_wp2_with fail
      refine (HC2.out _ H3.out).mono ?_
      rintro _ w4 ⟨rfl, hw4⟩
      have H4 := Lib.hid hw4
      clear hw4
      go_wp2_with fail
      refine (HC3.out _ H4.out).mono ?_
      rintro _ w5 ⟨rfl, hw5⟩
      have H5 := Lib.hid hw5
      clear hw5
      obtain ⟨t0, t1, t2, t3, t4, t5, t6⟩ := HT1.out.on (below_on HBw.out H5.out)
      dsimp only at t0 t1 t2 t3 t4 t5 t6
      go_wp2_with fail
      refine (HD1.out _ H5.out).mono ?_
      rintro _ w6 ⟨rfl, hw6⟩
      have H6 := Lib.hid hw6
      clear hw6 t0 t1 t2 t3 t4 t5 t6
      obtain ⟨t0, t1, t2, t3, t4, t5, t6⟩ := HT1.out.on (below_on HBw.out H6.out)
      dsimp only at t0 t1 t2 t3 t4 t5 t6
      rcases (by omega : tw < p1 ∨ (p1 ≤ tw ∧ tv < q1) ∨ (p1 ≤ tw ∧ q1 ≤ tv)) with h | ⟨h, h'⟩ | ⟨h, h'⟩
      · rw [if_pos (.inl h)]
        go_wp2_with fail
        go_ret
        exact ⟨rfl, below_on H1.out (below_on HBw.out H6.out)⟩
      · rw [if_pos (.inr h')]
        go_wp2_with fail
        go_ret
        exact ⟨rfl, below_on H1.out (below_on HBw.out H6.out)⟩
      · rw [if_neg (by omega)]
        rw [if_neg (by have := HP.out; omega)] at HD2 HD3
        have B6 := Lib.hid H6.out.drew
        go_wp2_with fail
        go_region_held_law (fun w' => w'.cell? ⟨w.heap.size, 0, none⟩ = some (.int .i64 tid) ∧ w'.cell? ⟨w.heap.size, 1, none⟩ = some (.int .i64 tw) ∧ w'.cell? ⟨w.heap.size, 2, none⟩ = some (.int .i64 tv) ∧ w'.cell? ⟨w.heap.size, 3, none⟩ = some (.int .i64 ts) ∧ w'.cell? ⟨w.heap.size, 4, none⟩ = some (.int .i64 te) ∧ w'.cell? ⟨w.heap.size, 5, none⟩ = some (.int .i64 tf) ∧ w'.cell? ⟨w.heap.size, 6, none⟩ = some (.int .i64 tr))
          (first | exact HS8.out | exact HS7.out | exact ⟨t0, t1, t2, t3, t4, t5, t6⟩ | go_keep)
          (first
            | (go_at_call_of 31 (Value.slice a k cap); refine (HD2.out _ B6.out).mono ?_; rintro _ w7 ⟨rfl, h7⟩; have H7 := Lib.hid h7; have HS7 := Lib.hid (HT1.out.on (below_on HBw.out h7)); clear h7)
            | (go_at_call_of 31 (Value.slice a' d e); refine (HD3.out _ H7.out).mono ?_; rintro _ w8 ⟨rfl, h8⟩; have H8 := Lib.hid h8; have HS8 := Lib.hid (HT1.out.on (below_on HBw.out h8)); clear h8))
        all_goals
          go_wp2_with fail
          go_ret
          exact ⟨rfl, below_on H1.out (below_on HBw.out H8.out)⟩

theorem less_any (t : Trk) (at_ : Int) (a : Option Addr) (cap n : Nat) (l : List Ord) (w : World) (hc : n ≤ cap) (hl : l.length = n) (hn : n ≤ 9223372036854775807) (hr : ReadsO w a l) :
    Calls Try.prog 7 #[.agg t.cells, .slice a n cap, .int .i64 at_] w fun e w' => e = .returned (.bool true) ∧ Below w.heap.size w w' := by
  by_cases h1 : 200 < n
  · exact less_short t at_ a cap n w (.inl h1) hn
  by_cases h2 : at_ < 0
  · exact less_short t at_ a cap n w (.inr ⟨by omega, .inl h2⟩) hn
  by_cases h3 : (n : Int) < at_
  · exact less_short t at_ a cap n w (.inr ⟨by omega, .inr ⟨by omega, h3⟩⟩) hn
  obtain ⟨k, rfl⟩ := Int.eq_ofNat_of_zero_le (show 0 ≤ at_ by omega)
  exact less_core t l k a cap n w (by omega) (by omega) hl hr hc
end Go.Proofs.Ytakiciemkecgfaa.Load

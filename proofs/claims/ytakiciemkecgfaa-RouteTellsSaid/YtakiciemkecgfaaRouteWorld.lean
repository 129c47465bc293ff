/-
  The walks of route's World and Truck.
-/
import Derived.Test.YtakiciemkecgfaaVisit
namespace Go.Proofs.Ytakiciemkecgfaa.Route
open Go.RowKit Go.Proofs Go.Proofs.Ytakiciemkecgfaa.AreaMath Go.Proofs.Ytakiciemkecgfaa.Area Go.Proofs.Ytakiciemkecgfaa.Load
set_option maxRecDepth 100000
set_option linter.unusedVariables false

/-- a world, as data -/
structure Wd where
  n : Int
  D : List Int
  T : List Int
  O : List Ord
  R : List Trk
/-- where its lists lie -/
structure Wp where
  aD : Option Addr
  lD : Nat
  cD : Nat
  aT : Option Addr
  lT : Nat
  cT : Nat
  aO : Option Addr
  lO : Nat
  cO : Nat
  aR : Option Addr
  lR : Nat
  cR : Nat
def wcells (n : Int) (q : Wp) : Array Value := #[.int .i64 n, .slice q.aD q.lD q.cD, .slice q.aT q.lT q.cT, .slice q.aO q.lO q.cO, .slice q.aR q.lR q.cR]
structure Lies (w : World) (x : Wd) (q : Wp) : Prop where
  lD : x.D.length = q.lD
  lT : x.T.length = q.lT
  lO : x.O.length = q.lO
  lR : x.R.length = q.lR
  D : ReadsI w q.aD x.D
  T : ReadsI w q.aT x.T
  O : ReadsO w q.aO x.O
  R : ReadsT w q.aR x.R
theorem Lies.below {w w1 : World} {x : Wd} {q : Wp} (h : Lies w x q) (hb : Below w.heap.size w w1) : Lies w1 x q :=
  ⟨h.lD, h.lT, h.lO, h.lR, h.D.below hb, h.T.below hb, h.O.below hb, h.R.below hb⟩
/-- sizes of a machine -/
structure Small (x : Wd) : Prop where
  lO : x.O.length ≤ 200
  lR : x.R.length ≤ 200
  wO : ∀ o ∈ x.O, o.Wf
  wR : ∀ o ∈ x.R, o.Wf
def rworldE (x : Wd) : Int := if errC x.n x.D x.T = 0 then worldE x.n x.O x.R else errC x.n x.D x.T

set_option maxHeartbeats 2000000 in
theorem rworld_any (x : Wd) (q : Wp) (w : World) (h : Lies w x q) (hs : Small x) :
    Calls Try.prog 41 #[.agg (wcells x.n q)] w fun e w' => e = .returned (.int .i64 (rworldE x)) ∧ Below w.heap.size w w' := by
  obtain ⟨n, D, T, O, R⟩ := x
  obtain ⟨aD, lD, cD, aT, lT, cT, aO, lO, cO, aR, lR, cR⟩ := q
  obtain ⟨l1, l2, l3, l4, r1, r2, r3, r4⟩ := h
  obtain ⟨s1, s2, s3, s4⟩ := hs
  unfold wcells
  dsimp only at *
  have HB := Lib.hid (below_new w (.cells #[.int .i64 n, .slice aD lD cD, .slice aT lT cT, .slice aO lO cO, .slice aR lR cR] 40))
  have HF := Lib.hid (FBox.new w n (.slice aD lD cD) (.slice aT lT cT) (.slice aO lO cO) (.slice aR lR cR) 40)
  have HC := Lib.hid (check_any n aD aT D T lD lT cD cT (w.alloc (.cells #[.int .i64 n, .slice aD lD cD, .slice aT lT cT, .slice aO lO cO, .slice aR lR cR] 40)) l1 l2 (r1.below HB.out) (r2.below HB.out))
  have HW : Hid (∀ w1, Below w.heap.size w w1 → Calls Try.prog 27 #[.agg #[.int .i64 n, .slice aD lD cD, .slice aT lT cT, .slice aO lO cO, .slice aR lR cR]] w1 fun e w' => e = .returned (.int .i64 (worldE n O R)) ∧ Below w1.heap.size w1 w') := fun w1 hw1 =>
    world_any n _ _ aO aR O R lO lR cO cR w1 l3 l4 (r3.below hw1) (r4.below hw1) (by omega) (by omega) (fun o ho => wf_of_num (s3 o ho).1) (fun o ho => wf_of_num (s4 o ho).1)
  obtain ⟨E, hE⟩ : ∃ E, rworldE ⟨n, D, T, O, R⟩ = E := ⟨_, rfl⟩
  rw [hE]
  have HE := Lib.hid (show E = if errC n D T = 0 then worldE n O R else errC n D T from hE.symm)
  clear hE l1 l2 l3 l4 r1 r2 r3 r4 s1 s2 s3 s4
  obtain ⟨c, hc⟩ : ∃ c, errC n D T = c := ⟨_, rfl⟩
  rw [hc] at HC HE
  clear hc
  go_enter Try.func41, Try.ntmps41
  go_wp2_with fail
  refine HC.out.mono ?_
  rintro _ w1 ⟨rfl, hw1⟩
  have H1 := Lib.hid (below_on HB.out hw1)
  obtain ⟨b0, b1, b2, b3, b4⟩ := HF.out.on hw1
  clear hw1
  by_cases h0 : c = 0
  · subst h0
    rw [if_pos rfl] at HE
    go_wp2_with fail
    refine (HW.out _ H1.out).mono ?_
    rintro _ w2 ⟨rfl, hw2⟩
    have H2 := Lib.hid (below_on H1.out hw2)
    clear hw2
    go_wp2_with fail
    go_ret
    exact ⟨ret_i64 HE.out.symm, H2.out⟩
  · rw [if_neg h0] at HE
    have hb : (c != 0) = true := bne_iff_ne.2 h0
    clear h0
    go_wp2_with fail
    go_ret
    exact ⟨ret_i64 HE.out.symm, H1.out⟩

set_option maxHeartbeats 1000000 in
theorem truck_cl (o : Trk) (id : Int) (B : Nat) (w : World) (hB : w.cell? ⟨B, 0, none⟩ = some (.int .i64 id)) :
    Calls Try.prog 64 #[.agg o.cells, .pointer (some ⟨B, 0, none⟩)] w fun e w' => e = .returned (.bool (o.id == id)) ∧ Below w.heap.size w w' := by
  obtain ⟨oid, weight, volume, start, stop, fixed, rate⟩ := o
  unfold Trk.cells
  dsimp only
  have HB : Hid (Below w.heap.size w (w.alloc (.cells #[.int .i64 oid, .int .i64 weight, .int .i64 volume, .int .i64 start, .int .i64 stop, .int .i64 fixed, .int .i64 rate] 42))) := (Below.refl _ _).alloc (Nat.le_refl _) _
  have hB1 := cell_on HB.out hB
  go_enter Try.func64, Try.ntmps64
  go_wp2_with fail
  go_ret
  exact ⟨rfl, HB.out⟩

/-- the place of the first truck of a number, or -1 -/
def FoundT (l : List Trk) (id r : Int) : Prop := (r = -1 ∧ ∀ j, j < l.length → (trkAt l j).id ≠ id) ∨ ∃ k : Nat, k < l.length ∧ r = k ∧ (trkAt l k).id = id ∧ ∀ j, j < k → (trkAt l j).id ≠ id
theorem FoundT.same {l : List Trk} {id r s : Int} (h : FoundT l id r) (k : FoundT l id s) : r = s := by
  rcases h with ⟨rfl, h⟩ | ⟨i, hi, rfl, h1, h2⟩ <;> rcases k with ⟨rfl, k⟩ | ⟨j, hj, rfl, k1, k2⟩
  · rfl
  · exact absurd k1 (h j hj)
  · exact absurd h1 (k i hi)
  · rcases Nat.lt_trichotomy i j with h | h | h
    · exact absurd h1 (k2 i h)
    · rw [h]
    · exact absurd k1 (h2 j h)
theorem found_trk (l : List Trk) (id : Int) : ∃ r, FoundT l id r := by
  by_cases h : ∃ k, k < l.length ∧ (trkAt l k).id = id
  · have hd : ∃ k, k < l.length ∧ (trkAt l k).id = id ∧ ∀ j, j < k → (trkAt l j).id ≠ id := by
      obtain ⟨k, hk, hi⟩ := h
      induction k using Nat.strongRecOn with
      | _ k ih =>
        by_cases hm : ∃ j, j < k ∧ (trkAt l j).id = id
        · obtain ⟨j, hj, hji⟩ := hm
          exact ih j hj (by omega) hji
        · exact ⟨k, hk, hi, fun j hj e => hm ⟨j, hj, e⟩⟩
    obtain ⟨k, h1, h2, h3⟩ := hd
    exact ⟨k, .inr ⟨k, h1, rfl, h2, h3⟩⟩
  · exact ⟨-1, .inl ⟨rfl, fun j hj e => h ⟨j, hj, e⟩⟩⟩

set_option maxHeartbeats 2000000 in
theorem index_trk (a : Option Addr) (l : List Trk) (len cap : Nat) (id : Int) (B : Nat) (w : World) (hl : l.length = len) (hr : ReadsT w a l) (hm : len ≤ 9223372036854775807) (hB : w.cell? ⟨B, 0, none⟩ = some (.int .i64 id)) :
    Calls Try.prog 63 #[.slice a len cap, .func (.func 64) #[] #[.pointer (some ⟨B, 0, none⟩)]] w fun e w' => ∃ r : Int, e = .returned (.int .i64 r) ∧ FoundT l id r ∧ Below w.heap.size w w' := by
  have HR := Lib.hid hr; have HL := Lib.hid hl; have HBX := Lib.hid hB
  clear hr hl hB
  go_enter Try.func63, Try.ntmps63
  go_wp2_with fail
  go_loopw [8] (fun i wr => ∃ k : Nat, k ≤ len ∧ i = .int .i64 k ∧ (∀ j, j < k → (trkAt l j).id ≠ id) ∧ Below w.heap.size w wr) (fun i wr => len - (intOf i).toNat)
  case atStart => exact ⟨0, by omega, rfl, fun j hj => by omega, Below.refl _ _⟩
  case round =>
    obtain ⟨k, hk, rfl, hO, hb⟩ := hrel
    have HO := Lib.hid hO; have HB := Lib.hid hb
    clear hO hb
    by_cases hlt : k < len
    · have hkl : k < l.length := by rw [HL.out]; exact hlt
      obtain ⟨b, off, ha, hc⟩ := HR.out.below HB.out (by omega)
      subst ha
      obtain ⟨c0, c1, c2, c3, c4, c5, c6⟩ := trkCells_at (hc k hkl)
      have HK := Lib.hid hkl
      have HC := Lib.hid (truck_cl (trkAt l k) id B wr (cell_on HB.out HBX.out))
      obtain ⟨o, ho⟩ : ∃ o, trkAt l k = o := ⟨_, rfl⟩
      rw [ho] at c0 c1 c2 c3 c4 c5 c6 HC
      have HOO := Lib.hid ho
      clear hc hkl ho
      go_wp2_with fail
      refine HC.out.mono ?_
      rintro _ w1 ⟨rfl, hw1⟩
      have H1 := Lib.hid (below_on HB.out hw1)
      clear hw1 c0 c1 c2 c3 c4 c5 c6 HC
      by_cases hid : o.id = id
      · have hidb : (o.id == id) = true := beq_iff_eq.2 hid
        have F : Hid (FoundT l id k) := .inr ⟨k, HK.out, rfl, by rw [HOO.out]; exact hid, HO.out⟩
        clear hid
        go_wp2_with fail
        go_ret
        exact ⟨_, rfl, F.out, H1.out⟩
      · have hidb : (o.id == id) = false := beq_eq_false_iff_ne.2 hid
        have HN : Hid (∀ j, j < k + 1 → (trkAt l j).id ≠ id) := fun j hj => by
          by_cases e : j = k
          · subst e; rw [HOO.out]; exact hid
          · exact HO.out j (by omega)
        clear hid
        go_wp2_with fail
        go_roundw
        case rel => exact ⟨k + 1, by omega, by go_num, HN.out, H1.out⟩
        case measure => simp [intOf]; omega
    · obtain rfl : k = len := by omega
      have F : Hid (FoundT l id (-1)) := .inl ⟨rfl, by rw [HL.out]; exact HO.out⟩
      go_wp2_with fail
      go_ret
      exact ⟨_, rfl, F.out, HB.out⟩

set_option maxHeartbeats 1000000 in
theorem rtruck_any (x : Wd) (q : Wp) (id : Int) (w : World) (h : Lies w x q) (hs : x.R.length ≤ 9223372036854775807) :
    Calls Try.prog 43 #[.agg (wcells x.n q), .int .i64 id] w fun e w' => ∃ r : Int, e = .returned (.int .i64 r) ∧ FoundT x.R id r ∧ Below w.heap.size w w' := by
  obtain ⟨n, D, T, O, R⟩ := x
  obtain ⟨aD, lD, cD, aT, lT, cT, aO, lO, cO, aR, lR, cR⟩ := q
  obtain ⟨l1, l2, l3, l4, r1, r2, r3, r4⟩ := h
  unfold wcells
  dsimp only at *
  have HB : Hid (Below w.heap.size w ((w.alloc (.cells #[.int .i64 n, .slice aD lD cD, .slice aT lT cT, .slice aO lO cO, .slice aR lR cR] 40)).alloc (.cells #[.int .i64 id] 3))) := below_on (below_new _ _) (below_new _ _)
  have hbx := box_cell (w.alloc (.cells #[.int .i64 n, .slice aD lD cD, .slice aT lT cT, .slice aO lO cO, .slice aR lR cR] 40)) #[.int .i64 id] 3 0 _ rfl
  rw [World.size_alloc] at hbx
  have HC := Lib.hid (index_trk aR R lR cR id (w.heap.size + 1) ((w.alloc (.cells #[.int .i64 n, .slice aD lD cD, .slice aT lT cT, .slice aO lO cO, .slice aR lR cR] 40)).alloc (.cells #[.int .i64 id] 3)) l4 (r4.below HB.out) (by omega) hbx)
  have c4 := cell_on (below_new (w.alloc (.cells #[.int .i64 n, .slice aD lD cD, .slice aT lT cT, .slice aO lO cO, .slice aR lR cR] 40)) (.cells #[.int .i64 id] 3)) (box_cell w #[.int .i64 n, .slice aD lD cD, .slice aT lT cT, .slice aO lO cO, .slice aR lR cR] 40 4 _ rfl)
  clear l1 l2 l3 l4 r1 r2 r3 r4 hbx
  go_enter Try.func43, Try.ntmps43
  go_wp2_with fail
  refine HC.out.mono ?_
  rintro _ w1 ⟨r, rfl, hf, hb⟩
  have HF := Lib.hid hf; have H1 := Lib.hid (below_on HB.out hb)
  clear hf hb c4
  go_wp2_with fail
  go_ret
  exact ⟨_, rfl, HF.out, H1.out⟩
end Go.Proofs.Ytakiciemkecgfaa.Route

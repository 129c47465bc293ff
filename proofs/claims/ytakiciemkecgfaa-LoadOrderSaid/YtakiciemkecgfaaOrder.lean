/-
  The walk of LoadOrder.
-/
import Derived.Test.YtakiciemkecgfaaOwnO
namespace Go.Proofs.Ytakiciemkecgfaa.Load
open Go.RowKit Go.Proofs Go.Proofs.Ytakiciemkecgfaa.AreaMath Go.Proofs.Ytakiciemkecgfaa.Area Go.Proofs.Ytakiciemkecgfaa.Append
set_option maxRecDepth 100000
set_option linter.unusedVariables false

theorem grown_cell {w w1 : World} {row : Option Nat} (h : w.grownBy w1 row) {a : Addr} {x : Value} (hc : w.cell? a = some x) (hne : some a.block ≠ row) : w1.cell? a = some x :=
  (h.cell_far a (World.block_lt_of_cell? w _ hc) hne).trans hc
theorem own_ne {w : World} {base e size n k : Nat} {v : Value} {xs : List Value} (h : w.ownsRow base e size v n xs) (hk : k < base) : some k ≠ v.ownBlock := fun e => by
  have := (h.lt k e.symm).1; omega
/-- what a round of the first loop reads -/
def SO (w : World) (b0 : Nat) (v : Value) (b off : Nat) (o : Ord) : Prop := w.cell? ⟨b0, 3, none⟩ = some v ∧ OrdCells w b off o
theorem SO.map {w w1 : World} {b0 : Nat} {v : Value} {b off : Nat} {o : Ord} (h : SO w b0 v b off o) (h0 : ∀ k x, w.cell? ⟨b0, k, none⟩ = some x → w1.cell? ⟨b0, k, none⟩ = some x) (h1 : ∀ k x, w.cell? ⟨b, k, none⟩ = some x → w1.cell? ⟨b, k, none⟩ = some x) : SO w1 b0 v b off o :=
  ⟨h0 _ _ h.1, h1 _ _ h.2.1, h1 _ _ h.2.2.1, h1 _ _ h.2.2.2.1, h1 _ _ h.2.2.2.2.1, h1 _ _ h.2.2.2.2.2.1, h1 _ _ h.2.2.2.2.2.2.1, h1 _ _ h.2.2.2.2.2.2.2.1, h1 _ _ h.2.2.2.2.2.2.2.2⟩
theorem set_far {w : World} {b1 j b k : Nat} {u x : Value} (hne : b1 ≠ b) (h : w.cell? ⟨b, k, none⟩ = some x) : (w.setCell ⟨b1, j, none⟩ u).cell? ⟨b, k, none⟩ = some x := by
  rw [World.cell?_setCell_far _ _ _ _ hne]; exact h
theorem SO.set {w : World} {b0 b1 j : Nat} {v u : Value} {b off : Nat} {o : Ord} (h : SO w b0 v b off o) (h0 : b1 ≠ b0) (h1 : b1 ≠ b) : SO (w.setCell ⟨b1, j, none⟩ u) b0 v b off o := h.map (fun _ _ => set_far h0) (fun _ _ => set_far h1)
/-- the first loop: k orders from behind lie in x -/
structure RevO (W0 wr : World) (b : Nat) (n : Int) (sD sT : Value) (O : List Ord) (k : Nat) (a : Option Addr) (c : Nat) : Prop where
  box : FBox wr b n sD sT (.slice a k c) (.slice none 0 0)
  fz3 : wr.frozen? ⟨b, 3, none⟩ = false
  fz4 : wr.frozen? ⟨b, 4, none⟩ = false
  own : wr.ownsRow (b + 1) 44 8 (.slice a k c) k (cellsO (O.reverse.take k))
  bel : Below W0.heap.size W0 wr

/-- what a round of the second loop reads -/
def ST (w : World) (b0 : Nat) (v : Value) (b off : Nat) (o : Trk) : Prop := w.cell? ⟨b0, 4, none⟩ = some v ∧ TrkCells w b off o
theorem ST.map {w w1 : World} {b0 : Nat} {v : Value} {b off : Nat} {o : Trk} (h : ST w b0 v b off o) (h0 : ∀ k x, w.cell? ⟨b0, k, none⟩ = some x → w1.cell? ⟨b0, k, none⟩ = some x) (h1 : ∀ k x, w.cell? ⟨b, k, none⟩ = some x → w1.cell? ⟨b, k, none⟩ = some x) : ST w1 b0 v b off o :=
  ⟨h0 _ _ h.1, h1 _ _ h.2.1, h1 _ _ h.2.2.1, h1 _ _ h.2.2.2.1, h1 _ _ h.2.2.2.2.1, h1 _ _ h.2.2.2.2.2.1, h1 _ _ h.2.2.2.2.2.2.1, h1 _ _ h.2.2.2.2.2.2.2⟩
theorem ST.set {w : World} {b0 b1 j : Nat} {v u : Value} {b off : Nat} {o : Trk} (h : ST w b0 v b off o) (h0 : b1 ≠ b0) (h1 : b1 ≠ b) : ST (w.setCell ⟨b1, j, none⟩ u) b0 v b off o := h.map (fun _ _ => set_far h0) (fun _ _ => set_far h1)
/-- the second loop: k trucks from behind lie in x -/
structure RevT (W0 W2 wr : World) (b : Nat) (n : Int) (sD sT sO : Value) (R : List Trk) (k : Nat) (a : Option Addr) (c : Nat) : Prop where
  box : FBox wr b n sD sT sO (.slice a k c)
  fz3 : wr.frozen? ⟨b, 3, none⟩ = false
  fz4 : wr.frozen? ⟨b, 4, none⟩ = false
  own : wr.ownsRow W2.heap.size 42 7 (.slice a k c) k (cellsT (R.reverse.take k))
  bel : Below W0.heap.size W0 wr
  size : W2.heap.size ≤ wr.heap.size
  keep : ∀ p : Addr, p.block < W2.heap.size → p.block ≠ b → wr.cell? p = W2.cell? p

theorem ReadsT.far {w w1 : World} {a : Option Addr} {l : List Trk} {B : Nat} (h : ReadsT w a l) (hb : ∀ p : Addr, p.block < w.heap.size → p.block ≠ B → w1.cell? p = w.cell? p) (hne : (Value.slice a 0 0).ownBlock ≠ some B) : ReadsT w1 a l := by
  intro hl
  obtain ⟨b, off, ha, hc⟩ := h hl
  refine ⟨b, off, ha, fun k hk j v hv => ?_⟩
  have h1 := hc k hk j v hv
  rw [hb _ (World.block_lt_of_cell? w _ h1) (by subst ha; exact fun e => hne (by simp [Value.ownBlock, ← e]))]
  exact h1
/-- calls of World (27), of Find (33), from a world on -/
def WorldTo (w0 : World) (v : Value) (e : Int) : Prop := ∀ w, Below w0.heap.size w0 w → Calls Try.prog 27 #[v] w fun r w' => r = .returned (.int .i64 e) ∧ Below w0.heap.size w0 w'
def FindTo (w0 : World) (v : Value) (id e : Int) : Prop := ∀ w, Below w0.heap.size w0 w → Calls Try.prog 33 #[v, .int .i64 id] w fun r w' => r = .returned (.int .i64 e) ∧ Below w0.heap.size w0 w'
theorem wf_ids {O : List Ord} (h : ∀ o ∈ O, o.Wf) : ∀ o ∈ O, (Lit.int .i64 o.id).wf = true := fun o ho => wf_of_num (h o ho).1
theorem wf_idsT {O : List Trk} (h : ∀ o ∈ O, o.Wf) : ∀ o ∈ O, (Lit.int .i64 o.id).wf = true := fun o ho => wf_of_num (h o ho).1
theorem world_to {w0 : World} {n : Int} {sD sT : Value} {aO aR : Option Addr} {O : List Ord} {R : List Trk} {lO lR cO cR : Nat} {e : Int} (hO1 : O.length = lO) (hR1 : R.length = lR) (hO : ReadsO w0 aO O) (hR : ReadsT w0 aR R)
    (hmO : lO ≤ 200) (hmR : lR ≤ 200) (hwO : ∀ o ∈ O, o.Wf) (hwR : ∀ o ∈ R, o.Wf) (he : worldE n O R = e) : WorldTo w0 (.agg #[.int .i64 n, sD, sT, .slice aO lO cO, .slice aR lR cR]) e := fun w hb => by
  refine (world_any n sD sT aO aR O R lO lR cO cR w hO1 hR1 (hO.below hb) (hR.below hb) (by omega) (by omega) (wf_ids hwO) (wf_idsT hwR)).mono ?_
  rintro _ w1 ⟨rfl, h1⟩
  exact ⟨ret_i64 he, below_on hb h1⟩
theorem find_to {w0 : World} {a : Option Addr} {O : List Ord} {len cap : Nat} {id e : Int} (hl : O.length = len) (hr : ReadsO w0 a O) (hm : len ≤ 200) (he : ∀ r, Found O id r → r = e) : FindTo w0 (.slice a len cap) id e := fun w hb => by
  refine (find_any a O len cap id w hl (hr.below hb) (by omega)).mono ?_
  rintro _ w1 ⟨r, rfl, hf, h1⟩
  exact ⟨ret_i64 (he r hf), below_on hb h1⟩

set_option maxHeartbeats 4000000 in
theorem order_core (n : Int) (aD aT aO aR : Option Addr) (lD cD lT cT lO cO lR cR : Nat) (O : List Ord) (R : List Trk) (w : World) (hO1 : O.length = lO) (hR1 : R.length = lR) (hO : ReadsO w aO O) (hR : ReadsT w aR R)
    (hmO : lO ≤ 200) (hmR : lR ≤ 200) (hwO : ∀ o ∈ O, o.Wf) (hwR : ∀ o ∈ R, o.Wf) :
    Calls Try.prog 8 #[.agg #[.int .i64 n, .slice aD lD cD, .slice aT lT cT, .slice aO lO cO, .slice aR lR cR]] w fun e w' => e = .returned (.bool true) ∧ Below w.heap.size w w' := by
  obtain ⟨sD, hsD⟩ : ∃ s, Value.slice aD lD cD = s := ⟨_, rfl⟩
  obtain ⟨sT, hsT⟩ : ∃ s, Value.slice aT lT cT = s := ⟨_, rfl⟩
  have HsD := Lib.hid hsD; have HsT := Lib.hid hsT
  have HF := Lib.hid (FBox.new w n (.slice aD lD cD) (.slice aT lT cT) (.slice aO lO cO) (.slice aR lR cR) 40)
  have HB : Hid (Below w.heap.size w (w.alloc (.cells #[.int .i64 n, .slice aD lD cD, .slice aT lT cT, .slice aO lO cO, .slice aR lR cR] 40))) := below_new _ _
  have HO := Lib.hid hO; have HR := Lib.hid hR; have LO := Lib.hid hO1; have LR := Lib.hid hR1
  have WO := Lib.hid hwO; have WR := Lib.hid hwR
  clear hO hR hO1 hR1 hwO hwR hsD hsT
  obtain ⟨i0, hi, hz0, hz1, hz2⟩ := info_parts info44
  have HI := Lib.hid hi; have HZ0 := Lib.hid hz0; have HZ1 := Lib.hid hz1; have HZ2 := Lib.hid hz2
  clear hi hz0 hz1 hz2
  obtain ⟨j0, hi, hz0, hz1, hz2⟩ := info_parts info42
  have JI := Lib.hid hi; have JZ0 := Lib.hid hz0; have JZ1 := Lib.hid hz1; have JZ2 := Lib.hid hz2
  clear hi hz0 hz1 hz2
  have d1 : decide (200 < (lO : Int)) = false := decide_eq_false (by omega)
  have d2 : decide (200 < (lR : Int)) = false := decide_eq_false (by omega)
  go_enter Try.func8, Try.ntmps8
  go_wp2_with fail
  refine (awake_load _).mono ?_; rintro _ w1 ⟨rfl, hw1⟩
  have HF1 := Lib.hid (HF.out.on hw1)
  have H1 := Lib.hid (below_on HB.out hw1)
  clear hw1 HF HB
  obtain ⟨b0, b1, b2, b3, b4⟩ := HF1.out
  have c3 := cell_on (below_new w1 (.cells #[.int .i64 n, .slice aD lD cD, .slice aT lT cT, .slice none 0 0, .slice none 0 0] 40)) b3
  have HX := Lib.hid (FBox.new w1 n (.slice aD lD cD) (.slice aT lT cT) (.slice none 0 0) (.slice none 0 0) 40)
  have HFX := Lib.hid (HF1.out.on (below_new w1 (.cells #[.int .i64 n, .slice aD lD cD, .slice aT lT cT, .slice none 0 0, .slice none 0 0] 40)))
  go_wp2_with fail
  clear b0 b1 b2 b3 b4 c3
  go_loopw [4] (fun i wr => ∃ (k : Nat) (a : Option Addr) (c : Nat), k ≤ lO ∧ i = .int .i64 ((lO : Int) - 1 - k) ∧ RevO w1 wr w1.heap.size n (.slice aD lD cD) (.slice aT lT cT) O k a c) (fun i wr => ((intOf i) + 1).toNat)
  case atStart => exact ⟨0, none, 0, by omega, by simp, ⟨HX.out, World.frozen?_alloc_new _ _ _ _, World.frozen?_alloc_new _ _ _ _, by simpa [cellsO] using World.ownsRow_nil _ _ _ _, below_new _ _⟩⟩
  case round =>
    obtain ⟨k, a, c, hk, rfl, hT⟩ := hrel
    have HT := Lib.hid hT; clear hT
    by_cases hlt : k < lO
    · obtain ⟨q, hq⟩ : ∃ q : Nat, lO - 1 - k = q := ⟨_, rfl⟩
      have hqi : (lO : Int) - 1 - k = q := by omega
      have hql : q < lO := by omega
      rw [hqi]
      obtain ⟨b, off, ha, hc⟩ := HO.out.below (below_on H1.out HT.out.bel) (by rw [LO.out]; omega)
      obtain ⟨e0, e1, e2, e3, e4, e5, e6, e7⟩ := ordCells_at (hc q (by rw [LO.out]; omega))
      have hbl : b < w1.heap.size := by
        obtain ⟨b', off', ha', hc'⟩ := HO.out.below H1.out (by rw [LO.out]; omega)
        rw [ha] at ha'; cases ha'
        exact World.block_lt_of_cell? w1 _ (hc' 0 (by rw [LO.out]; omega) 0 _ rfl)
      have hsn := cellsO_snoc O.reverse k (by rw [List.length_reverse, LO.out]; exact hlt)
      have hrv := ordAt_rev O k (by rw [LO.out]; exact hlt)
      rw [LO.out, hq] at hrv
      rw [hrv] at hsn
      obtain ⟨o, ho⟩ : ∃ o, ordAt O q = o := ⟨_, rfl⟩
      rw [ho] at e0 e1 e2 e3 e4 e5 e6 e7 hsn
      have HSN := Lib.hid hsn
      have HQ := Lib.hid hq
      subst ha
      clear hc ho hsn hrv hq hqi
      obtain ⟨b0, b1, b2, b3, b4⟩ := HF1.out.on HT.out.bel
      obtain ⟨x0, x1, x2, x3, x4⟩ := HT.out.box
      have xf := HT.out.fz3
      obtain ⟨V, hV⟩ : ∃ V, (wr.alloc (.cells #[.int .i64 o.id, .int .i64 o.owner, .int .i64 o.node, .int .i64 o.weight, .int .i64 o.volume, .int .i64 o.frm, .int .i64 o.to, .int .i64 o.service] 44)).drew = V := ⟨_, rfl⟩
      have hbV : Below wr.heap.size wr V := by rw [← hV]; exact (below_new wr _).drew
      have hVs : V.heap.size = wr.heap.size + 1 := by rw [← hV]; exact World.size_alloc _ _
      have hNEW : ∀ j u, o.cells.toList[j]? = some u → V.cell? ((⟨wr.heap.size, 0, none⟩ : Addr).add j) = some u := by
        intro j u hu
        rw [Addr.add_lit, Nat.zero_add, ← hV]
        exact box_cell wr o.cells 44 j u (by rw [← Array.getElem?_toList]; exact hu)
      have OWN := Lib.hid (show V.ownsRow (w1.heap.size + 1) 44 8 (.slice a k c) k (cellsO (O.reverse.take k)) by rw [← hV]; exact (HT.out.own.alloc _).drew)
      have ONE := Lib.hid (show ∀ u ∈ o.cells.toList, u.oneCell' = true by have := cellsO_one [o]; simpa [cellsO] using this)
      have NEW := Lib.hid hNEW
      have SZ := Lib.hid hVs
      have BEL := Lib.hid hbV
      have hb1 := HT.out.box.lt
      have hblr : b < wr.heap.size := Nat.lt_of_lt_of_le hbl HT.out.bel.size
      have hb0 : w.heap.size < w1.heap.size := HF1.out.lt
      have BASE := Lib.hid (show w1.heap.size + 1 ≤ V.heap.size by rw [hVs]; omega)
      have SV := Lib.hid (show SO V w.heap.size (.slice (some ⟨b, off, none⟩) lO cO) b (off + q * 8) o from
        ⟨cell_on hbV b3, cell_on hbV e0, cell_on hbV e1, cell_on hbV e2, cell_on hbV e3, cell_on hbV e4, cell_on hbV e5, cell_on hbV e6, cell_on hbV e7⟩)
      have x3V := cell_on hbV x3
      have XV := Lib.hid (HT.out.box.on hbV)
      have FV3 := Lib.hid (show V.frozen? ⟨w1.heap.size, 3, none⟩ = false by rw [hbV.frozen (p := ⟨w1.heap.size, 3, none⟩) hb1]; exact HT.out.fz3)
      have FV4 := Lib.hid (show V.frozen? ⟨w1.heap.size, 4, none⟩ = false by rw [hbV.frozen (p := ⟨w1.heap.size, 4, none⟩) hb1]; exact HT.out.fz4)
      have HV := Lib.hid hV
      have HN1 := Lib.hid hb1
      have HN2 := Lib.hid hblr
      have HN3 := Lib.hid hb0
      clear b0 b1 b2 b4 x0 x1 x2 x4 hV hbV hVs hNEW hb1 hblr hb0
      go_wp2_with fail
      refine wp_region_held_drew (S := fun w' => w'.cell? ⟨w.heap.size, 3, none⟩ = some (.slice (some ⟨b, off, none⟩) lO cO) ∧ (w'.cell? ⟨b, off + q * 8, none⟩ = some (.int .i64 o.id) ∧ w'.cell? ⟨b, off + q * 8 + 1, none⟩ = some (.int .i64 o.owner) ∧ w'.cell? ⟨b, off + q * 8 + 2, none⟩ = some (.int .i64 o.node) ∧ w'.cell? ⟨b, off + q * 8 + 3, none⟩ = some (.int .i64 o.weight) ∧ w'.cell? ⟨b, off + q * 8 + 4, none⟩ = some (.int .i64 o.volume) ∧ w'.cell? ⟨b, off + q * 8 + 5, none⟩ = some (.int .i64 o.frm) ∧ w'.cell? ⟨b, off + q * 8 + 6, none⟩ = some (.int .i64 o.to) ∧ w'.cell? ⟨b, off + q * 8 + 7, none⟩ = some (.int .i64 o.service))) (by kernel_rfl) ⟨b3, e0, e1, e2, e3, e4, e5, e6, e7⟩ (fun hHeld => ?_)
      simp only [List.size_toArray, List.length_cons, List.length_nil, Nat.reduceAdd, Array.replicate_succ, Array.replicate_zero, List.push_toArray, List.nil_append, List.cons_append]
      refine wpAnyH_take (i := 0) (v := ?v0_1) rfl (by kernel_rfl) (by kernel_rfl) (by kernel_rfl) (fun _ _ _ h => h) (Or.inl ⟨by rfl, ?hy0_1⟩) (by assumption) ?r0_1
      case hy0_1 => intro w' hSw; obtain ⟨g1, g2, g3, g4, g5, g6, g7, g8, g9⟩ := hSw; simp only [List.getElem_toArray, List.getElem_cons_zero]; go_simp; try with_reducible rfl
      simp only [List.getElem_toArray, List.getElem_cons_zero, Act.put, List.setIfInBounds_toArray, List.set_cons_zero, List.set_cons_succ]
      refine wpAnyH_take (i := 2) (v := ?v2_2) rfl (by kernel_rfl) (by kernel_rfl) (by kernel_rfl) (fun _ _ _ h => h) (Or.inl ⟨by rfl, ?hy2_2⟩) (by assumption) ?r2_2
      case hy2_2 => intro w' hSw; obtain ⟨g1, g2, g3, g4, g5, g6, g7, g8, g9⟩ := hSw; simp only [List.getElem_toArray, List.getElem_cons_zero, List.getElem_cons_succ]; go_simp; try with_reducible rfl
      simp only [List.getElem_toArray, List.getElem_cons_zero, List.getElem_cons_succ, Act.put, List.setIfInBounds_toArray, List.set_cons_zero, List.set_cons_succ]
      refine wpAnyH_take (i := 3) (v := ?v3_3) rfl (by kernel_rfl) (by kernel_rfl) (by kernel_rfl) (fun _ _ _ h => h) (Or.inl ⟨by rfl, ?hy3_3⟩) (by assumption) ?r3_3
      case hy3_3 => intro w' hSw; obtain ⟨g1, g2, g3, g4, g5, g6, g7, g8, g9⟩ := hSw; simp only [List.getElem_toArray, List.getElem_cons_zero, List.getElem_cons_succ]; go_simp; try with_reducible rfl
      simp only [List.getElem_toArray, List.getElem_cons_zero, List.getElem_cons_succ, Act.put, List.setIfInBounds_toArray, List.set_cons_zero, List.set_cons_succ]
      refine wpAnyH_take (i := 4) (v := ?v4_4) rfl (by kernel_rfl) (by kernel_rfl) (by kernel_rfl) (fun _ _ _ h => h) (Or.inl ⟨by rfl, ?hy4_4⟩) (by assumption) ?r4_4
      case hy4_4 => intro w' hSw; obtain ⟨g1, g2, g3, g4, g5, g6, g7, g8, g9⟩ := hSw; simp only [List.getElem_toArray, List.getElem_cons_zero, List.getElem_cons_succ]; go_simp; try with_reducible rfl
      simp only [List.getElem_toArray, List.getElem_cons_zero, List.getElem_cons_succ, Act.put, List.setIfInBounds_toArray, List.set_cons_zero, List.set_cons_succ]
      refine wpAnyH_take (i := 5) (v := ?v5_5) rfl (by kernel_rfl) (by kernel_rfl) (by kernel_rfl) (fun _ _ _ h => h) (Or.inl ⟨by rfl, ?hy5_5⟩) (by assumption) ?r5_5
      case hy5_5 => intro w' hSw; obtain ⟨g1, g2, g3, g4, g5, g6, g7, g8, g9⟩ := hSw; simp only [List.getElem_toArray, List.getElem_cons_zero, List.getElem_cons_succ]; go_simp; try with_reducible rfl
      simp only [List.getElem_toArray, List.getElem_cons_zero, List.getElem_cons_succ, Act.put, List.setIfInBounds_toArray, List.set_cons_zero, List.set_cons_succ]
      refine wpAnyH_take (i := 6) (v := ?v6_6) rfl (by kernel_rfl) (by kernel_rfl) (by kernel_rfl) (fun _ _ _ h => h) (Or.inl ⟨by rfl, ?hy6_6⟩) (by assumption) ?r6_6
      case hy6_6 => intro w' hSw; obtain ⟨g1, g2, g3, g4, g5, g6, g7, g8, g9⟩ := hSw; simp only [List.getElem_toArray, List.getElem_cons_zero, List.getElem_cons_succ]; go_simp; try with_reducible rfl
      simp only [List.getElem_toArray, List.getElem_cons_zero, List.getElem_cons_succ, Act.put, List.setIfInBounds_toArray, List.set_cons_zero, List.set_cons_succ]
      refine wpAnyH_ready (rs := [1, 7]) (by kernel_rfl) (by simp) ?_
      refine AllReadyH.cons rfl (fun K hK => ?_) ?_
      · go_simp
        refine hK.out _ _ ⟨b3, e0, e1, e2, e3, e4, e5, e6, e7⟩ (fun _ => ?_)
        clear hK K
        refine wpAnyH_ready (rs := [7]) (by kernel_rfl) (by simp) ?_
        refine AllReadyH.cons rfl (fun K hK => ?_) ?_
        · go_simp
          rw [HV.out]
          refine hK.out _ _ SV.out (fun hHeldV => ?_)
          clear hK K
          refine wpAnyH_ready (rs := [8]) (by kernel_rfl) (by simp) ?_
          refine AllReadyH.cons rfl (fun K hK => ?_) ?_
          · refine step_append_lies _ rfl _ _ 37 rfl (w1.heap.size + 1) 44 i0 _ 8 64 Try.underlying37 HI.out HZ0.out HZ1.out HZ2.out rfl (by decide) (.slice a k c) k _ rfl OWN.out ⟨wr.heap.size, 0, none⟩ 1 1 o.cells.toList rfl rfl NEW.out ONE.out (by omega) (by unfold maxLen; omega) (by omega) BASE.out (wr.heap.size + 1) SZ.out ?_
            intro g1 p1 w2 q1 q2 q3 q4
            have n0 := own_ne OWN.out (show w.heap.size < w1.heap.size + 1 by have := HN3.out; omega)
            have n1 := own_ne OWN.out (show w1.heap.size < w1.heap.size + 1 by omega)
            have n2 := own_ne OWN.out (show b < w1.heap.size + 1 by omega)
            have S9 : SO w2 w.heap.size (.slice (some ⟨b, off, none⟩) lO cO) b (off + q * 8) o := SV.out.map (fun _ _ h => grown_cell q2 h n0) (fun _ _ h => grown_cell q2 h n2)
            have HS9 := Lib.hid S9
            have X9 := Lib.hid (XV.out.far fun j x hx => grown_cell q2 hx n1)
            have x39 := X9.out.2.2.2.1
            have F3 : w2.frozen? ⟨w1.heap.size, 3, none⟩ = false := (q2.frozen_far _ (by show w1.heap.size < V.heap.size; rw [SZ.out]; have := HN1.out; omega) n1).trans FV3.out
            have F4 := Lib.hid (show w2.frozen? ⟨w1.heap.size, 4, none⟩ = false from (q2.frozen_far _ (by show w1.heap.size < V.heap.size; rw [SZ.out]; have := HN1.out; omega) n1).trans FV4.out)
            have Q1 := Lib.hid q1
            have Q2 := Lib.hid q2
            clear q1 q2 q3 q4 n0 n1 n2
            refine hK.out _ _ S9 (fun hHeld9 => ?_)
            clear hK K
            refine wpAnyH_take (i := 9) (v := ?v9_7) rfl (by kernel_rfl) (by kernel_rfl) (by kernel_rfl) (fun _ _ _ h => h) (Or.inl ⟨by rfl, ?hy9_7⟩) (by assumption) ?r9_7
            case hy9_7 => intro w' hSw; obtain ⟨g1, g2, g3, g4, g5, g6, g7, g8, g9⟩ := hSw; simp only [List.getElem_toArray, List.getElem_cons_zero, List.getElem_cons_succ]; go_simp; try with_reducible rfl
            simp only [List.getElem_toArray, List.getElem_cons_zero, List.getElem_cons_succ, Act.put, List.setIfInBounds_toArray, List.set_cons_zero, List.set_cons_succ]
            refine wpAnyH_ready (rs := [10]) (by kernel_rfl) (by simp) ?_
            refine AllReadyH.cons rfl (fun K hK => ?_) ?_
            · go_simp
              refine hK.out _ _ (HS9.out.set (by have := HN3.out; omega) (by omega)) (fun _ => ?_)
              clear hK K
              refine wpAnyH_done (by kernel_rfl) ?_ _
              go_wp2_with fail
              go_roundw
              case rel => exact ⟨k + 1, _, p1, by omega, by have := HQ.out; congr 1; omega, ⟨X9.out.set3 _, by rw [World.frozen?_setCell]; exact F3, by rw [World.frozen?_setCell]; exact F4.out, ownsRow_setCell_below (HSN.out ▸ Q1.out) (show w1.heap.size < w1.heap.size + 1 by omega) _, ((below_on HT.out.bel BEL.out).grown Q2.out (by have := BASE.out; omega) (fun j hj => by have := (OWN.out.lt j hj).1; omega)).setCell (Nat.le_refl _) _⟩⟩
              case measure => simp [intOf]
            exact AllReadyH.nil
          exact AllReadyH.nil
        exact AllReadyH.nil
      refine AllReadyH.cons rfl (fun K hK => ?_) ?_
      · go_simp
        rw [HV.out]
        refine hK.out _ _ SV.out (fun hHeldV => ?_)
        clear hK K
        refine wpAnyH_ready (rs := [1]) (by kernel_rfl) (by simp) ?_
        refine AllReadyH.cons rfl (fun K hK => ?_) ?_
        · go_simp
          refine hK.out _ _ SV.out (fun _ => ?_)
          clear hK K
          refine wpAnyH_ready (rs := [8]) (by kernel_rfl) (by simp) ?_
          refine AllReadyH.cons rfl (fun K hK => ?_) ?_
          · refine step_append_lies _ rfl _ _ 37 rfl (w1.heap.size + 1) 44 i0 _ 8 64 Try.underlying37 HI.out HZ0.out HZ1.out HZ2.out rfl (by decide) (.slice a k c) k _ rfl OWN.out ⟨wr.heap.size, 0, none⟩ 1 1 o.cells.toList rfl rfl NEW.out ONE.out (by omega) (by unfold maxLen; omega) (by omega) BASE.out (wr.heap.size + 1) SZ.out ?_
            intro g1 p1 w2 q1 q2 q3 q4
            have n0 := own_ne OWN.out (show w.heap.size < w1.heap.size + 1 by have := HN3.out; omega)
            have n1 := own_ne OWN.out (show w1.heap.size < w1.heap.size + 1 by omega)
            have n2 := own_ne OWN.out (show b < w1.heap.size + 1 by omega)
            have S9 : SO w2 w.heap.size (.slice (some ⟨b, off, none⟩) lO cO) b (off + q * 8) o := SV.out.map (fun _ _ h => grown_cell q2 h n0) (fun _ _ h => grown_cell q2 h n2)
            have HS9 := Lib.hid S9
            have X9 := Lib.hid (XV.out.far fun j x hx => grown_cell q2 hx n1)
            have x39 := X9.out.2.2.2.1
            have F3 : w2.frozen? ⟨w1.heap.size, 3, none⟩ = false := (q2.frozen_far _ (by show w1.heap.size < V.heap.size; rw [SZ.out]; have := HN1.out; omega) n1).trans FV3.out
            have F4 := Lib.hid (show w2.frozen? ⟨w1.heap.size, 4, none⟩ = false from (q2.frozen_far _ (by show w1.heap.size < V.heap.size; rw [SZ.out]; have := HN1.out; omega) n1).trans FV4.out)
            have Q1 := Lib.hid q1
            have Q2 := Lib.hid q2
            clear q1 q2 q3 q4 n0 n1 n2
            refine hK.out _ _ S9 (fun hHeld9 => ?_)
            clear hK K
            refine wpAnyH_take (i := 9) (v := ?v9_8) rfl (by kernel_rfl) (by kernel_rfl) (by kernel_rfl) (fun _ _ _ h => h) (Or.inl ⟨by rfl, ?hy9_8⟩) (by assumption) ?r9_8
            case hy9_8 => intro w' hSw; obtain ⟨g1, g2, g3, g4, g5, g6, g7, g8, g9⟩ := hSw; simp only [List.getElem_toArray, List.getElem_cons_zero, List.getElem_cons_succ]; go_simp; try with_reducible rfl
            simp only [List.getElem_toArray, List.getElem_cons_zero, List.getElem_cons_succ, Act.put, List.setIfInBounds_toArray, List.set_cons_zero, List.set_cons_succ]
            refine wpAnyH_ready (rs := [10]) (by kernel_rfl) (by simp) ?_
            refine AllReadyH.cons rfl (fun K hK => ?_) ?_
            · go_simp
              refine hK.out _ _ (HS9.out.set (by have := HN3.out; omega) (by omega)) (fun _ => ?_)
              clear hK K
              refine wpAnyH_done (by kernel_rfl) ?_ _
              go_wp2_with fail
              go_roundw
              case rel => exact ⟨k + 1, _, p1, by omega, by have := HQ.out; congr 1; omega, ⟨X9.out.set3 _, by rw [World.frozen?_setCell]; exact F3, by rw [World.frozen?_setCell]; exact F4.out, ownsRow_setCell_below (HSN.out ▸ Q1.out) (show w1.heap.size < w1.heap.size + 1 by omega) _, ((below_on HT.out.bel BEL.out).grown Q2.out (by have := BASE.out; omega) (fun j hj => by have := (OWN.out.lt j hj).1; omega)).setCell (Nat.le_refl _) _⟩⟩
              case measure => simp [intOf]
            exact AllReadyH.nil
          exact AllReadyH.nil
        exact AllReadyH.nil
      exact AllReadyH.nil
    · obtain rfl : k = lO := by omega
      have hT := HT.out
      have hid0 : ((k : Int) - 1 - k) = -1 := by omega
      have htk : O.reverse.take k = O.reverse := List.take_of_length_le (by rw [List.length_reverse, LO.out]; exact Nat.le_refl _)
      have HRO := Lib.hid (show ReadsO wr a O.reverse from ownO_reads (by have := hT.own; rw [htk] at this; exact this) (by rw [List.length_reverse, LO.out]))
      have HCP := Lib.hid (own_cap hT.own)
      have HNE := Lib.hid (own_ne hT.own (show w1.heap.size < w1.heap.size + 1 by omega))
      have HX2 := Lib.hid hT.box
      have FZ3 := Lib.hid hT.fz3
      have FZ4 := Lib.hid hT.fz4
      have B2 := Lib.hid hT.bel
      have HFW := Lib.hid (HF1.out.on hT.bel)
      obtain ⟨b0, b1, b2, b3, b4⟩ := HFW.out
      clear hT htk HT
      rw [hid0]
      go_wp2_with fail
      rename World => wO
      clear b0 b1 b2 b3 b4
      go_loopw [5] (fun i wr => ∃ (m : Nat) (a2 : Option Addr) (c2 : Nat), m ≤ lR ∧ i = .int .i64 ((lR : Int) - 1 - m) ∧ RevT w1 wO wr w1.heap.size n (.slice aD lD cD) (.slice aT lT cT) (.slice a k c) R m a2 c2) (fun i wr => ((intOf i) + 1).toNat)
      case atStart => exact ⟨0, none, 0, by omega, by simp, ⟨HX2.out, FZ3.out, FZ4.out, by simpa [cellsT] using World.ownsRow_nil _ _ _ _, B2.out, Nat.le_refl _, fun _ _ _ => rfl⟩⟩
      case round =>
        obtain ⟨m, a2, c2, hm, rfl, hU⟩ := hrel
        have HU := Lib.hid hU; clear hU
        by_cases hlt2 : m < lR
        · obtain ⟨q, hq⟩ : ∃ q : Nat, lR - 1 - m = q := ⟨_, rfl⟩
          have hqi : (lR : Int) - 1 - m = q := by omega
          have hql : q < lR := by omega
          rw [hqi]
          obtain ⟨b, off, ha, hc⟩ := HR.out.below (below_on H1.out HU.out.bel) (by rw [LR.out]; omega)
          obtain ⟨e0, e1, e2, e3, e4, e5, e6⟩ := trkCells_at (hc q (by rw [LR.out]; omega))
          have hbl : b < w1.heap.size := by
            obtain ⟨b', off', ha', hc'⟩ := HR.out.below H1.out (by rw [LR.out]; omega)
            rw [ha] at ha'; cases ha'
            exact World.block_lt_of_cell? w1 _ (hc' 0 (by rw [LR.out]; omega) 0 _ rfl)
          have hsn := cellsT_snoc R.reverse m (by rw [List.length_reverse, LR.out]; exact hlt2)
          have hrv := trkAt_rev R m (by rw [LR.out]; exact hlt2)
          rw [LR.out, hq] at hrv
          rw [hrv] at hsn
          obtain ⟨o, ho⟩ : ∃ o, trkAt R q = o := ⟨_, rfl⟩
          rw [ho] at e0 e1 e2 e3 e4 e5 e6 hsn
          have HSN := Lib.hid hsn
          have HQ := Lib.hid hq
          subst ha
          clear hc ho hsn hrv hq hqi
          obtain ⟨b0, b1, b2, b3, b4⟩ := HF1.out.on HU.out.bel
          obtain ⟨x0, x1, x2, x3, x4⟩ := HU.out.box
          have xf := HU.out.fz4
          obtain ⟨V, hV⟩ : ∃ V, (wr.alloc (.cells #[.int .i64 o.id, .int .i64 o.weight, .int .i64 o.volume, .int .i64 o.start, .int .i64 o.stop, .int .i64 o.fixed, .int .i64 o.rate] 42)).drew = V := ⟨_, rfl⟩
          have hbV : Below wr.heap.size wr V := by rw [← hV]; exact (below_new wr _).drew
          have hVs : V.heap.size = wr.heap.size + 1 := by rw [← hV]; exact World.size_alloc _ _
          have hNEW : ∀ j u, o.cells.toList[j]? = some u → V.cell? ((⟨wr.heap.size, 0, none⟩ : Addr).add j) = some u := by
            intro j u hu
            rw [Addr.add_lit, Nat.zero_add, ← hV]
            exact box_cell wr o.cells 42 j u (by rw [← Array.getElem?_toList]; exact hu)
          have OWN := Lib.hid (show V.ownsRow wO.heap.size 42 7 (.slice a2 m c2) m (cellsT (R.reverse.take m)) by rw [← hV]; exact (HU.out.own.alloc _).drew)
          have ONE := Lib.hid (show ∀ u ∈ o.cells.toList, u.oneCell' = true by have := cellsT_one [o]; simpa [cellsT] using this)
          have NEW := Lib.hid hNEW
          have SZ := Lib.hid hVs
          have BEL := Lib.hid hbV
          have hb1 := HU.out.box.lt
          have hb0 : w.heap.size < w1.heap.size := HF1.out.lt
          have HN4 := Lib.hid HX2.out.lt
          have BASE := Lib.hid (show wO.heap.size ≤ V.heap.size by rw [hVs]; have := HU.out.size; omega)
          have SV := Lib.hid (show ST V w.heap.size (.slice (some ⟨b, off, none⟩) lR cR) b (off + q * 7) o from
            ⟨cell_on hbV b4, cell_on hbV e0, cell_on hbV e1, cell_on hbV e2, cell_on hbV e3, cell_on hbV e4, cell_on hbV e5, cell_on hbV e6⟩)
          have x4V := cell_on hbV x4
          have XV := Lib.hid (HU.out.box.on hbV)
          have FV3 := Lib.hid (show V.frozen? ⟨w1.heap.size, 3, none⟩ = false by rw [hbV.frozen (p := ⟨w1.heap.size, 3, none⟩) hb1]; exact HU.out.fz3)
          have FV4 := Lib.hid (show V.frozen? ⟨w1.heap.size, 4, none⟩ = false by rw [hbV.frozen (p := ⟨w1.heap.size, 4, none⟩) hb1]; exact HU.out.fz4)
          have HV := Lib.hid hV
          have HN1 := Lib.hid hb1
          have HN3 := Lib.hid hb0
          clear b0 b1 b2 b3 x0 x1 x2 x3 hV hbV hVs hNEW hb1 hb0
          go_wp2_with fail
          refine wp_region_held_drew (S := fun w' => w'.cell? ⟨w.heap.size, 4, none⟩ = some (.slice (some ⟨b, off, none⟩) lR cR) ∧ (w'.cell? ⟨b, off + q * 7, none⟩ = some (.int .i64 o.id) ∧ w'.cell? ⟨b, off + q * 7 + 1, none⟩ = some (.int .i64 o.weight) ∧ w'.cell? ⟨b, off + q * 7 + 2, none⟩ = some (.int .i64 o.volume) ∧ w'.cell? ⟨b, off + q * 7 + 3, none⟩ = some (.int .i64 o.start) ∧ w'.cell? ⟨b, off + q * 7 + 4, none⟩ = some (.int .i64 o.stop) ∧ w'.cell? ⟨b, off + q * 7 + 5, none⟩ = some (.int .i64 o.fixed) ∧ w'.cell? ⟨b, off + q * 7 + 6, none⟩ = some (.int .i64 o.rate))) (by kernel_rfl) ⟨b4, e0, e1, e2, e3, e4, e5, e6⟩ (fun hHeld => ?_)
          simp only [List.size_toArray, List.length_cons, List.length_nil, Nat.reduceAdd, Array.replicate_succ, Array.replicate_zero, List.push_toArray, List.nil_append, List.cons_append]
          refine wpAnyH_take (i := 0) (v := ?vt0_1) rfl (by kernel_rfl) (by kernel_rfl) (by kernel_rfl) (fun _ _ _ h => h) (Or.inl ⟨by rfl, ?hyt0_1⟩) (by assumption) ?rt0_1
          case hyt0_1 => intro w' hSw; obtain ⟨g1, g2, g3, g4, g5, g6, g7, g8⟩ := hSw; simp only [List.getElem_toArray, List.getElem_cons_zero]; go_simp; try with_reducible rfl
          simp only [List.getElem_toArray, List.getElem_cons_zero, Act.put, List.setIfInBounds_toArray, List.set_cons_zero, List.set_cons_succ]
          refine wpAnyH_take (i := 2) (v := ?vt2_2) rfl (by kernel_rfl) (by kernel_rfl) (by kernel_rfl) (fun _ _ _ h => h) (Or.inl ⟨by rfl, ?hyt2_2⟩) (by assumption) ?rt2_2
          case hyt2_2 => intro w' hSw; obtain ⟨g1, g2, g3, g4, g5, g6, g7, g8⟩ := hSw; simp only [List.getElem_toArray, List.getElem_cons_zero, List.getElem_cons_succ]; go_simp; try with_reducible rfl
          simp only [List.getElem_toArray, List.getElem_cons_zero, List.getElem_cons_succ, Act.put, List.setIfInBounds_toArray, List.set_cons_zero, List.set_cons_succ]
          refine wpAnyH_take (i := 3) (v := ?vt3_3) rfl (by kernel_rfl) (by kernel_rfl) (by kernel_rfl) (fun _ _ _ h => h) (Or.inl ⟨by rfl, ?hyt3_3⟩) (by assumption) ?rt3_3
          case hyt3_3 => intro w' hSw; obtain ⟨g1, g2, g3, g4, g5, g6, g7, g8⟩ := hSw; simp only [List.getElem_toArray, List.getElem_cons_zero, List.getElem_cons_succ]; go_simp; try with_reducible rfl
          simp only [List.getElem_toArray, List.getElem_cons_zero, List.getElem_cons_succ, Act.put, List.setIfInBounds_toArray, List.set_cons_zero, List.set_cons_succ]
          refine wpAnyH_take (i := 4) (v := ?vt4_4) rfl (by kernel_rfl) (by kernel_rfl) (by kernel_rfl) (fun _ _ _ h => h) (Or.inl ⟨by rfl, ?hyt4_4⟩) (by assumption) ?rt4_4
          case hyt4_4 => intro w' hSw; obtain ⟨g1, g2, g3, g4, g5, g6, g7, g8⟩ := hSw; simp only [List.getElem_toArray, List.getElem_cons_zero, List.getElem_cons_succ]; go_simp; try with_reducible rfl
          simp only [List.getElem_toArray, List.getElem_cons_zero, List.getElem_cons_succ, Act.put, List.setIfInBounds_toArray, List.set_cons_zero, List.set_cons_succ]
          refine wpAnyH_take (i := 5) (v := ?vt5_5) rfl (by kernel_rfl) (by kernel_rfl) (by kernel_rfl) (fun _ _ _ h => h) (Or.inl ⟨by rfl, ?hyt5_5⟩) (by assumption) ?rt5_5
          case hyt5_5 => intro w' hSw; obtain ⟨g1, g2, g3, g4, g5, g6, g7, g8⟩ := hSw; simp only [List.getElem_toArray, List.getElem_cons_zero, List.getElem_cons_succ]; go_simp; try with_reducible rfl
          simp only [List.getElem_toArray, List.getElem_cons_zero, List.getElem_cons_succ, Act.put, List.setIfInBounds_toArray, List.set_cons_zero, List.set_cons_succ]
          refine wpAnyH_take (i := 6) (v := ?vt6_6) rfl (by kernel_rfl) (by kernel_rfl) (by kernel_rfl) (fun _ _ _ h => h) (Or.inl ⟨by rfl, ?hyt6_6⟩) (by assumption) ?rt6_6
          case hyt6_6 => intro w' hSw; obtain ⟨g1, g2, g3, g4, g5, g6, g7, g8⟩ := hSw; simp only [List.getElem_toArray, List.getElem_cons_zero, List.getElem_cons_succ]; go_simp; try with_reducible rfl
          simp only [List.getElem_toArray, List.getElem_cons_zero, List.getElem_cons_succ, Act.put, List.setIfInBounds_toArray, List.set_cons_zero, List.set_cons_succ]
          refine wpAnyH_ready (rs := [1, 7]) (by kernel_rfl) (by simp) ?_
          refine AllReadyH.cons rfl (fun K hK => ?_) ?_
          · go_simp
            refine hK.out _ _ ⟨b4, e0, e1, e2, e3, e4, e5, e6⟩ (fun _ => ?_)
            clear hK K
            refine wpAnyH_ready (rs := [7]) (by kernel_rfl) (by simp) ?_
            refine AllReadyH.cons rfl (fun K hK => ?_) ?_
            · go_simp
              rw [HV.out]
              refine hK.out _ _ SV.out (fun hHeldV => ?_)
              clear hK K
              refine wpAnyH_ready (rs := [8]) (by kernel_rfl) (by simp) ?_
              refine AllReadyH.cons rfl (fun K hK => ?_) ?_
              · refine step_append_lies _ rfl _ _ 38 rfl wO.heap.size 42 j0 _ 7 56 Try.underlying38 JI.out JZ0.out JZ1.out JZ2.out rfl (by decide) (.slice a2 m c2) m _ rfl OWN.out ⟨wr.heap.size, 0, none⟩ 1 1 o.cells.toList rfl rfl NEW.out ONE.out (by omega) (by unfold maxLen; omega) (by omega) BASE.out (wr.heap.size + 1) SZ.out ?_
                intro g1 p1 w2 q1 q2 q3 q4
                have n0 := own_ne OWN.out (show w.heap.size < wO.heap.size by have := HN3.out; have := HN4.out; omega)
                have n1 := own_ne OWN.out (show w1.heap.size < wO.heap.size by have := HN4.out; omega)
                have n2 := own_ne OWN.out (show b < wO.heap.size by have := HN4.out; omega)
                have S9 : ST w2 w.heap.size (.slice (some ⟨b, off, none⟩) lR cR) b (off + q * 7) o := SV.out.map (fun _ _ h => grown_cell q2 h n0) (fun _ _ h => grown_cell q2 h n2)
                have HS9 := Lib.hid S9
                have X9 := Lib.hid (XV.out.far fun j x hx => grown_cell q2 hx n1)
                have x49 := X9.out.2.2.2.2
                have F3 := Lib.hid (show w2.frozen? ⟨w1.heap.size, 3, none⟩ = false from (q2.frozen_far _ (by show w1.heap.size < V.heap.size; rw [SZ.out]; have := HN1.out; omega) n1).trans FV3.out)
                have F4 : w2.frozen? ⟨w1.heap.size, 4, none⟩ = false := (q2.frozen_far _ (by show w1.heap.size < V.heap.size; rw [SZ.out]; have := HN1.out; omega) n1).trans FV4.out
                have Q1 := Lib.hid q1
                have Q2 := Lib.hid q2
                clear q1 q2 q3 q4 n0 n1 n2
                refine hK.out _ _ S9 (fun hHeld9 => ?_)
                clear hK K
                refine wpAnyH_take (i := 9) (v := ?vt9_7) rfl (by kernel_rfl) (by kernel_rfl) (by kernel_rfl) (fun _ _ _ h => h) (Or.inl ⟨by rfl, ?hyt9_7⟩) (by assumption) ?rt9_7
                case hyt9_7 => intro w' hSw; obtain ⟨g1, g2, g3, g4, g5, g6, g7, g8⟩ := hSw; simp only [List.getElem_toArray, List.getElem_cons_zero, List.getElem_cons_succ]; go_simp; try with_reducible rfl
                simp only [List.getElem_toArray, List.getElem_cons_zero, List.getElem_cons_succ, Act.put, List.setIfInBounds_toArray, List.set_cons_zero, List.set_cons_succ]
                refine wpAnyH_ready (rs := [10]) (by kernel_rfl) (by simp) ?_
                refine AllReadyH.cons rfl (fun K hK => ?_) ?_
                · go_simp
                  refine hK.out _ _ (HS9.out.set (by have := HN3.out; omega) (by omega)) (fun _ => ?_)
                  clear hK K
                  refine wpAnyH_done (by kernel_rfl) ?_ _
                  go_wp2_with fail
                  go_roundw
                  case rel => exact ⟨m + 1, _, p1, by omega, by have := HQ.out; congr 1; omega, ⟨X9.out.set4 _, by rw [World.frozen?_setCell]; exact F3.out, by rw [World.frozen?_setCell]; exact F4, ownsRow_setCell_below (HSN.out ▸ Q1.out) (show w1.heap.size < wO.heap.size from HN4.out) _, ((below_on HU.out.bel BEL.out).grown Q2.out (by have := BASE.out; have := HN4.out; omega) (fun j hj => by have := (OWN.out.lt j hj).1; have := HN4.out; omega)).setCell (Nat.le_refl _) _, by rw [World.size_setCell]; exact Nat.le_trans BASE.out Q2.out.size, fun p hp hne => ((World.cell?_setCell_far _ _ _ _ (Ne.symm hne)).trans (Q2.out.cell_far p (Nat.lt_of_lt_of_le hp BASE.out) (own_ne OWN.out hp))).trans ((BEL.out.cell (Nat.lt_of_lt_of_le hp HU.out.size)).trans (HU.out.keep p hp hne))⟩⟩
                  case measure => simp [intOf]
                exact AllReadyH.nil
              exact AllReadyH.nil
            exact AllReadyH.nil
          refine AllReadyH.cons rfl (fun K hK => ?_) ?_
          · go_simp
            rw [HV.out]
            refine hK.out _ _ SV.out (fun hHeldV => ?_)
            clear hK K
            refine wpAnyH_ready (rs := [1]) (by kernel_rfl) (by simp) ?_
            refine AllReadyH.cons rfl (fun K hK => ?_) ?_
            · go_simp
              refine hK.out _ _ SV.out (fun _ => ?_)
              clear hK K
              refine wpAnyH_ready (rs := [8]) (by kernel_rfl) (by simp) ?_
              refine AllReadyH.cons rfl (fun K hK => ?_) ?_
              · refine step_append_lies _ rfl _ _ 38 rfl wO.heap.size 42 j0 _ 7 56 Try.underlying38 JI.out JZ0.out JZ1.out JZ2.out rfl (by decide) (.slice a2 m c2) m _ rfl OWN.out ⟨wr.heap.size, 0, none⟩ 1 1 o.cells.toList rfl rfl NEW.out ONE.out (by omega) (by unfold maxLen; omega) (by omega) BASE.out (wr.heap.size + 1) SZ.out ?_
                intro g1 p1 w2 q1 q2 q3 q4
                have n0 := own_ne OWN.out (show w.heap.size < wO.heap.size by have := HN3.out; have := HN4.out; omega)
                have n1 := own_ne OWN.out (show w1.heap.size < wO.heap.size by have := HN4.out; omega)
                have n2 := own_ne OWN.out (show b < wO.heap.size by have := HN4.out; omega)
                have S9 : ST w2 w.heap.size (.slice (some ⟨b, off, none⟩) lR cR) b (off + q * 7) o := SV.out.map (fun _ _ h => grown_cell q2 h n0) (fun _ _ h => grown_cell q2 h n2)
                have HS9 := Lib.hid S9
                have X9 := Lib.hid (XV.out.far fun j x hx => grown_cell q2 hx n1)
                have x49 := X9.out.2.2.2.2
                have F3 := Lib.hid (show w2.frozen? ⟨w1.heap.size, 3, none⟩ = false from (q2.frozen_far _ (by show w1.heap.size < V.heap.size; rw [SZ.out]; have := HN1.out; omega) n1).trans FV3.out)
                have F4 : w2.frozen? ⟨w1.heap.size, 4, none⟩ = false := (q2.frozen_far _ (by show w1.heap.size < V.heap.size; rw [SZ.out]; have := HN1.out; omega) n1).trans FV4.out
                have Q1 := Lib.hid q1
                have Q2 := Lib.hid q2
                clear q1 q2 q3 q4 n0 n1 n2
                refine hK.out _ _ S9 (fun hHeld9 => ?_)
                clear hK K
                refine wpAnyH_take (i := 9) (v := ?vt9_8) rfl (by kernel_rfl) (by kernel_rfl) (by kernel_rfl) (fun _ _ _ h => h) (Or.inl ⟨by rfl, ?hyt9_8⟩) (by assumption) ?rt9_8
                case hyt9_8 => intro w' hSw; obtain ⟨g1, g2, g3, g4, g5, g6, g7, g8⟩ := hSw; simp only [List.getElem_toArray, List.getElem_cons_zero, List.getElem_cons_succ]; go_simp; try with_reducible rfl
                simp only [List.getElem_toArray, List.getElem_cons_zero, List.getElem_cons_succ, Act.put, List.setIfInBounds_toArray, List.set_cons_zero, List.set_cons_succ]
                refine wpAnyH_ready (rs := [10]) (by kernel_rfl) (by simp) ?_
                refine AllReadyH.cons rfl (fun K hK => ?_) ?_
                · go_simp
                  refine hK.out _ _ (HS9.out.set (by have := HN3.out; omega) (by omega)) (fun _ => ?_)
                  clear hK K
                  refine wpAnyH_done (by kernel_rfl) ?_ _
                  go_wp2_with fail
                  go_roundw
                  case rel => exact ⟨m + 1, _, p1, by omega, by have := HQ.out; congr 1; omega, ⟨X9.out.set4 _, by rw [World.frozen?_setCell]; exact F3.out, by rw [World.frozen?_setCell]; exact F4, ownsRow_setCell_below (HSN.out ▸ Q1.out) (show w1.heap.size < wO.heap.size from HN4.out) _, ((below_on HU.out.bel BEL.out).grown Q2.out (by have := BASE.out; have := HN4.out; omega) (fun j hj => by have := (OWN.out.lt j hj).1; have := HN4.out; omega)).setCell (Nat.le_refl _) _, by rw [World.size_setCell]; exact Nat.le_trans BASE.out Q2.out.size, fun p hp hne => ((World.cell?_setCell_far _ _ _ _ (Ne.symm hne)).trans (Q2.out.cell_far p (Nat.lt_of_lt_of_le hp BASE.out) (own_ne OWN.out hp))).trans ((BEL.out.cell (Nat.lt_of_lt_of_le hp HU.out.size)).trans (HU.out.keep p hp hne))⟩⟩
                  case measure => simp [intOf]
                exact AllReadyH.nil
              exact AllReadyH.nil
            exact AllReadyH.nil
          exact AllReadyH.nil
        · obtain rfl : m = lR := by omega
          have hT := HU.out
          have hid0 : ((m : Int) - 1 - m) = -1 := by omega
          have htk : R.reverse.take m = R.reverse := List.take_of_length_le (by rw [List.length_reverse, LR.out]; exact Nat.le_refl _)
          have hRT : ReadsT wr a2 R.reverse := ownT_reads (by have := hT.own; rw [htk] at this; exact this) (by rw [List.length_reverse, LR.out])
          have hRO : ReadsO wr a O.reverse := HRO.out.far (B := w1.heap.size) hT.keep (by intro e; exact HNE.out (by rw [← e]; cases a <;> rfl))
          have HRO2 := Lib.hid hRO
          have HXT := Lib.hid (world_to (w0 := wr) (n := n) (sD := .slice aD lD cD) (sT := .slice aT lT cT) (cO := c) (cR := c2) (e := worldE n O R) (by rw [List.length_reverse]; exact LO.out) (by rw [List.length_reverse]; exact LR.out) hRO hRT hmO hmR (fun o ho => WO.out o (by simpa using ho)) (fun o ho => WR.out o (by simpa using ho)) (worldE_rev n O R))
          have HWT := Lib.hid (world_to (w0 := wr) (n := n) (sD := .slice aD lD cD) (sT := .slice aT lT cT) (cO := cO) (cR := cR) (e := worldE n O R) LO.out LR.out (HO.out.below (below_on H1.out hT.bel)) (HR.out.below (below_on H1.out hT.bel)) hmO hmR WO.out WR.out rfl)
          have XB := Lib.hid hT.box
          have WB := Lib.hid (HF1.out.on hT.bel)
          have F3 := Lib.hid hT.fz3
          have B3 := Lib.hid hT.bel
          have HB3 := Lib.hid (Below.refl wr.heap.size wr).drew
          have HRT := Lib.hid hRT
          have HNT := Lib.hid (own_ne hT.own HX2.out.lt)
          obtain ⟨E, hE⟩ : ∃ E, worldE n O R = E := ⟨_, rfl⟩
          have HE := Lib.hid hE
          rw [hE] at HXT HWT
          obtain ⟨b0, b1, b2, b3, b4⟩ := WB.out
          obtain ⟨x0, x1, x2, x3, x4⟩ := XB.out
          clear hE hT htk HU hRT hRO
          rw [hid0]
          go_wp2_with fail
          go_region_held_law (fun w' => (w'.cell? ⟨w.heap.size, 0, none⟩ = some (.int .i64 n) ∧ w'.cell? ⟨w.heap.size, 1, none⟩ = some (.slice aD lD cD) ∧ w'.cell? ⟨w.heap.size, 2, none⟩ = some (.slice aT lT cT) ∧ w'.cell? ⟨w.heap.size, 3, none⟩ = some (.slice aO k cO) ∧ w'.cell? ⟨w.heap.size, 4, none⟩ = some (.slice aR m cR)) ∧ (w'.cell? ⟨w1.heap.size, 0, none⟩ = some (.int .i64 n) ∧ w'.cell? ⟨w1.heap.size, 1, none⟩ = some (.slice aD lD cD) ∧ w'.cell? ⟨w1.heap.size, 2, none⟩ = some (.slice aT lT cT) ∧ w'.cell? ⟨w1.heap.size, 3, none⟩ = some (.slice a k c) ∧ w'.cell? ⟨w1.heap.size, 4, none⟩ = some (.slice a2 m c2)))
            (first | exact HS8.out | exact HS7.out | exact ⟨⟨b0, b1, b2, b3, b4⟩, ⟨x0, x1, x2, x3, x4⟩⟩ | go_keep)
            (first
              | (go_at_call_of 27 (Value.agg #[.int .i64 n, .slice aD lD cD, .slice aT lT cT, .slice a k c, .slice a2 m c2]); refine (HXT.out _ H7.out).mono ?_; rintro _ w8 ⟨rfl, h8⟩; have H8 := Lib.hid h8; have HS8 := Lib.hid (And.intro (WB.out.on h8) (XB.out.on h8)); clear h8)
              | (go_at_call_of 27 (Value.agg #[.int .i64 n, .slice aD lD cD, .slice aT lT cT, .slice aO k cO, .slice aR m cR]); refine (HWT.out _ H7.out).mono ?_; rintro _ w8 ⟨rfl, h8⟩; have H8 := Lib.hid h8; have HS8 := Lib.hid (And.intro (WB.out.on h8) (XB.out.on h8)); clear h8)
              | (go_at_call_of 27 (Value.agg #[.int .i64 n, .slice aD lD cD, .slice aT lT cT, .slice a k c, .slice a2 m c2]); refine (HXT.out _ HB3.out).mono ?_; rintro _ w7 ⟨rfl, h7⟩; have H7 := Lib.hid h7; have HS7 := Lib.hid (And.intro (WB.out.on h7) (XB.out.on h7)); clear h7)
              | (go_at_call_of 27 (Value.agg #[.int .i64 n, .slice aD lD cD, .slice aT lT cT, .slice aO k cO, .slice aR m cR]); refine (HWT.out _ HB3.out).mono ?_; rintro _ w7 ⟨rfl, h7⟩; have H7 := Lib.hid h7; have HS7 := Lib.hid (And.intro (WB.out.on h7) (XB.out.on h7)); clear h7))
          all_goals
            clear b0 b1 b2 b3 b4 x0 x1 x2 x3 x4
            obtain ⟨⟨b0, b1, b2, b3, b4⟩, -⟩ := HS8.out
            go_wp2_with fail
            refine (HWT.out _ H8.out).mono ?_
            rintro _ w9 ⟨rfl, h9⟩
            have H9 := Lib.hid h9
            have W9 := Lib.hid (WB.out.on h9)
            have X9 := Lib.hid (XB.out.on h9)
            clear h9 b0 b1 b2 b3 b4
            obtain ⟨b0, b1, b2, b3, b4⟩ := W9.out
            by_cases he : E = 0
            · subst he
              by_cases hk0 : k = 0
              · subst hk0
                go_wp2_with fail
                go_ret
                exact ⟨rfl, below_on H1.out (below_on B3.out H9.out)⟩
              · obtain ⟨q, hq⟩ : ∃ q : Nat, k - 1 = q := ⟨_, rfl⟩
                have hqi : (k : Int) - 1 = q := by omega
                have hql : q < k := by omega
                have hk1 : decide ((k : Int) = 0) = false := decide_eq_false (by omega)
                have hk2 : ((k : Int) == 0) = false := beq_eq_false_iff_ne.2 (by omega)
                have hk3 : ((0 : Int) ≤ 1) := by omega
                have hk4 : ((1 : Int) ≤ k) := by omega
                have hsr : ∀ W : World, (Instr.slice 37 (.slice a k c) (some (.int .i64 1)) none none).run Try.prog W = .ok (.slice (if c = 1 then a else a.map (fun x => x.add (1 * 8))) (k - 1) (c - 1)) W := slice_from a k c 1 (by omega)
                rw [hq] at hsr
                obtain ⟨c6, hc6⟩ : ∃ x, c - 1 = x := ⟨_, rfl⟩
                obtain ⟨a6, ha6⟩ : ∃ x, (if c = 1 then a else a.map (fun x => x.add (1 * 8))) = x := ⟨_, rfl⟩
                have r6 : ReadsO w9 a6 (O.reverse.drop 1) := by
                  rw [← ha6]
                  exact (HRO2.out.below H9.out).dropped 1 (by rw [List.length_reverse, LO.out]; exact HCP.out)
                have n6 : (Value.slice a6 0 0).ownBlock ≠ some w1.heap.size := by
                  intro e
                  refine HNE.out (e.symm.trans ?_)
                  rw [← ha6]
                  cases a with
                  | none => split <;> rfl
                  | some x => split <;> simp [Value.ownBlock, Addr.add] <;> (try split) <;> rfl
                have n2 : (Value.slice a2 0 0).ownBlock ≠ some w1.heap.size := by
                  intro e
                  refine HNT.out (e.symm.trans ?_)
                  cases a2 <;> rfl
                rw [ha6, hc6] at hsr
                clear ha6 hc6
                obtain ⟨x0, x1, x2, x3, x4⟩ := X9.out
                have xf : w9.frozen? ⟨w1.heap.size, 3, none⟩ = false := (H9.out.frozen (p := ⟨w1.heap.size, 3, none⟩) XB.out.lt).trans F3.out
                obtain ⟨U, hU⟩ : ∃ U, w9.setCell ⟨w1.heap.size, 3, none⟩ (.slice a6 q c6) = U := ⟨_, rfl⟩
                have hUB : Below w1.heap.size w1 U := by rw [← hU]; exact (below_on B3.out H9.out).setCell (Nat.le_refl _) _
                have hUs : U.heap.size = w9.heap.size := by rw [← hU]; exact World.size_setCell _ _ _
                have hfar : ∀ p : Addr, p.block < w9.heap.size → p.block ≠ w1.heap.size → U.cell? p = w9.cell? p := fun p _ hne => by rw [← hU]; exact World.cell?_setCell_far _ _ _ _ (Ne.symm hne)
                have u6 : ReadsO U a6 (O.reverse.drop 1) := r6.far hfar n6
                have uT : ReadsT U a2 R.reverse := (HRT.out.below H9.out).far hfar n2
                have uO : ReadsO U aO O := HO.out.below (below_on H1.out hUB)
                have XU : FBox U w1.heap.size n (.slice aD lD cD) (.slice aT lT cT) (.slice a6 q c6) (.slice a2 m c2) := by rw [← hU]; exact X9.out.set3 _
                have WU : FBox U w.heap.size n (.slice aD lD cD) (.slice aT lT cT) (.slice aO k cO) (.slice aR m cR) := HF1.out.on hUB
                obtain ⟨lb, loff, hla, hlc⟩ := uO (by rw [LO.out]; omega)
                obtain ⟨e0, e1, e2, e3, e4, e5, e6, e7⟩ := ordCells_at (hlc q (by rw [LO.out]; omega))
                obtain ⟨o, ho⟩ : ∃ o, ordAt O q = o := ⟨_, rfl⟩
                rw [ho] at e0 e1 e2 e3 e4 e5 e6 e7
                obtain ⟨y0, y1, y2, y3, y4⟩ := WU
                have hUT : Below U.heap.size U (U.alloc (.cells #[.int .i64 o.id, .int .i64 o.owner, .int .i64 o.node, .int .i64 o.weight, .int .i64 o.volume, .int .i64 o.frm, .int .i64 o.to, .int .i64 o.service] 44)) := below_new _ _
                have hTX := Lib.hid (And.intro (XU.on hUT) (And.intro (cell_on hUT y3) (box_cell U #[.int .i64 o.id, .int .i64 o.owner, .int .i64 o.node, .int .i64 o.weight, .int .i64 o.volume, .int .i64 o.frm, .int .i64 o.to, .int .i64 o.service] 44 0 _ rfl)))
                have hok := worldE_ok HE.out
                have h0l : 0 < O.length := by rw [LO.out]; omega
                have hlast : ordAt O (O.length - 1) = o := by rw [LO.out, hq]; exact ho
                have G1 := Lib.hid (world_to (n := n) (sD := .slice aD lD cD) (sT := .slice aT lT cT) (cO := c6) (cR := c2) (e := 0) (show (O.reverse.drop 1).length = q by rw [List.length_drop, List.length_reverse, LO.out]; exact hq) (show R.reverse.length = m by rw [List.length_reverse]; exact LR.out) (u6.below hUT) (uT.below hUT) (by omega) hmR
                  (fun o ho => WO.out o (by have := List.mem_of_mem_drop ho; simpa using this)) (fun o ho => WR.out o (by simpa using ho)) (worldE_less HE.out))
                have G2 := Lib.hid (find_to (id := o.id) (e := -1) (cap := c6) (show (O.reverse.drop 1).length = q by rw [List.length_drop, List.length_reverse, LO.out]; exact hq) (u6.below hUT) (by omega) (fun r hf => found_none hok.2.2.2.2.1 h0l (by rw [hlast]; exact hf)))
                have G3 := Lib.hid (find_to (id := o.id) (e := (q : Int)) (cap := cO) LO.out (uO.below hUT) hmO (fun r hf => by have := found_last hok.2.2.2.2.1 h0l (r := r) (by rw [hlast]; exact hf); rw [this, LO.out]; exact hqi))
                subst hla
                have HUU := Lib.hid hU
                have HUB := Lib.hid hUB
                have HUS := Lib.hid hUs
                clear hU hUB hUs hfar u6 uT uO r6 n6 n2 hlc ho hUT hok h0l hlast XU HS8 hq
                clear y0 y1 y2 y4
                rw [← HUU.out] at y3 e0 e1 e2 e3 e4 e5 e6 e7
                go_wp2_with fail
                rw [HUU.out]
                obtain ⟨T, hT⟩ : ∃ T, U.alloc (.cells #[.int .i64 o.id, .int .i64 o.owner, .int .i64 o.node, .int .i64 o.weight, .int .i64 o.volume, .int .i64 o.frm, .int .i64 o.to, .int .i64 o.service] 44) = T := ⟨_, rfl⟩
                have HBT := Lib.hid (show Below w1.heap.size w1 T by rw [← hT]; exact below_on HUB.out (below_new _ _))
                have hS0 := hTX.out
                rw [hT, HUS.out] at hS0
                rw [hT] at G1 G2 G3 ⊢
                clear hT hTX b0 b1 b2 b3 b4 x0 x1 x2 x3 x4 y3 e0 e1 e2 e3 e4 e5 e6 e7
                have HS0 := Lib.hid hS0
                have HT0 := Lib.hid (Below.refl T.heap.size T).drew
                clear hS0
                go_region_held_law (fun w' => (w'.cell? ⟨w1.heap.size, 0, none⟩ = some (.int .i64 n) ∧ w'.cell? ⟨w1.heap.size, 1, none⟩ = some (.slice aD lD cD) ∧ w'.cell? ⟨w1.heap.size, 2, none⟩ = some (.slice aT lT cT) ∧ w'.cell? ⟨w1.heap.size, 3, none⟩ = some (.slice a6 q c6) ∧ w'.cell? ⟨w1.heap.size, 4, none⟩ = some (.slice a2 m c2)) ∧ w'.cell? ⟨w.heap.size, 3, none⟩ = some (.slice (some ⟨lb, loff, none⟩) k cO) ∧ w'.cell? ⟨w9.heap.size, 0, none⟩ = some (.int .i64 o.id))
                  (first | exact HS12.out | exact HS11.out | exact HS10.out | exact HS0.out | go_keep)
                  (first
                    | (go_at_call_of 33 (Value.slice (some ⟨lb, loff, none⟩) k cO); refine (G3.out _ H11.out).mono ?_; rintro _ w12 ⟨rfl, h12⟩; have H12 := Lib.hid h12; have HS12 := Lib.hid (And.intro (HS0.out.1.on h12) (And.intro (cell_on h12 HS0.out.2.1) (cell_on h12 HS0.out.2.2))); clear h12)
                    | (go_at_call_of 33 (Value.slice a6 q c6); refine (G2.out _ H10.out).mono ?_; rintro _ w11 ⟨rfl, h11⟩; have H11 := Lib.hid h11; have HS11 := Lib.hid (And.intro (HS0.out.1.on h11) (And.intro (cell_on h11 HS0.out.2.1) (cell_on h11 HS0.out.2.2))); clear h11)
                    | (go_at_call 27; refine (G1.out _ HT0.out).mono ?_; rintro _ w10 ⟨rfl, h10⟩; have H10 := Lib.hid h10; have HS10 := Lib.hid (And.intro (HS0.out.1.on h10) (And.intro (cell_on h10 HS0.out.2.1) (cell_on h10 HS0.out.2.2))); clear h10))
                go_wp2_with fail
                go_ret
                refine ⟨ret_bool (a := ((q : Int) == IntKind.i64.wrap (q : Int))) ?_, below_on H1.out (below_on HBT.out H12.out)⟩
                rw [IntWalk.i64_in _ (by omega)]; simp
            · have heb : (E != 0) = true := bne_iff_ne.2 he
              clear he
              go_wp2_with fail
              go_ret
              exact ⟨rfl, below_on H1.out (below_on B3.out H9.out)⟩

theorem order_short (n : Int) (aD aT aO aR : Option Addr) (lD cD lT cT lO cO lR cR : Nat) (w : World) (h : 200 < lO ∨ (lO ≤ 200 ∧ 200 < lR)) :
    Calls Try.prog 8 #[.agg #[.int .i64 n, .slice aD lD cD, .slice aT lT cT, .slice aO lO cO, .slice aR lR cR]] w fun e w' => e = .returned (.bool true) ∧ Below w.heap.size w w' := by
  have HF := Lib.hid (FBox.new w n (.slice aD lD cD) (.slice aT lT cT) (.slice aO lO cO) (.slice aR lR cR) 40)
  have HB : Hid (Below w.heap.size w (w.alloc (.cells #[.int .i64 n, .slice aD lD cD, .slice aT lT cT, .slice aO lO cO, .slice aR lR cR] 40))) := below_new _ _
  rcases h with h | ⟨h, h'⟩
  all_goals
    go_enter Try.func8, Try.ntmps8
    go_wp2_with fail
    refine (awake_load _).mono ?_; rintro _ w1 ⟨rfl, hw1⟩
    have H1 := Lib.hid (below_on HB.out hw1)
    obtain ⟨b0, b1, b2, b3, b4⟩ := HF.out.on hw1
    clear hw1
    go_wp2_with fail
    go_ret
    exact ⟨rfl, H1.out⟩
theorem order_any_world (n : Int) (aD aT aO aR : Option Addr) (lD cD lT cT lO cO lR cR : Nat) (O : List Ord) (R : List Trk) (w : World) (hO1 : O.length = lO) (hR1 : R.length = lR) (hO : ReadsO w aO O) (hR : ReadsT w aR R)
    (hwO : ∀ o ∈ O, o.Wf) (hwR : ∀ o ∈ R, o.Wf) :
    Calls Try.prog 8 #[.agg #[.int .i64 n, .slice aD lD cD, .slice aT lT cT, .slice aO lO cO, .slice aR lR cR]] w fun e w' => e = .returned (.bool true) ∧ Below w.heap.size w w' := by
  by_cases h1 : 200 < lO
  · exact order_short n aD aT aO aR lD cD lT cT lO cO lR cR w (.inl h1)
  by_cases h2 : 200 < lR
  · exact order_short n aD aT aO aR lD cD lT cT lO cO lR cR w (.inr ⟨by omega, h2⟩)
  exact order_core n aD aT aO aR lD cD lT cT lO cO lR cR O R w hO1 hR1 hO hR (by omega) (by omega) hwO hwR
end Go.Proofs.Ytakiciemkecgfaa.Load

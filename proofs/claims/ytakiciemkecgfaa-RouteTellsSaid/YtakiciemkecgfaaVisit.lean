/-
  The walk of route's visit.
-/
import Derived.Test.YtakiciemkecgfaaWalk
namespace Go.Proofs.Ytakiciemkecgfaa.Route
open Go.RowKit Go.Proofs Go.Proofs.Ytakiciemkecgfaa.AreaMath Go.Proofs.Ytakiciemkecgfaa.Area Go.Proofs.Ytakiciemkecgfaa.Load
set_option maxRecDepth 100000
set_option linter.unusedVariables false

def cellsV (l : List Vis) : List Value := l.flatMap fun v => v.cells.toList
theorem cellsV_one (l : List Vis) : ∀ u ∈ cellsV l, u.oneCell' = true := by
  intro u hu
  obtain ⟨o, _, h⟩ := List.mem_flatMap.1 hu
  simp only [Vis.cells, List.mem_cons, List.not_mem_nil, or_false] at h
  rcases h with h | h | h | h <;> rw [h] <;> rfl
/-- a slice of visits that is read -/
def ReadsV (w : World) (a : Option Addr) (l : List Vis) : Prop :=
  0 < l.length → ∃ b off, a = some ⟨b, off, none⟩ ∧ ∀ k, k < l.length → ∀ j v, (visAt l k).cells[j]? = some v → w.cell? ⟨b, off + k * 4 + j, none⟩ = some v
theorem ReadsV.below {w w1 : World} {a : Option Addr} {l : List Vis} (h : ReadsV w a l) (hb : Below w.heap.size w w1) : ReadsV w1 a l := by
  intro hl
  obtain ⟨b, off, ha, hc⟩ := h hl
  exact ⟨b, off, ha, fun k hk j v hv => cell_on hb (hc k hk j v hv)⟩
theorem ownV_reads {w : World} {base e n : Nat} {a : Option Addr} {c : Nat} {xs : List Vis} (h : w.ownsRow base e 4 (.slice a n c) n (cellsV xs)) (hl : xs.length = n) : ReadsV w a xs := by
  intro h0
  obtain ⟨g, cap, hv, _, _⟩ := h.form (by omega)
  cases hv
  refine ⟨g, 0, rfl, fun k hk j v hv => ?_⟩
  have hj : j < 4 := by
    have := (Array.getElem?_eq_some_iff.1 hv).1
    simpa [Vis.cells] using this
  rw [Nat.zero_add, h.cellAt (k * 4 + j) (by omega)]
  unfold cellsV
  rw [flat_get (fun o : Vis => o.cells.toList) 4 vis0 (fun x => rfl) xs k j hk hj, Array.getElem?_toList]
  exact hv
theorem info72 : (Try.prog.info? 72).map (fun i => (i.zero, i.size, i.bytes)) = some (some (.agg #[.int .i64 0, .int .i64 0, .int .i64 0, .int .i64 0]), 4, 32) := by kernel_rfl

theorem ownR_ne {w : World} {base e size n k : Nat} {v : Value} {xs : List Value} (h : w.ownsRow base e size v n xs) (hk : k < base) : some k ≠ v.ownBlock := fun e => by
  have := (h.lt k e.symm).1; omega
theorem grownR_cell {w w1 : World} {row : Option Nat} (h : w.grownBy w1 row) {a : Addr} {x : Value} (hc : w.cell? a = some x) (hne : some a.block ≠ row) : w1.cell? a = some x :=
  (h.cell_far a (World.block_lt_of_cell? w _ hc) hne).trans hc
theorem setR_far {w : World} {b1 j b k : Nat} {u x : Value} (hne : b1 ≠ b) (h : w.cell? ⟨b, k, none⟩ = some x) : (w.setCell ⟨b1, j, none⟩ u).cell? ⟨b, k, none⟩ = some x := by
  rw [World.cell?_setCell_far _ _ _ _ hne]; exact h

set_option maxHeartbeats 8000000 in
theorem visit_any (n : Int) (aD aT : Option Addr) (D T : List Int) (lD lT cD cT : Nat) (b k m : Nat) (a : Option Addr) (c : Nat) (vs : List Vis) (p : Place) (o : Ord) (w : World) (lD1 : D.length = lD) (lT1 : T.length = lT) (hD : ReadsI w aD D) (hT : ReadsI w aT T)
    (hv : validB n D T = true) (hp : PlOk n m p) (hm : m ≤ 100) (ho : OrdOk n o) (hB : PBox w b p) (hS : Soft w b) (hX : w.cell? ⟨b, 3, none⟩ = some (.slice a k c)) (hk : k ≤ 100) (hown : w.ownsRow (b + 1) 72 4 (.slice a k c) k (cellsV vs)) (hbD : True) :
    Calls Try.prog 61 #[.pointer (some ⟨b, 0, none⟩), .agg #[.int .i64 n, .slice aD lD cD, .slice aT lT cT], .agg o.cells] w fun e w' => e = .returned (.bool (decide (beginAt n T p o ≤ o.to))) ∧
      ∃ a' c', PBox w' b (nextP n D T p o) ∧ w'.cell? ⟨b, 3, none⟩ = some (.slice a' (k + 1) c') ∧ Soft w' b ∧ w'.ownsRow (b + 1) 72 4 (.slice a' (k + 1) c') (k + 1) (cellsV (vs ++ [visOf n T p o])) ∧ Below b w w' := by
  obtain ⟨oid, oowner, onode, oweight, ovolume, ofrm, oto, oservice⟩ := o
  obtain ⟨v1, v2, v3, v4, v5, v6⟩ := validB_iff.1 hv
  obtain ⟨g1, g2, g3⟩ := hp
  obtain ⟨o1, o2, o3, _⟩ := ho
  dsimp only at o1 o2 o3
  have r1 := leg_range v5 v3 g1 o1
  have r2 := leg_range v6 v4 g1 o1
  have hb : b < w.heap.size := World.block_lt_of_cell? w _ hX
  have HW := Lib.hid (walk_any n aD aT D T lD lT cD cT b p onode ((w.alloc (.cells #[.int .i64 n, .slice aD lD cD, .slice aT lT cT] 24)).alloc (.cells #[.int .i64 oid, .int .i64 oowner, .int .i64 onode, .int .i64 oweight, .int .i64 ovolume, .int .i64 ofrm, .int .i64 oto, .int .i64 oservice] 44)).drew lD1 lT1
    ((hD.alloc _).alloc _) ((hT.alloc _).alloc _) hv g1 o1 (by omega) (by omega)
    ⟨cell_on (below_new _ _) (cell_on (below_new _ _) hB.1), cell_on (below_new _ _) (cell_on (below_new _ _) hB.2.1), cell_on (below_new _ _) (cell_on (below_new _ _) hB.2.2)⟩
    (fun j => (Below.frozen (below_on (below_new w _) (below_new _ _)) (p := ⟨b, j, none⟩) hb).trans (hS j)))
  obtain ⟨i0, hi, hz0, hz1, hz2⟩ := info_parts info72
  have HI := Lib.hid hi; have HZ0 := Lib.hid hz0; have HZ1 := Lib.hid hz1; have HZ2 := Lib.hid hz2
  clear hi hz0 hz1 hz2
  have HBW : Hid (Below w.heap.size w ((w.alloc (.cells #[.int .i64 n, .slice aD lD cD, .slice aT lT cT] 24)).alloc (.cells #[.int .i64 oid, .int .i64 oowner, .int .i64 onode, .int .i64 oweight, .int .i64 ovolume, .int .i64 ofrm, .int .i64 oto, .int .i64 oservice] 44)).drew) := (below_on (below_new w _) (below_new _ _)).drew
  have a0 := cell_on (below_new (w.alloc (.cells #[.int .i64 n, .slice aD lD cD, .slice aT lT cT] 24)) (.cells #[.int .i64 oid, .int .i64 oowner, .int .i64 onode, .int .i64 oweight, .int .i64 ovolume, .int .i64 ofrm, .int .i64 oto, .int .i64 oservice] 44)) (box_cell w #[.int .i64 n, .slice aD lD cD, .slice aT lT cT] 24 0 _ rfl)
  have a1 := cell_on (below_new (w.alloc (.cells #[.int .i64 n, .slice aD lD cD, .slice aT lT cT] 24)) (.cells #[.int .i64 oid, .int .i64 oowner, .int .i64 onode, .int .i64 oweight, .int .i64 ovolume, .int .i64 ofrm, .int .i64 oto, .int .i64 oservice] 44)) (box_cell w #[.int .i64 n, .slice aD lD cD, .slice aT lT cT] 24 1 _ rfl)
  have a2 := cell_on (below_new (w.alloc (.cells #[.int .i64 n, .slice aD lD cD, .slice aT lT cT] 24)) (.cells #[.int .i64 oid, .int .i64 oowner, .int .i64 onode, .int .i64 oweight, .int .i64 ovolume, .int .i64 ofrm, .int .i64 oto, .int .i64 oservice] 44)) (box_cell w #[.int .i64 n, .slice aD lD cD, .slice aT lT cT] 24 2 _ rfl)
  have hob := OBox.new (w.alloc (.cells #[.int .i64 n, .slice aD lD cD, .slice aT lT cT] 24)) ⟨oid, oowner, onode, oweight, ovolume, ofrm, oto, oservice⟩
  rw [World.size_alloc] at hob
  have HOB := Lib.hid hob
  obtain ⟨y0, y1, y2, y3, y4, y5, y6, y7⟩ := hob
  dsimp only at y0 y1 y2 y3 y4 y5 y6 y7
  have HXW := Lib.hid (cell_on (below_on (below_new w (.cells #[.int .i64 n, .slice aD lD cD, .slice aT lT cT] 24)) (below_new _ (.cells #[.int .i64 oid, .int .i64 oowner, .int .i64 onode, .int .i64 oweight, .int .i64 ovolume, .int .i64 ofrm, .int .i64 oto, .int .i64 oservice] 44))) hX)
  have HOWN := Lib.hid hown
  obtain ⟨q, hq⟩ : ∃ q, Place.go n D T p onode = q := ⟨_, rfl⟩
  have HQ := Lib.hid hq
  rw [hq] at HW
  clear hq v1 v2 v3 v4 v5 v6 hD hT lD1 lT1 hB hS hX hown
  unfold Ord.cells
  dsimp only
  go_enter Try.func61, Try.ntmps61
  go_wp2_with fail
  go_region_held_law (fun w' => (w'.cell? ⟨w.heap.size, 0, none⟩ = some (.int .i64 n) ∧ w'.cell? ⟨w.heap.size, 1, none⟩ = some (.slice aD lD cD) ∧ w'.cell? ⟨w.heap.size, 2, none⟩ = some (.slice aT lT cT)) ∧ w'.cell? ⟨w.heap.size + 1, 2, none⟩ = some (.int .i64 onode))
    (first | exact HS3.out | exact ⟨⟨a0, a1, a2⟩, y2⟩ | go_keep)
    (first
      | (go_at_call 62; refine HW.out.mono ?_; rintro _ w3 ⟨rfl, h31, h32, h33, h34⟩;
          have P3 := Lib.hid h31; have S3 := Lib.hid h32; have G3 := Lib.hid h33; have X3 := Lib.hid (h34 3 _ (by omega) HXW.out);
          have HS3 := Lib.hid (And.intro (And.intro (turn_cell h33 a0 (by omega)) (And.intro (turn_cell h33 a1 (by omega)) (turn_cell h33 a2 (by omega)))) (turn_cell h33 y2 (by omega)));
          clear h31 h32 h33 h34))
  have o0 := turn_cell G3.out y0 (by omega); have o5 := turn_cell G3.out y5 (by omega); have o6 := turn_cell G3.out y6 (by omega); have o7 := turn_cell G3.out y7 (by omega)
  clear a0 a1 a2 y0 y1 y2 y3 y4 y5 y6 y7
  obtain ⟨p0, p1, p2⟩ := P3.out
  obtain ⟨tm, htm⟩ : ∃ t, q.time = t := ⟨_, rfl⟩
  rw [htm] at p1
  have tb : 0 ≤ tm ∧ tm ≤ 1000000000 := by rw [← htm, ← HQ.out]; unfold Place.go; dsimp only; omega
  have HTB := Lib.hid (show tm = p.time + leg n T p.node onode by rw [← htm, ← HQ.out]; rfl)
  have HQN := Lib.hid (show q.node = onode by rw [← HQ.out]; rfl)
  have HQD := Lib.hid (show q.dist = p.dist + leg n D p.node onode by rw [← HQ.out]; rfl)
  clear htm
  have HBB := Lib.hid hb
  go_wp2_with fail
  go_region
  go_wp2_with fail
  case inl h =>
    have HMX := Lib.hid (show beginAt n T p ⟨oid, oowner, onode, oweight, ovolume, ofrm, oto, oservice⟩ = ofrm by unfold beginAt; dsimp only; rw [← HTB.out]; exact Int.max_eq_right (by omega))
    have lv : IntKind.i64.wrap (ofrm + oservice) = ofrm + oservice := IntWalk.i64_in _ (by omega)
    have o0 : w3.drew.cell? ⟨w.heap.size + 1, 0, none⟩ = some (.int .i64 oid) := o0
    have o6 : w3.drew.cell? ⟨w.heap.size + 1, 6, none⟩ = some (.int .i64 oto) := o6
    have o7 : w3.drew.cell? ⟨w.heap.size + 1, 7, none⟩ = some (.int .i64 oservice) := o7
    have p0 : w3.drew.cell? ⟨b, 0, none⟩ = some (.int .i64 q.node) := p0
    have p1 : w3.drew.cell? ⟨b, 1, none⟩ = some (.int .i64 tm) := p1
    have p2 : w3.drew.cell? ⟨b, 2, none⟩ = some (.int .i64 q.dist) := p2
    have X4 : w3.drew.cell? ⟨b, 3, none⟩ = some (.slice a k c) := X3.out
    have S4 : Soft w3.drew b := S3.out
    have hB4 : Below b w w3.drew := (((HBW.out.mono (Nat.le_of_lt HBB.out)).grown G3.out (Nat.le_trans (Nat.le_of_lt HBB.out) HBW.out.size) (fun j hj => by cases hj; exact Nat.le_refl _))).drew
    have hO4 : w3.drew.ownsRow (b + 1) 72 4 (.slice a k c) k (cellsV vs) :=
      ((((HOWN.out.alloc _).alloc _).drew.kept G3.out (by by_cases e : (Value.slice a k c).ownBlock = none; · exact .inl e
                                                          · exact .inr (fun e2 => by have := (HOWN.out.lt b e2).1; omega)))).drew
    have hbl : b < w3.drew.heap.size := Nat.lt_of_lt_of_le HBB.out hB4.size
    have hAl : w.heap.size + 1 < w3.drew.heap.size := World.block_lt_of_cell? _ _ o0
    have NA := Lib.hid (show some (w.heap.size + 1) ≠ (Value.slice a k c).ownBlock from fun e => by have := (HOWN.out.lt _ e.symm).2; omega)
    obtain ⟨w4, hw4⟩ : ∃ x, w3.drew = x := ⟨_, rfl⟩
    rw [hw4] at o0 o6 o7 p0 p1 p2 X4 S4 hB4 hO4 hbl hAl ⊢
    clear hw4
    obtain ⟨V, hV⟩ : ∃ V, (w4.alloc (.cells #[.int .i64 oid, .int .i64 tm, .int .i64 ofrm, .int .i64 (ofrm + oservice)] 72)).drew = V := ⟨_, rfl⟩
    have hbV : Below w4.heap.size w4 V := by rw [← hV]; exact (below_new w4 _).drew
    have SZ := Lib.hid (show V.heap.size = w4.heap.size + 1 by rw [← hV]; exact World.size_alloc _ _)
    have NEW := Lib.hid (show ∀ j u, ([.int .i64 oid, .int .i64 tm, .int .i64 ofrm, .int .i64 (ofrm + oservice)] : List Value)[j]? = some u → V.cell? ((⟨w4.heap.size, 0, none⟩ : Addr).add j) = some u by
      intro j u hu
      rw [Addr.add_lit, Nat.zero_add, ← hV]
      exact box_cell w4 #[.int .i64 oid, .int .i64 tm, .int .i64 ofrm, .int .i64 (ofrm + oservice)] 72 j u (by rw [← Array.getElem?_toList]; exact hu))
    have OWN := Lib.hid (show V.ownsRow (b + 1) 72 4 (.slice a k c) k (cellsV vs) by rw [← hV]; exact (hO4.alloc _).drew)
    have ONE := Lib.hid (show ∀ u ∈ ([.int .i64 oid, .int .i64 tm, .int .i64 ofrm, .int .i64 (ofrm + oservice)] : List Value), u.oneCell' = true by intro u hu; simp only [List.mem_cons, List.not_mem_nil, or_false] at hu; rcases hu with h | h | h | h <;> rw [h] <;> rfl)
    have BASE := Lib.hid (show b + 1 ≤ V.heap.size by rw [SZ.out]; omega)
    have SV := Lib.hid (show V.cell? ⟨w.heap.size + 1, 0, none⟩ = some (.int .i64 oid) ∧ V.cell? ⟨b, 1, none⟩ = some (.int .i64 tm) ∧ V.cell? ⟨w.heap.size + 1, 7, none⟩ = some (.int .i64 oservice) from ⟨cell_on hbV o0, cell_on hbV p1, cell_on hbV o7⟩)
    have XV := Lib.hid (cell_on hbV X4)
    have x3V := cell_on hbV X4
    have CV0 := Lib.hid (cell_on hbV p0)
    have CV2 := Lib.hid (cell_on hbV p2)
    have CV6 := Lib.hid (cell_on hbV o6)
    have FV := Lib.hid (show Soft V b from fun j => (hbV.frozen (p := ⟨b, j, none⟩) hbl).trans (S4 j))
    have HBV := Lib.hid (show Below b w V from hB4.trans (hbV.mono (Nat.le_of_lt hbl)))
    have HV := Lib.hid hV
    have HB4 := Lib.hid hbl
    clear hV hbV S4 hB4 hO4 hbl hAl o6 p0 p2 h
    refine wp_region_held_drew (S := fun w' => w'.cell? ⟨w.heap.size + 1, 0, none⟩ = some (.int .i64 oid) ∧ w'.cell? ⟨b, 1, none⟩ = some (.int .i64 tm) ∧ w'.cell? ⟨w.heap.size + 1, 7, none⟩ = some (.int .i64 oservice)) (by kernel_rfl) ⟨o0, p1, o7⟩ (fun hHeld => ?_)
    simp only [List.size_toArray, List.length_cons, List.length_nil, Nat.reduceAdd, Array.replicate_succ, Array.replicate_zero, List.push_toArray, List.nil_append, List.cons_append]
    refine wpAnyH_take (i := 0) (v := ?vf0_1) rfl (by kernel_rfl) (by kernel_rfl) (by kernel_rfl) (fun _ _ _ h => h) (Or.inl ⟨by rfl, ?hyf0_1⟩) (by assumption) ?rf0_1
    case hyf0_1 => intro w' hSw; obtain ⟨g1, g2, g3⟩ := hSw; simp only [List.getElem_toArray, List.getElem_cons_zero]; go_simp; try with_reducible rfl
    simp only [List.getElem_toArray, List.getElem_cons_zero, Act.put, List.setIfInBounds_toArray, List.set_cons_zero]
    refine wpAnyH_take (i := 1) (v := ?vf1_2) rfl (by kernel_rfl) (by kernel_rfl) (by kernel_rfl) (fun _ _ _ h => h) (Or.inl ⟨by rfl, ?hyf1_2⟩) (by assumption) ?rf1_2
    case hyf1_2 => intro w' hSw; obtain ⟨g1, g2, g3⟩ := hSw; simp only [List.getElem_toArray, List.getElem_cons_zero, List.getElem_cons_succ]; go_simp; try with_reducible rfl
    simp only [List.getElem_toArray, List.getElem_cons_zero, List.getElem_cons_succ, Act.put, List.setIfInBounds_toArray, List.set_cons_zero, List.set_cons_succ]
    refine wpAnyH_take (i := 2) (v := ?vf2_3) rfl (by kernel_rfl) (by kernel_rfl) (by kernel_rfl) (fun _ _ _ h => h) (Or.inl ⟨by rfl, ?hyf2_3⟩) (by assumption) ?rf2_3
    case hyf2_3 => intro w' hSw; obtain ⟨g1, g2, g3⟩ := hSw; simp only [List.getElem_toArray, List.getElem_cons_zero, List.getElem_cons_succ]; go_simp; try with_reducible rfl
    simp only [List.getElem_toArray, List.getElem_cons_zero, List.getElem_cons_succ, Act.put, List.setIfInBounds_toArray, List.set_cons_zero, List.set_cons_succ]
    refine wpAnyH_take (i := 3) (v := ?vf3_4) rfl (by kernel_rfl) (by kernel_rfl) (by kernel_rfl) (fun _ _ _ h => h) (Or.inl ⟨by rfl, ?hyf3_4⟩) (by assumption) ?rf3_4
    case hyf3_4 => intro w' hSw; obtain ⟨g1, g2, g3⟩ := hSw; simp only [List.getElem_toArray, List.getElem_cons_zero, List.getElem_cons_succ]; go_simp; try with_reducible rfl
    simp only [List.getElem_toArray, List.getElem_cons_zero, List.getElem_cons_succ, Act.put, List.setIfInBounds_toArray, List.set_cons_zero, List.set_cons_succ]
    refine wpAnyH_take (i := 5) (v := ?vf5_5) rfl (by kernel_rfl) (by kernel_rfl) (by kernel_rfl) (fun _ _ _ h => h) (Or.inl ⟨by rfl, ?hyf5_5⟩) (by assumption) ?rf5_5
    case hyf5_5 => intro w' hSw; obtain ⟨g1, g2, g3⟩ := hSw; simp only [List.getElem_toArray, List.getElem_cons_zero, List.getElem_cons_succ]; go_simp; try with_reducible rfl
    simp only [List.getElem_toArray, List.getElem_cons_zero, List.getElem_cons_succ, Act.put, List.setIfInBounds_toArray, List.set_cons_zero, List.set_cons_succ]
    refine wpAnyH_take (i := 6) (v := ?vf6_6) rfl (by kernel_rfl) (by kernel_rfl) (by kernel_rfl) (fun _ _ _ h => h) (Or.inl ⟨by rfl, ?hyf6_6⟩) (by assumption) ?rf6_6
    case hyf6_6 => intro w' hSw; obtain ⟨g1, g2, g3⟩ := hSw; simp only [List.getElem_toArray, List.getElem_cons_zero, List.getElem_cons_succ]; go_simp; try with_reducible rfl
    simp only [List.getElem_toArray, List.getElem_cons_zero, List.getElem_cons_succ, Act.put, List.setIfInBounds_toArray, List.set_cons_zero, List.set_cons_succ]
    refine wpAnyH_take (i := 7) (v := ?vf7_7) rfl (by kernel_rfl) (by kernel_rfl) (by kernel_rfl) (fun _ _ _ h => h) (Or.inl ⟨by rfl, ?hyf7_7⟩) (by assumption) ?rf7_7
    case hyf7_7 => intro w' hSw; obtain ⟨g1, g2, g3⟩ := hSw; simp only [List.getElem_toArray, List.getElem_cons_zero, List.getElem_cons_succ]; go_simp; try with_reducible rfl
    simp only [List.getElem_toArray, List.getElem_cons_zero, List.getElem_cons_succ, Act.put, List.setIfInBounds_toArray, List.set_cons_zero, List.set_cons_succ]
    refine wpAnyH_take (i := 8) (v := ?vf8_8) rfl (by kernel_rfl) (by kernel_rfl) (by kernel_rfl) (fun _ _ _ h => h) (Or.inl ⟨by rfl, ?hyf8_8⟩) (by assumption) ?rf8_8
    case hyf8_8 => intro w' hSw; obtain ⟨g1, g2, g3⟩ := hSw; simp only [List.getElem_toArray, List.getElem_cons_zero, List.getElem_cons_succ]; go_simp; try with_reducible rfl
    simp only [List.getElem_toArray, List.getElem_cons_zero, List.getElem_cons_succ, Act.put, List.setIfInBounds_toArray, List.set_cons_zero, List.set_cons_succ]
    refine wpAnyH_take (i := 9) (v := ?vf9_9) rfl (by kernel_rfl) (by kernel_rfl) (by kernel_rfl) (fun _ _ _ h => h) (Or.inl ⟨by rfl, ?hyf9_9⟩) (by assumption) ?rf9_9
    case hyf9_9 => intro w' hSw; obtain ⟨g1, g2, g3⟩ := hSw; simp only [List.getElem_toArray, List.getElem_cons_zero, List.getElem_cons_succ]; go_simp; try with_reducible rfl
    simp only [List.getElem_toArray, List.getElem_cons_zero, List.getElem_cons_succ, Act.put, List.setIfInBounds_toArray, List.set_cons_zero, List.set_cons_succ]
    refine wpAnyH_take (i := 10) (v := ?vf10_10) rfl (by kernel_rfl) (by kernel_rfl) (by kernel_rfl) (fun _ _ _ h => h) (Or.inl ⟨by rfl, ?hyf10_10⟩) (by assumption) ?rf10_10
    case hyf10_10 => intro w' hSw; obtain ⟨g1, g2, g3⟩ := hSw; simp only [List.getElem_toArray, List.getElem_cons_zero, List.getElem_cons_succ]; go_simp; try with_reducible rfl
    simp only [List.getElem_toArray, List.getElem_cons_zero, List.getElem_cons_succ, Act.put, List.setIfInBounds_toArray, List.set_cons_zero, List.set_cons_succ]
    refine wpAnyH_take (i := 11) (v := ?vf11_11) rfl (by kernel_rfl) (by kernel_rfl) (by kernel_rfl) (fun _ _ _ h => h) (Or.inl ⟨by rfl, ?hyf11_11⟩) (by assumption) ?rf11_11
    case hyf11_11 => intro w' hSw; obtain ⟨g1, g2, g3⟩ := hSw; simp only [List.getElem_toArray, List.getElem_cons_zero, List.getElem_cons_succ]; go_simp; try with_reducible rfl
    simp only [List.getElem_toArray, List.getElem_cons_zero, List.getElem_cons_succ, Act.put, List.setIfInBounds_toArray, List.set_cons_zero, List.set_cons_succ]
    refine wpAnyH_take (i := 12) (v := ?vf12_12) rfl (by kernel_rfl) (by kernel_rfl) (by kernel_rfl) (fun _ _ _ h => h) (Or.inl ⟨by rfl, ?hyf12_12⟩) (by assumption) ?rf12_12
    case hyf12_12 => intro w' hSw; obtain ⟨g1, g2, g3⟩ := hSw; simp only [List.getElem_toArray, List.getElem_cons_zero, List.getElem_cons_succ]; go_simp; try with_reducible rfl
    simp only [List.getElem_toArray, List.getElem_cons_zero, List.getElem_cons_succ, Act.put, List.setIfInBounds_toArray, List.set_cons_zero, List.set_cons_succ]
    refine wpAnyH_take (i := 13) (v := ?vf13_13) rfl (by kernel_rfl) (by kernel_rfl) (by kernel_rfl) (fun _ _ _ h => h) (Or.inl ⟨by rfl, ?hyf13_13⟩) (by assumption) ?rf13_13
    case hyf13_13 => intro w' hSw; obtain ⟨g1, g2, g3⟩ := hSw; simp only [List.getElem_toArray, List.getElem_cons_zero, List.getElem_cons_succ]; go_simp; try with_reducible rfl
    simp only [List.getElem_toArray, List.getElem_cons_zero, List.getElem_cons_succ, Act.put, List.setIfInBounds_toArray, List.set_cons_zero, List.set_cons_succ]
    refine wpAnyH_take (i := 14) (v := ?vf14_14) rfl (by kernel_rfl) (by kernel_rfl) (by kernel_rfl) (fun _ _ _ h => h) (Or.inl ⟨by rfl, ?hyf14_14⟩) (by assumption) ?rf14_14
    case hyf14_14 => intro w' hSw; obtain ⟨g1, g2, g3⟩ := hSw; simp only [List.getElem_toArray, List.getElem_cons_zero, List.getElem_cons_succ]; go_simp; try with_reducible rfl
    simp only [List.getElem_toArray, List.getElem_cons_zero, List.getElem_cons_succ, Act.put, List.setIfInBounds_toArray, List.set_cons_zero, List.set_cons_succ]
    refine wpAnyH_take (i := 15) (v := ?vf15_15) rfl (by kernel_rfl) (by kernel_rfl) (by kernel_rfl) (fun _ _ _ h => h) (Or.inl ⟨by rfl, ?hyf15_15⟩) (by assumption) ?rf15_15
    case hyf15_15 => intro w' hSw; obtain ⟨g1, g2, g3⟩ := hSw; simp only [List.getElem_toArray, List.getElem_cons_zero, List.getElem_cons_succ]; go_simp; try with_reducible rfl
    simp only [List.getElem_toArray, List.getElem_cons_zero, List.getElem_cons_succ, Act.put, List.setIfInBounds_toArray, List.set_cons_zero, List.set_cons_succ]
    refine wpAnyH_take (i := 16) (v := ?vf16_16) rfl (by kernel_rfl) (by kernel_rfl) (by kernel_rfl) (fun _ _ _ h => h) (Or.inl ⟨by rfl, ?hyf16_16⟩) (by assumption) ?rf16_16
    case hyf16_16 => intro w' hSw; obtain ⟨g1, g2, g3⟩ := hSw; simp only [List.getElem_toArray, List.getElem_cons_zero, List.getElem_cons_succ]; go_simp; try with_reducible rfl
    simp only [List.getElem_toArray, List.getElem_cons_zero, List.getElem_cons_succ, Act.put, List.setIfInBounds_toArray, List.set_cons_zero, List.set_cons_succ]
    refine wpAnyH_take (i := 17) (v := ?vf17_17) rfl (by kernel_rfl) (by kernel_rfl) (by kernel_rfl) (fun _ _ _ h => h) (Or.inl ⟨by rfl, ?hyf17_17⟩) (by assumption) ?rf17_17
    case hyf17_17 => intro w' hSw; obtain ⟨g1, g2, g3⟩ := hSw; simp only [List.getElem_toArray, List.getElem_cons_zero, List.getElem_cons_succ]; go_simp; try with_reducible rfl
    simp only [List.getElem_toArray, List.getElem_cons_zero, List.getElem_cons_succ, Act.put, List.setIfInBounds_toArray, List.set_cons_zero, List.set_cons_succ]
    refine wpAnyH_ready (rs := [4, 18]) (by kernel_rfl) (by simp) ?_
    refine AllReadyH.cons rfl (fun K hK => ?_) ?_
    · go_simp
      refine hK.out _ _ ⟨o0, p1, o7⟩ (fun _ => ?_)
      clear hK K
      refine wpAnyH_ready (rs := [18]) (by kernel_rfl) (by simp) ?_
      refine AllReadyH.cons rfl (fun K hK => ?_) ?_
      · go_simp
        rw [HV.out]
        refine hK.out _ _ SV.out (fun hHeldV => ?_)
        clear hK K
        refine wpAnyH_ready (rs := [19]) (by kernel_rfl) (by simp) ?_
        refine AllReadyH.cons rfl (fun K hK => ?_) ?_
        · refine step_append_lies _ rfl _ _ 57 rfl (b + 1) 72 i0 _ 4 32 Try.underlying57 HI.out HZ0.out HZ1.out HZ2.out rfl (by decide) (.slice a k c) k _ rfl OWN.out ⟨w4.heap.size, 0, none⟩ 1 1 [.int .i64 oid, .int .i64 tm, .int .i64 ofrm, .int .i64 (ofrm + oservice)] rfl rfl NEW.out ONE.out (by omega) (by unfold maxLen; omega) (by omega) BASE.out (w4.heap.size + 1) SZ.out ?_
          intro g1 p1 w5 q1 q2 q3 q4
          have n1 := ownR_ne OWN.out (show b < b + 1 by omega)
          have far5 : ∀ c2 j x, V.cell? ⟨c2, j, none⟩ = some x → (c2 = b ∨ c2 = w.heap.size + 1) → some c2 ≠ (Value.slice a k c).ownBlock → w5.cell? ⟨c2, j, none⟩ = some x := fun c2 j x h _ hne => grownR_cell q2 h hne
          have n2 := NA.out
          have S9 : w5.cell? ⟨w.heap.size + 1, 0, none⟩ = some (.int .i64 oid) ∧ w5.cell? ⟨b, 1, none⟩ = some (.int .i64 tm) ∧ w5.cell? ⟨w.heap.size + 1, 7, none⟩ = some (.int .i64 oservice) := ⟨grownR_cell q2 SV.out.1 n2, grownR_cell q2 SV.out.2.1 n1, grownR_cell q2 SV.out.2.2 n2⟩
          have HS9 := Lib.hid S9
          have x3 := grownR_cell q2 XV.out n1
          have fz : ∀ j, w5.frozen? ⟨b, j, none⟩ = false := fun j => (q2.frozen_far _ (by show b < V.heap.size; rw [SZ.out]; have := HB4.out; omega) n1).trans (FV.out j)
          have c50 := Lib.hid (grownR_cell q2 CV0.out n1)
          have c52 := Lib.hid (grownR_cell q2 CV2.out n1)
          have c56 := grownR_cell q2 CV6.out n2
          have Q1 := Lib.hid q1
          have Q2 := Lib.hid q2
          clear q1 q2 q3 q4 n1 n2 far5
          refine hK.out _ _ S9 (fun hHeld9 => ?_)
          clear hK K
          refine wpAnyH_take (i := 20) (v := ?vf20_18) rfl (by kernel_rfl) (by kernel_rfl) (by kernel_rfl) (fun _ _ _ h => h) (Or.inl ⟨by rfl, ?hyf20_18⟩) (by assumption) ?rf20_18
          case hyf20_18 => intro w' hSw; obtain ⟨g1, g2, g3⟩ := hSw; simp only [List.getElem_toArray, List.getElem_cons_zero, List.getElem_cons_succ]; go_simp; try with_reducible rfl
          simp only [List.getElem_toArray, List.getElem_cons_zero, List.getElem_cons_succ, Act.put, List.setIfInBounds_toArray, List.set_cons_zero, List.set_cons_succ]
          refine wpAnyH_take (i := 21) (v := ?vf21_19) rfl (by kernel_rfl) (by kernel_rfl) (by kernel_rfl) (fun _ _ _ h => h) (Or.inl ⟨by rfl, ?hyf21_19⟩) (by assumption) ?rf21_19
          case hyf21_19 => intro w' hSw; obtain ⟨g1, g2, g3⟩ := hSw; simp only [List.getElem_toArray, List.getElem_cons_zero, List.getElem_cons_succ]; go_simp; try with_reducible rfl
          simp only [List.getElem_toArray, List.getElem_cons_zero, List.getElem_cons_succ, Act.put, List.setIfInBounds_toArray, List.set_cons_zero, List.set_cons_succ]
          refine wpAnyH_ready (rs := [22]) (by kernel_rfl) (by simp) ?_
          refine AllReadyH.cons rfl (fun K hK => ?_) ?_
          · go_simp
            refine hK.out _ _ ⟨setR_far (by have := HBB.out; omega) HS9.out.1, cell_set_other HS9.out.2.1 (by omega), setR_far (by have := HBB.out; omega) HS9.out.2.2⟩ (fun _ => ?_)
            clear hK K
            refine wpAnyH_done (by kernel_rfl) ?_ _
            have hne : b ≠ w.heap.size + 1 := by have := HBB.out; omega
            have u1 := cell_set_other (j := 3) (u := .slice (some ⟨g1, 0, none⟩) (k + 1) p1) HS9.out.2.1 (by omega)
            have u7 := setR_far (j := 3) (u := .slice (some ⟨g1, 0, none⟩) (k + 1) p1) hne HS9.out.2.2
            have u6 := setR_far (j := 1) (u := .int .i64 (ofrm + oservice)) hne (setR_far (j := 3) (u := .slice (some ⟨g1, 0, none⟩) (k + 1) p1) hne c56)
            have uf : (w5.setCell ⟨b, 3, none⟩ (.slice (some ⟨g1, 0, none⟩) (k + 1) p1)).frozen? ⟨b, 1, none⟩ = false := by rw [World.frozen?_setCell]; exact fz 1
            have E3 := Lib.hid (World.cell?_setCell_same w5 ⟨b, 3, none⟩ (.slice (some ⟨g1, 0, none⟩) (k + 1) p1) x3)
            have E1 := Lib.hid (World.cell?_setCell_same (w5.setCell ⟨b, 3, none⟩ (.slice (some ⟨g1, 0, none⟩) (k + 1) p1)) ⟨b, 1, none⟩ (.int .i64 (ofrm + oservice)) u1)
            have FZ := Lib.hid fz
            have HU1 := Lib.hid u1
            clear fz x3 S9
            go_wp2_with fail
            go_ret
            refine ⟨ret_bool (a := true) (by rw [HMX.out, decide_eq_true (by omega)]), some ⟨g1, 0, none⟩, p1, ⟨?_, ?_, ?_⟩, ?_, ?_, ?_, ?_⟩
            · exact cell_set_other (cell_set_other (by have h := c50.out; rw [HQN.out] at h; exact h) (by omega)) (by omega)
            · have h := E1.out; unfold nextP; dsimp only; rw [HMX.out]; exact h
            · exact cell_set_other (cell_set_other (by have h := c52.out; rw [HQD.out] at h; exact h) (by omega)) (by omega)
            · exact cell_set_other E3.out (by omega)
            · intro j; rw [World.frozen?_setCell, World.frozen?_setCell]; exact FZ.out j
            · have hcs : cellsV vs ++ [.int .i64 oid, .int .i64 tm, .int .i64 ofrm, .int .i64 (ofrm + oservice)] = cellsV (vs ++ [visOf n T p ⟨oid, oowner, onode, oweight, ovolume, ofrm, oto, oservice⟩]) := by
                unfold cellsV; rw [List.flatMap_append]; congr 1
                unfold visOf Vis.cells; dsimp only; rw [HMX.out, ← HTB.out]; rfl
              rw [← hcs]
              exact ownsRow_setCell_below (ownsRow_setCell_below Q1.out (show b < b + 1 by omega) _) (show b < b + 1 by omega) _
            · exact ((HBV.out.grown Q2.out (by have := BASE.out; omega) (fun j hj => by have := (OWN.out.lt j hj).1; omega)).setCell (Nat.le_refl _) _).setCell (Nat.le_refl _) _
          exact AllReadyH.nil
        exact AllReadyH.nil
      exact AllReadyH.nil
    refine AllReadyH.cons rfl (fun K hK => ?_) ?_
    · go_simp
      rw [HV.out]
      refine hK.out _ _ SV.out (fun hHeldV => ?_)
      clear hK K
      refine wpAnyH_ready (rs := [4]) (by kernel_rfl) (by simp) ?_
      refine AllReadyH.cons rfl (fun K hK => ?_) ?_
      · go_simp
        refine hK.out _ _ SV.out (fun _ => ?_)
        clear hK K
        refine wpAnyH_ready (rs := [19]) (by kernel_rfl) (by simp) ?_
        refine AllReadyH.cons rfl (fun K hK => ?_) ?_
        · refine step_append_lies _ rfl _ _ 57 rfl (b + 1) 72 i0 _ 4 32 Try.underlying57 HI.out HZ0.out HZ1.out HZ2.out rfl (by decide) (.slice a k c) k _ rfl OWN.out ⟨w4.heap.size, 0, none⟩ 1 1 [.int .i64 oid, .int .i64 tm, .int .i64 ofrm, .int .i64 (ofrm + oservice)] rfl rfl NEW.out ONE.out (by omega) (by unfold maxLen; omega) (by omega) BASE.out (w4.heap.size + 1) SZ.out ?_
          intro g1 p1 w5 q1 q2 q3 q4
          have n1 := ownR_ne OWN.out (show b < b + 1 by omega)
          have far5 : ∀ c2 j x, V.cell? ⟨c2, j, none⟩ = some x → (c2 = b ∨ c2 = w.heap.size + 1) → some c2 ≠ (Value.slice a k c).ownBlock → w5.cell? ⟨c2, j, none⟩ = some x := fun c2 j x h _ hne => grownR_cell q2 h hne
          have n2 := NA.out
          have S9 : w5.cell? ⟨w.heap.size + 1, 0, none⟩ = some (.int .i64 oid) ∧ w5.cell? ⟨b, 1, none⟩ = some (.int .i64 tm) ∧ w5.cell? ⟨w.heap.size + 1, 7, none⟩ = some (.int .i64 oservice) := ⟨grownR_cell q2 SV.out.1 n2, grownR_cell q2 SV.out.2.1 n1, grownR_cell q2 SV.out.2.2 n2⟩
          have HS9 := Lib.hid S9
          have x3 := grownR_cell q2 XV.out n1
          have fz : ∀ j, w5.frozen? ⟨b, j, none⟩ = false := fun j => (q2.frozen_far _ (by show b < V.heap.size; rw [SZ.out]; have := HB4.out; omega) n1).trans (FV.out j)
          have c50 := Lib.hid (grownR_cell q2 CV0.out n1)
          have c52 := Lib.hid (grownR_cell q2 CV2.out n1)
          have c56 := grownR_cell q2 CV6.out n2
          have Q1 := Lib.hid q1
          have Q2 := Lib.hid q2
          clear q1 q2 q3 q4 n1 n2 far5
          refine hK.out _ _ S9 (fun hHeld9 => ?_)
          clear hK K
          refine wpAnyH_take (i := 20) (v := ?vf20_20) rfl (by kernel_rfl) (by kernel_rfl) (by kernel_rfl) (fun _ _ _ h => h) (Or.inl ⟨by rfl, ?hyf20_20⟩) (by assumption) ?rf20_20
          case hyf20_20 => intro w' hSw; obtain ⟨g1, g2, g3⟩ := hSw; simp only [List.getElem_toArray, List.getElem_cons_zero, List.getElem_cons_succ]; go_simp; try with_reducible rfl
          simp only [List.getElem_toArray, List.getElem_cons_zero, List.getElem_cons_succ, Act.put, List.setIfInBounds_toArray, List.set_cons_zero, List.set_cons_succ]
          refine wpAnyH_take (i := 21) (v := ?vf21_21) rfl (by kernel_rfl) (by kernel_rfl) (by kernel_rfl) (fun _ _ _ h => h) (Or.inl ⟨by rfl, ?hyf21_21⟩) (by assumption) ?rf21_21
          case hyf21_21 => intro w' hSw; obtain ⟨g1, g2, g3⟩ := hSw; simp only [List.getElem_toArray, List.getElem_cons_zero, List.getElem_cons_succ]; go_simp; try with_reducible rfl
          simp only [List.getElem_toArray, List.getElem_cons_zero, List.getElem_cons_succ, Act.put, List.setIfInBounds_toArray, List.set_cons_zero, List.set_cons_succ]
          refine wpAnyH_ready (rs := [22]) (by kernel_rfl) (by simp) ?_
          refine AllReadyH.cons rfl (fun K hK => ?_) ?_
          · go_simp
            refine hK.out _ _ ⟨setR_far (by have := HBB.out; omega) HS9.out.1, cell_set_other HS9.out.2.1 (by omega), setR_far (by have := HBB.out; omega) HS9.out.2.2⟩ (fun _ => ?_)
            clear hK K
            refine wpAnyH_done (by kernel_rfl) ?_ _
            have hne : b ≠ w.heap.size + 1 := by have := HBB.out; omega
            have u1 := cell_set_other (j := 3) (u := .slice (some ⟨g1, 0, none⟩) (k + 1) p1) HS9.out.2.1 (by omega)
            have u7 := setR_far (j := 3) (u := .slice (some ⟨g1, 0, none⟩) (k + 1) p1) hne HS9.out.2.2
            have u6 := setR_far (j := 1) (u := .int .i64 (ofrm + oservice)) hne (setR_far (j := 3) (u := .slice (some ⟨g1, 0, none⟩) (k + 1) p1) hne c56)
            have uf : (w5.setCell ⟨b, 3, none⟩ (.slice (some ⟨g1, 0, none⟩) (k + 1) p1)).frozen? ⟨b, 1, none⟩ = false := by rw [World.frozen?_setCell]; exact fz 1
            have E3 := Lib.hid (World.cell?_setCell_same w5 ⟨b, 3, none⟩ (.slice (some ⟨g1, 0, none⟩) (k + 1) p1) x3)
            have E1 := Lib.hid (World.cell?_setCell_same (w5.setCell ⟨b, 3, none⟩ (.slice (some ⟨g1, 0, none⟩) (k + 1) p1)) ⟨b, 1, none⟩ (.int .i64 (ofrm + oservice)) u1)
            have FZ := Lib.hid fz
            have HU1 := Lib.hid u1
            clear fz x3 S9
            go_wp2_with fail
            go_ret
            refine ⟨ret_bool (a := true) (by rw [HMX.out, decide_eq_true (by omega)]), some ⟨g1, 0, none⟩, p1, ⟨?_, ?_, ?_⟩, ?_, ?_, ?_, ?_⟩
            · exact cell_set_other (cell_set_other (by have h := c50.out; rw [HQN.out] at h; exact h) (by omega)) (by omega)
            · have h := E1.out; unfold nextP; dsimp only; rw [HMX.out]; exact h
            · exact cell_set_other (cell_set_other (by have h := c52.out; rw [HQD.out] at h; exact h) (by omega)) (by omega)
            · exact cell_set_other E3.out (by omega)
            · intro j; rw [World.frozen?_setCell, World.frozen?_setCell]; exact FZ.out j
            · have hcs : cellsV vs ++ [.int .i64 oid, .int .i64 tm, .int .i64 ofrm, .int .i64 (ofrm + oservice)] = cellsV (vs ++ [visOf n T p ⟨oid, oowner, onode, oweight, ovolume, ofrm, oto, oservice⟩]) := by
                unfold cellsV; rw [List.flatMap_append]; congr 1
                unfold visOf Vis.cells; dsimp only; rw [HMX.out, ← HTB.out]; rfl
              rw [← hcs]
              exact ownsRow_setCell_below (ownsRow_setCell_below Q1.out (show b < b + 1 by omega) _) (show b < b + 1 by omega) _
            · exact ((HBV.out.grown Q2.out (by have := BASE.out; omega) (fun j hj => by have := (OWN.out.lt j hj).1; omega)).setCell (Nat.le_refl _) _).setCell (Nat.le_refl _) _
          exact AllReadyH.nil
        exact AllReadyH.nil
      exact AllReadyH.nil
    exact AllReadyH.nil
  case inr h =>
    have HMX := Lib.hid (show beginAt n T p ⟨oid, oowner, onode, oweight, ovolume, ofrm, oto, oservice⟩ = tm by unfold beginAt; dsimp only; rw [← HTB.out]; exact Int.max_eq_left h)
    have lv : IntKind.i64.wrap (tm + oservice) = tm + oservice := IntWalk.i64_in _ (by omega)
    have o0 : w3.drew.cell? ⟨w.heap.size + 1, 0, none⟩ = some (.int .i64 oid) := o0
    have o6 : w3.drew.cell? ⟨w.heap.size + 1, 6, none⟩ = some (.int .i64 oto) := o6
    have o7 : w3.drew.cell? ⟨w.heap.size + 1, 7, none⟩ = some (.int .i64 oservice) := o7
    have p0 : w3.drew.cell? ⟨b, 0, none⟩ = some (.int .i64 q.node) := p0
    have p1 : w3.drew.cell? ⟨b, 1, none⟩ = some (.int .i64 tm) := p1
    have p2 : w3.drew.cell? ⟨b, 2, none⟩ = some (.int .i64 q.dist) := p2
    have X4 : w3.drew.cell? ⟨b, 3, none⟩ = some (.slice a k c) := X3.out
    have S4 : Soft w3.drew b := S3.out
    have hB4 : Below b w w3.drew := (((HBW.out.mono (Nat.le_of_lt HBB.out)).grown G3.out (Nat.le_trans (Nat.le_of_lt HBB.out) HBW.out.size) (fun j hj => by cases hj; exact Nat.le_refl _))).drew
    have hO4 : w3.drew.ownsRow (b + 1) 72 4 (.slice a k c) k (cellsV vs) :=
      ((((HOWN.out.alloc _).alloc _).drew.kept G3.out (by by_cases e : (Value.slice a k c).ownBlock = none; · exact .inl e
                                                          · exact .inr (fun e2 => by have := (HOWN.out.lt b e2).1; omega)))).drew
    have hbl : b < w3.drew.heap.size := Nat.lt_of_lt_of_le HBB.out hB4.size
    have hAl : w.heap.size + 1 < w3.drew.heap.size := World.block_lt_of_cell? _ _ o0
    have NA := Lib.hid (show some (w.heap.size + 1) ≠ (Value.slice a k c).ownBlock from fun e => by have := (HOWN.out.lt _ e.symm).2; omega)
    obtain ⟨w4, hw4⟩ : ∃ x, w3.drew = x := ⟨_, rfl⟩
    rw [hw4] at o0 o6 o7 p0 p1 p2 X4 S4 hB4 hO4 hbl hAl ⊢
    clear hw4
    obtain ⟨V, hV⟩ : ∃ V, (w4.alloc (.cells #[.int .i64 oid, .int .i64 tm, .int .i64 tm, .int .i64 (tm + oservice)] 72)).drew = V := ⟨_, rfl⟩
    have hbV : Below w4.heap.size w4 V := by rw [← hV]; exact (below_new w4 _).drew
    have SZ := Lib.hid (show V.heap.size = w4.heap.size + 1 by rw [← hV]; exact World.size_alloc _ _)
    have NEW := Lib.hid (show ∀ j u, ([.int .i64 oid, .int .i64 tm, .int .i64 tm, .int .i64 (tm + oservice)] : List Value)[j]? = some u → V.cell? ((⟨w4.heap.size, 0, none⟩ : Addr).add j) = some u by
      intro j u hu
      rw [Addr.add_lit, Nat.zero_add, ← hV]
      exact box_cell w4 #[.int .i64 oid, .int .i64 tm, .int .i64 tm, .int .i64 (tm + oservice)] 72 j u (by rw [← Array.getElem?_toList]; exact hu))
    have OWN := Lib.hid (show V.ownsRow (b + 1) 72 4 (.slice a k c) k (cellsV vs) by rw [← hV]; exact (hO4.alloc _).drew)
    have ONE := Lib.hid (show ∀ u ∈ ([.int .i64 oid, .int .i64 tm, .int .i64 tm, .int .i64 (tm + oservice)] : List Value), u.oneCell' = true by intro u hu; simp only [List.mem_cons, List.not_mem_nil, or_false] at hu; rcases hu with h | h | h | h <;> rw [h] <;> rfl)
    have BASE := Lib.hid (show b + 1 ≤ V.heap.size by rw [SZ.out]; omega)
    have SV := Lib.hid (show V.cell? ⟨w.heap.size + 1, 0, none⟩ = some (.int .i64 oid) ∧ V.cell? ⟨b, 1, none⟩ = some (.int .i64 tm) ∧ V.cell? ⟨w.heap.size + 1, 7, none⟩ = some (.int .i64 oservice) from ⟨cell_on hbV o0, cell_on hbV p1, cell_on hbV o7⟩)
    have XV := Lib.hid (cell_on hbV X4)
    have x3V := cell_on hbV X4
    have CV0 := Lib.hid (cell_on hbV p0)
    have CV2 := Lib.hid (cell_on hbV p2)
    have CV6 := Lib.hid (cell_on hbV o6)
    have FV := Lib.hid (show Soft V b from fun j => (hbV.frozen (p := ⟨b, j, none⟩) hbl).trans (S4 j))
    have HBV := Lib.hid (show Below b w V from hB4.trans (hbV.mono (Nat.le_of_lt hbl)))
    have HV := Lib.hid hV
    have HB4 := Lib.hid hbl
    clear hV hbV S4 hB4 hO4 hbl hAl o6 p0 p2 h
    refine wp_region_held_drew (S := fun w' => w'.cell? ⟨w.heap.size + 1, 0, none⟩ = some (.int .i64 oid) ∧ w'.cell? ⟨b, 1, none⟩ = some (.int .i64 tm) ∧ w'.cell? ⟨w.heap.size + 1, 7, none⟩ = some (.int .i64 oservice)) (by kernel_rfl) ⟨o0, p1, o7⟩ (fun hHeld => ?_)
    simp only [List.size_toArray, List.length_cons, List.length_nil, Nat.reduceAdd, Array.replicate_succ, Array.replicate_zero, List.push_toArray, List.nil_append, List.cons_append]
    refine wpAnyH_take (i := 0) (v := ?vt0_1) rfl (by kernel_rfl) (by kernel_rfl) (by kernel_rfl) (fun _ _ _ h => h) (Or.inl ⟨by rfl, ?hyt0_1⟩) (by assumption) ?rt0_1
    case hyt0_1 => intro w' hSw; obtain ⟨g1, g2, g3⟩ := hSw; simp only [List.getElem_toArray, List.getElem_cons_zero]; go_simp; try with_reducible rfl
    simp only [List.getElem_toArray, List.getElem_cons_zero, Act.put, List.setIfInBounds_toArray, List.set_cons_zero]
    refine wpAnyH_take (i := 1) (v := ?vt1_2) rfl (by kernel_rfl) (by kernel_rfl) (by kernel_rfl) (fun _ _ _ h => h) (Or.inl ⟨by rfl, ?hyt1_2⟩) (by assumption) ?rt1_2
    case hyt1_2 => intro w' hSw; obtain ⟨g1, g2, g3⟩ := hSw; simp only [List.getElem_toArray, List.getElem_cons_zero, List.getElem_cons_succ]; go_simp; try with_reducible rfl
    simp only [List.getElem_toArray, List.getElem_cons_zero, List.getElem_cons_succ, Act.put, List.setIfInBounds_toArray, List.set_cons_zero, List.set_cons_succ]
    refine wpAnyH_take (i := 2) (v := ?vt2_3) rfl (by kernel_rfl) (by kernel_rfl) (by kernel_rfl) (fun _ _ _ h => h) (Or.inl ⟨by rfl, ?hyt2_3⟩) (by assumption) ?rt2_3
    case hyt2_3 => intro w' hSw; obtain ⟨g1, g2, g3⟩ := hSw; simp only [List.getElem_toArray, List.getElem_cons_zero, List.getElem_cons_succ]; go_simp; try with_reducible rfl
    simp only [List.getElem_toArray, List.getElem_cons_zero, List.getElem_cons_succ, Act.put, List.setIfInBounds_toArray, List.set_cons_zero, List.set_cons_succ]
    refine wpAnyH_take (i := 3) (v := ?vt3_4) rfl (by kernel_rfl) (by kernel_rfl) (by kernel_rfl) (fun _ _ _ h => h) (Or.inl ⟨by rfl, ?hyt3_4⟩) (by assumption) ?rt3_4
    case hyt3_4 => intro w' hSw; obtain ⟨g1, g2, g3⟩ := hSw; simp only [List.getElem_toArray, List.getElem_cons_zero, List.getElem_cons_succ]; go_simp; try with_reducible rfl
    simp only [List.getElem_toArray, List.getElem_cons_zero, List.getElem_cons_succ, Act.put, List.setIfInBounds_toArray, List.set_cons_zero, List.set_cons_succ]
    refine wpAnyH_take (i := 5) (v := ?vt5_5) rfl (by kernel_rfl) (by kernel_rfl) (by kernel_rfl) (fun _ _ _ h => h) (Or.inl ⟨by rfl, ?hyt5_5⟩) (by assumption) ?rt5_5
    case hyt5_5 => intro w' hSw; obtain ⟨g1, g2, g3⟩ := hSw; simp only [List.getElem_toArray, List.getElem_cons_zero, List.getElem_cons_succ]; go_simp; try with_reducible rfl
    simp only [List.getElem_toArray, List.getElem_cons_zero, List.getElem_cons_succ, Act.put, List.setIfInBounds_toArray, List.set_cons_zero, List.set_cons_succ]
    refine wpAnyH_take (i := 6) (v := ?vt6_6) rfl (by kernel_rfl) (by kernel_rfl) (by kernel_rfl) (fun _ _ _ h => h) (Or.inl ⟨by rfl, ?hyt6_6⟩) (by assumption) ?rt6_6
    case hyt6_6 => intro w' hSw; obtain ⟨g1, g2, g3⟩ := hSw; simp only [List.getElem_toArray, List.getElem_cons_zero, List.getElem_cons_succ]; go_simp; try with_reducible rfl
    simp only [List.getElem_toArray, List.getElem_cons_zero, List.getElem_cons_succ, Act.put, List.setIfInBounds_toArray, List.set_cons_zero, List.set_cons_succ]
    refine wpAnyH_take (i := 7) (v := ?vt7_7) rfl (by kernel_rfl) (by kernel_rfl) (by kernel_rfl) (fun _ _ _ h => h) (Or.inl ⟨by rfl, ?hyt7_7⟩) (by assumption) ?rt7_7
    case hyt7_7 => intro w' hSw; obtain ⟨g1, g2, g3⟩ := hSw; simp only [List.getElem_toArray, List.getElem_cons_zero, List.getElem_cons_succ]; go_simp; try with_reducible rfl
    simp only [List.getElem_toArray, List.getElem_cons_zero, List.getElem_cons_succ, Act.put, List.setIfInBounds_toArray, List.set_cons_zero, List.set_cons_succ]
    refine wpAnyH_take (i := 8) (v := ?vt8_8) rfl (by kernel_rfl) (by kernel_rfl) (by kernel_rfl) (fun _ _ _ h => h) (Or.inl ⟨by rfl, ?hyt8_8⟩) (by assumption) ?rt8_8
    case hyt8_8 => intro w' hSw; obtain ⟨g1, g2, g3⟩ := hSw; simp only [List.getElem_toArray, List.getElem_cons_zero, List.getElem_cons_succ]; go_simp; try with_reducible rfl
    simp only [List.getElem_toArray, List.getElem_cons_zero, List.getElem_cons_succ, Act.put, List.setIfInBounds_toArray, List.set_cons_zero, List.set_cons_succ]
    refine wpAnyH_take (i := 9) (v := ?vt9_9) rfl (by kernel_rfl) (by kernel_rfl) (by kernel_rfl) (fun _ _ _ h => h) (Or.inl ⟨by rfl, ?hyt9_9⟩) (by assumption) ?rt9_9
    case hyt9_9 => intro w' hSw; obtain ⟨g1, g2, g3⟩ := hSw; simp only [List.getElem_toArray, List.getElem_cons_zero, List.getElem_cons_succ]; go_simp; try with_reducible rfl
    simp only [List.getElem_toArray, List.getElem_cons_zero, List.getElem_cons_succ, Act.put, List.setIfInBounds_toArray, List.set_cons_zero, List.set_cons_succ]
    refine wpAnyH_take (i := 10) (v := ?vt10_10) rfl (by kernel_rfl) (by kernel_rfl) (by kernel_rfl) (fun _ _ _ h => h) (Or.inl ⟨by rfl, ?hyt10_10⟩) (by assumption) ?rt10_10
    case hyt10_10 => intro w' hSw; obtain ⟨g1, g2, g3⟩ := hSw; simp only [List.getElem_toArray, List.getElem_cons_zero, List.getElem_cons_succ]; go_simp; try with_reducible rfl
    simp only [List.getElem_toArray, List.getElem_cons_zero, List.getElem_cons_succ, Act.put, List.setIfInBounds_toArray, List.set_cons_zero, List.set_cons_succ]
    refine wpAnyH_take (i := 11) (v := ?vt11_11) rfl (by kernel_rfl) (by kernel_rfl) (by kernel_rfl) (fun _ _ _ h => h) (Or.inl ⟨by rfl, ?hyt11_11⟩) (by assumption) ?rt11_11
    case hyt11_11 => intro w' hSw; obtain ⟨g1, g2, g3⟩ := hSw; simp only [List.getElem_toArray, List.getElem_cons_zero, List.getElem_cons_succ]; go_simp; try with_reducible rfl
    simp only [List.getElem_toArray, List.getElem_cons_zero, List.getElem_cons_succ, Act.put, List.setIfInBounds_toArray, List.set_cons_zero, List.set_cons_succ]
    refine wpAnyH_take (i := 12) (v := ?vt12_12) rfl (by kernel_rfl) (by kernel_rfl) (by kernel_rfl) (fun _ _ _ h => h) (Or.inl ⟨by rfl, ?hyt12_12⟩) (by assumption) ?rt12_12
    case hyt12_12 => intro w' hSw; obtain ⟨g1, g2, g3⟩ := hSw; simp only [List.getElem_toArray, List.getElem_cons_zero, List.getElem_cons_succ]; go_simp; try with_reducible rfl
    simp only [List.getElem_toArray, List.getElem_cons_zero, List.getElem_cons_succ, Act.put, List.setIfInBounds_toArray, List.set_cons_zero, List.set_cons_succ]
    refine wpAnyH_take (i := 13) (v := ?vt13_13) rfl (by kernel_rfl) (by kernel_rfl) (by kernel_rfl) (fun _ _ _ h => h) (Or.inl ⟨by rfl, ?hyt13_13⟩) (by assumption) ?rt13_13
    case hyt13_13 => intro w' hSw; obtain ⟨g1, g2, g3⟩ := hSw; simp only [List.getElem_toArray, List.getElem_cons_zero, List.getElem_cons_succ]; go_simp; try with_reducible rfl
    simp only [List.getElem_toArray, List.getElem_cons_zero, List.getElem_cons_succ, Act.put, List.setIfInBounds_toArray, List.set_cons_zero, List.set_cons_succ]
    refine wpAnyH_take (i := 14) (v := ?vt14_14) rfl (by kernel_rfl) (by kernel_rfl) (by kernel_rfl) (fun _ _ _ h => h) (Or.inl ⟨by rfl, ?hyt14_14⟩) (by assumption) ?rt14_14
    case hyt14_14 => intro w' hSw; obtain ⟨g1, g2, g3⟩ := hSw; simp only [List.getElem_toArray, List.getElem_cons_zero, List.getElem_cons_succ]; go_simp; try with_reducible rfl
    simp only [List.getElem_toArray, List.getElem_cons_zero, List.getElem_cons_succ, Act.put, List.setIfInBounds_toArray, List.set_cons_zero, List.set_cons_succ]
    refine wpAnyH_take (i := 15) (v := ?vt15_15) rfl (by kernel_rfl) (by kernel_rfl) (by kernel_rfl) (fun _ _ _ h => h) (Or.inl ⟨by rfl, ?hyt15_15⟩) (by assumption) ?rt15_15
    case hyt15_15 => intro w' hSw; obtain ⟨g1, g2, g3⟩ := hSw; simp only [List.getElem_toArray, List.getElem_cons_zero, List.getElem_cons_succ]; go_simp; try with_reducible rfl
    simp only [List.getElem_toArray, List.getElem_cons_zero, List.getElem_cons_succ, Act.put, List.setIfInBounds_toArray, List.set_cons_zero, List.set_cons_succ]
    refine wpAnyH_take (i := 16) (v := ?vt16_16) rfl (by kernel_rfl) (by kernel_rfl) (by kernel_rfl) (fun _ _ _ h => h) (Or.inl ⟨by rfl, ?hyt16_16⟩) (by assumption) ?rt16_16
    case hyt16_16 => intro w' hSw; obtain ⟨g1, g2, g3⟩ := hSw; simp only [List.getElem_toArray, List.getElem_cons_zero, List.getElem_cons_succ]; go_simp; try with_reducible rfl
    simp only [List.getElem_toArray, List.getElem_cons_zero, List.getElem_cons_succ, Act.put, List.setIfInBounds_toArray, List.set_cons_zero, List.set_cons_succ]
    refine wpAnyH_take (i := 17) (v := ?vt17_17) rfl (by kernel_rfl) (by kernel_rfl) (by kernel_rfl) (fun _ _ _ h => h) (Or.inl ⟨by rfl, ?hyt17_17⟩) (by assumption) ?rt17_17
    case hyt17_17 => intro w' hSw; obtain ⟨g1, g2, g3⟩ := hSw; simp only [List.getElem_toArray, List.getElem_cons_zero, List.getElem_cons_succ]; go_simp; try with_reducible rfl
    simp only [List.getElem_toArray, List.getElem_cons_zero, List.getElem_cons_succ, Act.put, List.setIfInBounds_toArray, List.set_cons_zero, List.set_cons_succ]
    refine wpAnyH_ready (rs := [4, 18]) (by kernel_rfl) (by simp) ?_
    refine AllReadyH.cons rfl (fun K hK => ?_) ?_
    · go_simp
      refine hK.out _ _ ⟨o0, p1, o7⟩ (fun _ => ?_)
      clear hK K
      refine wpAnyH_ready (rs := [18]) (by kernel_rfl) (by simp) ?_
      refine AllReadyH.cons rfl (fun K hK => ?_) ?_
      · go_simp
        rw [HV.out]
        refine hK.out _ _ SV.out (fun hHeldV => ?_)
        clear hK K
        refine wpAnyH_ready (rs := [19]) (by kernel_rfl) (by simp) ?_
        refine AllReadyH.cons rfl (fun K hK => ?_) ?_
        · refine step_append_lies _ rfl _ _ 57 rfl (b + 1) 72 i0 _ 4 32 Try.underlying57 HI.out HZ0.out HZ1.out HZ2.out rfl (by decide) (.slice a k c) k _ rfl OWN.out ⟨w4.heap.size, 0, none⟩ 1 1 [.int .i64 oid, .int .i64 tm, .int .i64 tm, .int .i64 (tm + oservice)] rfl rfl NEW.out ONE.out (by omega) (by unfold maxLen; omega) (by omega) BASE.out (w4.heap.size + 1) SZ.out ?_
          intro g1 p1 w5 q1 q2 q3 q4
          have n1 := ownR_ne OWN.out (show b < b + 1 by omega)
          have far5 : ∀ c2 j x, V.cell? ⟨c2, j, none⟩ = some x → (c2 = b ∨ c2 = w.heap.size + 1) → some c2 ≠ (Value.slice a k c).ownBlock → w5.cell? ⟨c2, j, none⟩ = some x := fun c2 j x h _ hne => grownR_cell q2 h hne
          have n2 := NA.out
          have S9 : w5.cell? ⟨w.heap.size + 1, 0, none⟩ = some (.int .i64 oid) ∧ w5.cell? ⟨b, 1, none⟩ = some (.int .i64 tm) ∧ w5.cell? ⟨w.heap.size + 1, 7, none⟩ = some (.int .i64 oservice) := ⟨grownR_cell q2 SV.out.1 n2, grownR_cell q2 SV.out.2.1 n1, grownR_cell q2 SV.out.2.2 n2⟩
          have HS9 := Lib.hid S9
          have x3 := grownR_cell q2 XV.out n1
          have fz : ∀ j, w5.frozen? ⟨b, j, none⟩ = false := fun j => (q2.frozen_far _ (by show b < V.heap.size; rw [SZ.out]; have := HB4.out; omega) n1).trans (FV.out j)
          have c50 := Lib.hid (grownR_cell q2 CV0.out n1)
          have c52 := Lib.hid (grownR_cell q2 CV2.out n1)
          have c56 := grownR_cell q2 CV6.out n2
          have Q1 := Lib.hid q1
          have Q2 := Lib.hid q2
          clear q1 q2 q3 q4 n1 n2 far5
          refine hK.out _ _ S9 (fun hHeld9 => ?_)
          clear hK K
          refine wpAnyH_take (i := 20) (v := ?vt20_18) rfl (by kernel_rfl) (by kernel_rfl) (by kernel_rfl) (fun _ _ _ h => h) (Or.inl ⟨by rfl, ?hyt20_18⟩) (by assumption) ?rt20_18
          case hyt20_18 => intro w' hSw; obtain ⟨g1, g2, g3⟩ := hSw; simp only [List.getElem_toArray, List.getElem_cons_zero, List.getElem_cons_succ]; go_simp; try with_reducible rfl
          simp only [List.getElem_toArray, List.getElem_cons_zero, List.getElem_cons_succ, Act.put, List.setIfInBounds_toArray, List.set_cons_zero, List.set_cons_succ]
          refine wpAnyH_take (i := 21) (v := ?vt21_19) rfl (by kernel_rfl) (by kernel_rfl) (by kernel_rfl) (fun _ _ _ h => h) (Or.inl ⟨by rfl, ?hyt21_19⟩) (by assumption) ?rt21_19
          case hyt21_19 => intro w' hSw; obtain ⟨g1, g2, g3⟩ := hSw; simp only [List.getElem_toArray, List.getElem_cons_zero, List.getElem_cons_succ]; go_simp; try with_reducible rfl
          simp only [List.getElem_toArray, List.getElem_cons_zero, List.getElem_cons_succ, Act.put, List.setIfInBounds_toArray, List.set_cons_zero, List.set_cons_succ]
          refine wpAnyH_ready (rs := [22]) (by kernel_rfl) (by simp) ?_
          refine AllReadyH.cons rfl (fun K hK => ?_) ?_
          · go_simp
            refine hK.out _ _ ⟨setR_far (by have := HBB.out; omega) HS9.out.1, cell_set_other HS9.out.2.1 (by omega), setR_far (by have := HBB.out; omega) HS9.out.2.2⟩ (fun _ => ?_)
            clear hK K
            refine wpAnyH_done (by kernel_rfl) ?_ _
            have hne : b ≠ w.heap.size + 1 := by have := HBB.out; omega
            have u1 := cell_set_other (j := 3) (u := .slice (some ⟨g1, 0, none⟩) (k + 1) p1) HS9.out.2.1 (by omega)
            have u7 := setR_far (j := 3) (u := .slice (some ⟨g1, 0, none⟩) (k + 1) p1) hne HS9.out.2.2
            have u6 := setR_far (j := 1) (u := .int .i64 (tm + oservice)) hne (setR_far (j := 3) (u := .slice (some ⟨g1, 0, none⟩) (k + 1) p1) hne c56)
            have uf : (w5.setCell ⟨b, 3, none⟩ (.slice (some ⟨g1, 0, none⟩) (k + 1) p1)).frozen? ⟨b, 1, none⟩ = false := by rw [World.frozen?_setCell]; exact fz 1
            have E3 := Lib.hid (World.cell?_setCell_same w5 ⟨b, 3, none⟩ (.slice (some ⟨g1, 0, none⟩) (k + 1) p1) x3)
            have E1 := Lib.hid (World.cell?_setCell_same (w5.setCell ⟨b, 3, none⟩ (.slice (some ⟨g1, 0, none⟩) (k + 1) p1)) ⟨b, 1, none⟩ (.int .i64 (tm + oservice)) u1)
            have FZ := Lib.hid fz
            have HU1 := Lib.hid u1
            clear fz x3 S9
            go_wp2_with fail
            go_ret
            refine ⟨ret_bool (a := decide (tm ≤ oto)) (by rw [HMX.out]), some ⟨g1, 0, none⟩, p1, ⟨?_, ?_, ?_⟩, ?_, ?_, ?_, ?_⟩
            · exact cell_set_other (cell_set_other (by have h := c50.out; rw [HQN.out] at h; exact h) (by omega)) (by omega)
            · have h := E1.out; unfold nextP; dsimp only; rw [HMX.out]; exact h
            · exact cell_set_other (cell_set_other (by have h := c52.out; rw [HQD.out] at h; exact h) (by omega)) (by omega)
            · exact cell_set_other E3.out (by omega)
            · intro j; rw [World.frozen?_setCell, World.frozen?_setCell]; exact FZ.out j
            · have hcs : cellsV vs ++ [.int .i64 oid, .int .i64 tm, .int .i64 tm, .int .i64 (tm + oservice)] = cellsV (vs ++ [visOf n T p ⟨oid, oowner, onode, oweight, ovolume, ofrm, oto, oservice⟩]) := by
                unfold cellsV; rw [List.flatMap_append]; congr 1
                unfold visOf Vis.cells; dsimp only; rw [HMX.out, ← HTB.out]; rfl
              rw [← hcs]
              exact ownsRow_setCell_below (ownsRow_setCell_below Q1.out (show b < b + 1 by omega) _) (show b < b + 1 by omega) _
            · exact ((HBV.out.grown Q2.out (by have := BASE.out; omega) (fun j hj => by have := (OWN.out.lt j hj).1; omega)).setCell (Nat.le_refl _) _).setCell (Nat.le_refl _) _
          exact AllReadyH.nil
        exact AllReadyH.nil
      exact AllReadyH.nil
    refine AllReadyH.cons rfl (fun K hK => ?_) ?_
    · go_simp
      rw [HV.out]
      refine hK.out _ _ SV.out (fun hHeldV => ?_)
      clear hK K
      refine wpAnyH_ready (rs := [4]) (by kernel_rfl) (by simp) ?_
      refine AllReadyH.cons rfl (fun K hK => ?_) ?_
      · go_simp
        refine hK.out _ _ SV.out (fun _ => ?_)
        clear hK K
        refine wpAnyH_ready (rs := [19]) (by kernel_rfl) (by simp) ?_
        refine AllReadyH.cons rfl (fun K hK => ?_) ?_
        · refine step_append_lies _ rfl _ _ 57 rfl (b + 1) 72 i0 _ 4 32 Try.underlying57 HI.out HZ0.out HZ1.out HZ2.out rfl (by decide) (.slice a k c) k _ rfl OWN.out ⟨w4.heap.size, 0, none⟩ 1 1 [.int .i64 oid, .int .i64 tm, .int .i64 tm, .int .i64 (tm + oservice)] rfl rfl NEW.out ONE.out (by omega) (by unfold maxLen; omega) (by omega) BASE.out (w4.heap.size + 1) SZ.out ?_
          intro g1 p1 w5 q1 q2 q3 q4
          have n1 := ownR_ne OWN.out (show b < b + 1 by omega)
          have far5 : ∀ c2 j x, V.cell? ⟨c2, j, none⟩ = some x → (c2 = b ∨ c2 = w.heap.size + 1) → some c2 ≠ (Value.slice a k c).ownBlock → w5.cell? ⟨c2, j, none⟩ = some x := fun c2 j x h _ hne => grownR_cell q2 h hne
          have n2 := NA.out
          have S9 : w5.cell? ⟨w.heap.size + 1, 0, none⟩ = some (.int .i64 oid) ∧ w5.cell? ⟨b, 1, none⟩ = some (.int .i64 tm) ∧ w5.cell? ⟨w.heap.size + 1, 7, none⟩ = some (.int .i64 oservice) := ⟨grownR_cell q2 SV.out.1 n2, grownR_cell q2 SV.out.2.1 n1, grownR_cell q2 SV.out.2.2 n2⟩
          have HS9 := Lib.hid S9
          have x3 := grownR_cell q2 XV.out n1
          have fz : ∀ j, w5.frozen? ⟨b, j, none⟩ = false := fun j => (q2.frozen_far _ (by show b < V.heap.size; rw [SZ.out]; have := HB4.out; omega) n1).trans (FV.out j)
          have c50 := Lib.hid (grownR_cell q2 CV0.out n1)
          have c52 := Lib.hid (grownR_cell q2 CV2.out n1)
          have c56 := grownR_cell q2 CV6.out n2
          have Q1 := Lib.hid q1
          have Q2 := Lib.hid q2
          clear q1 q2 q3 q4 n1 n2 far5
          refine hK.out _ _ S9 (fun hHeld9 => ?_)
          clear hK K
          refine wpAnyH_take (i := 20) (v := ?vt20_20) rfl (by kernel_rfl) (by kernel_rfl) (by kernel_rfl) (fun _ _ _ h => h) (Or.inl ⟨by rfl, ?hyt20_20⟩) (by assumption) ?rt20_20
          case hyt20_20 => intro w' hSw; obtain ⟨g1, g2, g3⟩ := hSw; simp only [List.getElem_toArray, List.getElem_cons_zero, List.getElem_cons_succ]; go_simp; try with_reducible rfl
          simp only [List.getElem_toArray, List.getElem_cons_zero, List.getElem_cons_succ, Act.put, List.setIfInBounds_toArray, List.set_cons_zero, List.set_cons_succ]
          refine wpAnyH_take (i := 21) (v := ?vt21_21) rfl (by kernel_rfl) (by kernel_rfl) (by kernel_rfl) (fun _ _ _ h => h) (Or.inl ⟨by rfl, ?hyt21_21⟩) (by assumption) ?rt21_21
          case hyt21_21 => intro w' hSw; obtain ⟨g1, g2, g3⟩ := hSw; simp only [List.getElem_toArray, List.getElem_cons_zero, List.getElem_cons_succ]; go_simp; try with_reducible rfl
          simp only [List.getElem_toArray, List.getElem_cons_zero, List.getElem_cons_succ, Act.put, List.setIfInBounds_toArray, List.set_cons_zero, List.set_cons_succ]
          refine wpAnyH_ready (rs := [22]) (by kernel_rfl) (by simp) ?_
          refine AllReadyH.cons rfl (fun K hK => ?_) ?_
          · go_simp
            refine hK.out _ _ ⟨setR_far (by have := HBB.out; omega) HS9.out.1, cell_set_other HS9.out.2.1 (by omega), setR_far (by have := HBB.out; omega) HS9.out.2.2⟩ (fun _ => ?_)
            clear hK K
            refine wpAnyH_done (by kernel_rfl) ?_ _
            have hne : b ≠ w.heap.size + 1 := by have := HBB.out; omega
            have u1 := cell_set_other (j := 3) (u := .slice (some ⟨g1, 0, none⟩) (k + 1) p1) HS9.out.2.1 (by omega)
            have u7 := setR_far (j := 3) (u := .slice (some ⟨g1, 0, none⟩) (k + 1) p1) hne HS9.out.2.2
            have u6 := setR_far (j := 1) (u := .int .i64 (tm + oservice)) hne (setR_far (j := 3) (u := .slice (some ⟨g1, 0, none⟩) (k + 1) p1) hne c56)
            have uf : (w5.setCell ⟨b, 3, none⟩ (.slice (some ⟨g1, 0, none⟩) (k + 1) p1)).frozen? ⟨b, 1, none⟩ = false := by rw [World.frozen?_setCell]; exact fz 1
            have E3 := Lib.hid (World.cell?_setCell_same w5 ⟨b, 3, none⟩ (.slice (some ⟨g1, 0, none⟩) (k + 1) p1) x3)
            have E1 := Lib.hid (World.cell?_setCell_same (w5.setCell ⟨b, 3, none⟩ (.slice (some ⟨g1, 0, none⟩) (k + 1) p1)) ⟨b, 1, none⟩ (.int .i64 (tm + oservice)) u1)
            have FZ := Lib.hid fz
            have HU1 := Lib.hid u1
            clear fz x3 S9
            go_wp2_with fail
            go_ret
            refine ⟨ret_bool (a := decide (tm ≤ oto)) (by rw [HMX.out]), some ⟨g1, 0, none⟩, p1, ⟨?_, ?_, ?_⟩, ?_, ?_, ?_, ?_⟩
            · exact cell_set_other (cell_set_other (by have h := c50.out; rw [HQN.out] at h; exact h) (by omega)) (by omega)
            · have h := E1.out; unfold nextP; dsimp only; rw [HMX.out]; exact h
            · exact cell_set_other (cell_set_other (by have h := c52.out; rw [HQD.out] at h; exact h) (by omega)) (by omega)
            · exact cell_set_other E3.out (by omega)
            · intro j; rw [World.frozen?_setCell, World.frozen?_setCell]; exact FZ.out j
            · have hcs : cellsV vs ++ [.int .i64 oid, .int .i64 tm, .int .i64 tm, .int .i64 (tm + oservice)] = cellsV (vs ++ [visOf n T p ⟨oid, oowner, onode, oweight, ovolume, ofrm, oto, oservice⟩]) := by
                unfold cellsV; rw [List.flatMap_append]; congr 1
                unfold visOf Vis.cells; dsimp only; rw [HMX.out, ← HTB.out]; rfl
              rw [← hcs]
              exact ownsRow_setCell_below (ownsRow_setCell_below Q1.out (show b < b + 1 by omega) _) (show b < b + 1 by omega) _
            · exact ((HBV.out.grown Q2.out (by have := BASE.out; omega) (fun j hj => by have := (OWN.out.lt j hj).1; omega)).setCell (Nat.le_refl _) _).setCell (Nat.le_refl _) _
          exact AllReadyH.nil
        exact AllReadyH.nil
      exact AllReadyH.nil
    exact AllReadyH.nil
end Go.Proofs.Ytakiciemkecgfaa.Route

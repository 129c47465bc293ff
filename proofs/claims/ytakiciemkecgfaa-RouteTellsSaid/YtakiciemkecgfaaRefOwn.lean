/-
  The walks of RouteTells' own (a trip of the document's) and of the reference's Same.
-/
import Derived.Test.YtakiciemkecgfaaRefRunA
namespace Go.Proofs.Ytakiciemkecgfaa.Route
open Go.RowKit Go.Proofs Go.Proofs.Ytakiciemkecgfaa.AreaMath Go.Proofs.Ytakiciemkecgfaa.Area Go.Proofs.Ytakiciemkecgfaa.Load Go.Proofs.Ytakiciemkecgfaa.Append
set_option maxRecDepth 100000
set_option linter.unusedVariables false

theorem results_cell_one {fn : Func} {p : Tmp} {ty : TypeId} (h : fn.results = #[.cell p ty]) (tmps : Array Value) (P : Program) (w : World) :
    (results fn tmps).run P w = ((asAddr (tmps.getD p undef)).run P w).andThen fun a w₁ => (loadVar ty a).run P w₁ := by
  simp only [results, h]
  simp [Sem.run_bind, Result.andThen]
theorem own_results (tmps : Array Value) (W : World) (b : Nat) (a : Option Addr) (k c : Nat) (x1 x2 x3 : Int) (hp : tmps.getD 2 undef = .pointer (some ⟨b, 0, none⟩)) (c0 : W.cell? ⟨b, 0, none⟩ = some (.slice a k c)) (c1 : W.cell? ⟨b, 1, none⟩ = some (.int .i64 x1)) (c2 : W.cell? ⟨b, 2, none⟩ = some (.int .i64 x2)) (c3 : W.cell? ⟨b, 3, none⟩ = some (.int .i64 x3)) :
    (results Try.f40 tmps).run Try.prog W = .ok (.agg #[.slice a k c, .int .i64 x1, .int .i64 x2, .int .i64 x3]) W := by
  rw [results_cell_one rfl, hp]
  go_simp
theorem own_done {Post : Ending → World → Prop} {act : Act} {w1 : World} {b : Nat} (hz : ZBox w1 b) (a : Option Addr) (k c : Nat) (x1 x2 x3 : Int) (hp : act.tmps.getD 2 undef = .pointer (some ⟨b, 0, none⟩)) (hd : act.defers = [])
    (hR : Post (.returned (.agg #[.slice a k c, .int .i64 x1, .int .i64 x2, .int .i64 x3])) ((((w1.setCell ⟨b, 0, none⟩ (.slice a k c)).setCell ⟨b, 1, none⟩ (.int .i64 x1)).setCell ⟨b, 2, none⟩ (.int .i64 x2)).setCell ⟨b, 3, none⟩ (.int .i64 x3))) :
    bodyPost Try.prog Try.f40 Post .ret act ((((w1.setCell ⟨b, 0, none⟩ (.slice a k c)).setCell ⟨b, 1, none⟩ (.int .i64 x1)).setCell ⟨b, 2, none⟩ (.int .i64 x2)).setCell ⟨b, 3, none⟩ (.int .i64 x3)) := by
  obtain ⟨c0, c1, c2, c3⟩ := put4 hz (.slice a k c) (.int .i64 x1) (.int .i64 x2) (.int .i64 x3)
  refine bodyPost_ret (own_results act.tmps _ b a k c x1 x2 x3 hp c0 c1 c2 c3) hd ?_
  exact hR
structure OwnSt (b : Nat) (w4 wr : World) (l : List Vis) (x1 x2 x3 : Int) (j : Nat) (a2 : Option Addr) (c2 : Nat) : Prop where
  z0 : wr.cell? ⟨b, 0, none⟩ = some (.slice a2 j c2)
  z1 : wr.cell? ⟨b, 1, none⟩ = some (.int .i64 x1)
  z2 : wr.cell? ⟨b, 2, none⟩ = some (.int .i64 x2)
  z3 : wr.cell? ⟨b, 3, none⟩ = some (.int .i64 x3)
  sf : Soft wr b
  own : wr.ownsRow (b + 1) 102 4 (.slice a2 j c2) j (cellsV (l.take j))
  bel : Below b w4 wr
theorem ownSt_start (w4 : World) (l : List Vis) (x1 x2 x3 : Int) : OwnSt w4.heap.size w4 (w4.alloc (.cells #[.slice none 0 0, .int .i64 x1, .int .i64 x2, .int .i64 x3] 64)) l x1 x2 x3 0 none 0 :=
  ⟨box_cell _ _ _ 0 _ rfl, box_cell _ _ _ 1 _ rfl, box_cell _ _ _ 2 _ rfl, box_cell _ _ _ 3 _ rfl, fun j => World.frozen?_alloc_new _ _ _ _, by simpa [cellsV] using World.ownsRow_nil _ _ _ _, below_new _ _⟩
theorem OwnSt.on {b : Nat} {w4 wr w1 : World} {l : List Vis} {x1 x2 x3 : Int} {j : Nat} {a2 : Option Addr} {c2 : Nat} (h : OwnSt b w4 wr l x1 x2 x3 j a2 c2) (hb : Below wr.heap.size wr w1) : OwnSt b w4 w1 l x1 x2 x3 j a2 c2 :=
  have hlt := World.block_lt_of_cell? _ _ h.z0
  ⟨cell_on hb h.z0, cell_on hb h.z1, cell_on hb h.z2, cell_on hb h.z3, h.sf.on hlt hb, row_on h.own hb, h.bel.trans (hb.mono (Nat.le_of_lt hlt))⟩
theorem own_below {b : Nat} {w4 wr w1 : World} {l : List Vis} {x1 x2 x3 : Int} {j : Nat} {a2 : Option Addr} {c2 : Nat} (h : OwnSt b w4 wr l x1 x2 x3 j a2 c2) (hb : Below wr.heap.size wr w1) : Below b w4 w1 := (h.on hb).bel
theorem visits_snoc (l : List Vis) (k : Nat) (hk : k < l.length) : cellsV (l.take k) ++ (visAt l k).cells.toList = cellsV (l.take (k + 1)) := by
  rw [List.take_add_one, List.getElem?_eq_getElem hk]
  unfold cellsV visAt
  rw [List.flatMap_append, List.getD_eq_getElem?_getD, List.getElem?_eq_getElem hk]
  simp

set_option maxHeartbeats 8000000 in
theorem rown_any (l : List Vis) (a : Option Addr) (k c : Nat) (x1 x2 x3 : Int) (w : World) (hl : l.length = k) (hk : k ≤ 1000) (hr : ReadsV w a l) :
    Calls Try.prog 40 #[.agg #[.slice a k c, .int .i64 x1, .int .i64 x2, .int .i64 x3]] w fun e w' => ∃ a' c', e = .returned (.agg #[.slice a' k c', .int .i64 x1, .int .i64 x2, .int .i64 x3]) ∧ ReadsV w' a' l ∧ Below w.heap.size w w' := by
  have HL := Lib.hid hl; have HR := Lib.hid hr
  have e2 : ((w.alloc (.cells #[.slice a k c, .int .i64 x1, .int .i64 x2, .int .i64 x3] 59)).alloc (.cells #[.slice none 0 0, .int .i64 0, .int .i64 0, .int .i64 0] 64)).heap.size = w.heap.size + 1 + 1 := by rw [World.size_alloc, World.size_alloc]
  have e1 : (w.alloc (.cells #[.slice a k c, .int .i64 x1, .int .i64 x2, .int .i64 x3] 59)).heap.size = w.heap.size + 1 := by rw [World.size_alloc]
  have HST := Lib.hid (ownSt_start ((w.alloc (.cells #[.slice a k c, .int .i64 x1, .int .i64 x2, .int .i64 x3] 59)).alloc (.cells #[.slice none 0 0, .int .i64 0, .int .i64 0, .int .i64 0] 64)) l x1 x2 x3)
  rw [e2] at HST
  have HB := Lib.hid (below_on (below_new w (.cells #[.slice a k c, .int .i64 x1, .int .i64 x2, .int .i64 x3] 59)) (below_new (w.alloc (.cells #[.slice a k c, .int .i64 x1, .int .i64 x2, .int .i64 x3] 59)) (.cells #[.slice none 0 0, .int .i64 0, .int .i64 0, .int .i64 0] 64)))
  have HZ : Hid (ZBox ((w.alloc (.cells #[.slice a k c, .int .i64 x1, .int .i64 x2, .int .i64 x3] 59)).alloc (.cells #[.slice none 0 0, .int .i64 0, .int .i64 0, .int .i64 0] 64)) (w.heap.size + 1)) := by
    show ZBox _ _
    rw [← e1]
    exact ⟨box_cell _ _ _ 0 _ rfl, box_cell _ _ _ 1 _ rfl, box_cell _ _ _ 2 _ rfl, box_cell _ _ _ 3 _ rfl⟩
  have HZF : Hid (Soft ((w.alloc (.cells #[.slice a k c, .int .i64 x1, .int .i64 x2, .int .i64 x3] 59)).alloc (.cells #[.slice none 0 0, .int .i64 0, .int .i64 0, .int .i64 0] 64)) (w.heap.size + 1)) := by
    intro j
    rw [← e1]
    exact World.frozen?_alloc_new _ _ _ _
  have E2 := Lib.hid e2
  clear hl hr e1 e2
  go_enter Try.func40, Try.ntmps40
  go_wp2_with fail
  obtain ⟨WA, hWA⟩ : ∃ W, (w.alloc (.cells #[.slice a k c, .int .i64 x1, .int .i64 x2, .int .i64 x3] 59)).alloc (.cells #[.slice none 0 0, .int .i64 0, .int .i64 0, .int .i64 0] 64) = W := ⟨_, rfl⟩
  rw [hWA] at HST HB HZ HZF E2 ⊢
  clear hWA
  go_loopw [16] (fun i wr => ∃ (j : Nat) (a2 : Option Addr) (c2 : Nat), j ≤ k ∧ i = .int .i64 j ∧ OwnSt (w.heap.size + 1 + 1) WA wr l x1 x2 x3 j a2 c2) (fun i wr => k - (intOf i).toNat)
  case atStart => exact ⟨0, none, 0, by omega, rfl, HST.out⟩
  case round =>
    obtain ⟨j, a2, c2, hj, rfl, hT⟩ := hrel
    have HT := Lib.hid hT; clear hT
    have HBW := Lib.hid (below_on HB.out (show Below WA.heap.size WA wr by rw [E2.out]; exact HT.out.bel))
    by_cases hlt : j < k
    · have hjl : j < l.length := by rw [HL.out]; exact hlt
      obtain ⟨vb, voff, ha, hc⟩ := (HR.out.below HBW.out) (by omega)
      have hcj := hc j hjl
      have HSN := Lib.hid (visits_snoc l j hjl)
      subst ha
      clear hc hjl
      obtain ⟨v, hv⟩ : ∃ v, visAt l j = v := ⟨_, rfl⟩
      rw [hv] at hcj HSN
      clear hv
      obtain ⟨v0, v1, v2, v3⟩ := v
      have c0 : wr.cell? ⟨vb, voff + j * 4, none⟩ = some (.int .i64 v0) := hcj 0 _ rfl
      have c1 : wr.cell? ⟨vb, voff + j * 4 + 1, none⟩ = some (.int .i64 v1) := hcj 1 _ rfl
      have c2' : wr.cell? ⟨vb, voff + j * 4 + 2, none⟩ = some (.int .i64 v2) := hcj 2 _ rfl
      have c3 : wr.cell? ⟨vb, voff + j * 4 + 3, none⟩ = some (.int .i64 v3) := hcj 3 _ rfl
      clear hcj
      have NV := Lib.hid (below_new wr (.cells #[.int .i64 v0, .int .i64 v1, .int .i64 v2, .int .i64 v3] 72))
      have R7 := Lib.hid (HT.out.on NV.out)
      have BLT := Lib.hid (show w.heap.size + 1 + 1 < (wr.alloc (.cells #[.int .i64 v0, .int .i64 v1, .int .i64 v2, .int .i64 v3] 72)).heap.size from World.block_lt_of_cell? _ _ R7.out.z0)
      have z0 := R7.out.z0
      have SV := Lib.hid (show (wr.alloc (.cells #[.int .i64 v0, .int .i64 v1, .int .i64 v2, .int .i64 v3] 72)).heap.size = wr.heap.size + 1 from World.size_alloc _ _)
      have NA := Lib.hid (below_new (wr.alloc (.cells #[.int .i64 v0, .int .i64 v1, .int .i64 v2, .int .i64 v3] 72)) (.cells #[.int .i64 v0, .int .i64 v1, .int .i64 v2, .int .i64 v3] 102))
      have OWN := Lib.hid (row_on R7.out.own NA.out)
      have SZ := Lib.hid (show ((wr.alloc (.cells #[.int .i64 v0, .int .i64 v1, .int .i64 v2, .int .i64 v3] 72)).alloc (.cells #[.int .i64 v0, .int .i64 v1, .int .i64 v2, .int .i64 v3] 102)).heap.size = wr.heap.size + 1 + 1 by rw [World.size_alloc, World.size_alloc])
      have NEW := Lib.hid (vbox_news (w := wr.alloc (.cells #[.int .i64 v0, .int .i64 v1, .int .i64 v2, .int .i64 v3] 72)) (g := 0) ⟨v0, v1, v2, v3⟩)
      rw [SV.out] at NEW
      have ONE := Lib.hid (show ∀ u ∈ (⟨v0, v1, v2, v3⟩ : Vis).cells.toList, u.oneCell' = true by have := cellsV_one [⟨v0, v1, v2, v3⟩]; simpa [cellsV] using this)
      have hlt4 : w.heap.size + 1 + 1 < wr.heap.size := World.block_lt_of_cell? _ _ HT.out.z0
      have HLT := Lib.hid hlt4
      have BASE := Lib.hid (show w.heap.size + 1 + 1 + 1 ≤ ((wr.alloc (.cells #[.int .i64 v0, .int .i64 v1, .int .i64 v2, .int .i64 v3] 72)).alloc (.cells #[.int .i64 v0, .int .i64 v1, .int .i64 v2, .int .i64 v3] 102)).heap.size by rw [SZ.out]; have := HLT.out; omega)
      obtain ⟨i0, hi, hz0, hz1, hz2⟩ := info_parts info102
      have HI := Lib.hid hi; have HZ0 := Lib.hid hz0; have HZ1 := Lib.hid hz1; have HZ2 := Lib.hid hz2
      clear hi hz0 hz1 hz2
      have NB := Lib.hid (ownR_ne OWN.out (show w.heap.size + 1 + 1 < w.heap.size + 1 + 1 + 1 by omega))
      go_wp2_with (at_builtin; refine Go.wpList_append_lies _ rfl _ _ 62 rfl (w.heap.size + 1 + 1 + 1) 102 i0 _ 4 32 Try.underlying62 HI.out HZ0.out HZ1.out HZ2.out rfl (by decide) (.slice a2 j c2) j _ (by rfl) OWN.out ⟨wr.heap.size + 1, 0, none⟩ 1 1 [.int .i64 v0, .int .i64 v1, .int .i64 v2, .int .i64 v3] (by rfl) rfl NEW.out ONE.out (by omega) (by unfold maxLen; omega) (by omega) BASE.out (wr.heap.size + 1 + 1) SZ.out ?_; intro g1 p1 w6 q1 q2 q3 q4; have Q1 := Lib.hid q1; have Q2 := Lib.hid q2; have a0 := grownR_cell q2 (cell_on NA.out R7.out.z0) NB.out; have A0 := Lib.hid a0; have FB := Lib.hid (show Soft w6 (w.heap.size + 1 + 1) from fun i => (q2.frozen_far ⟨w.heap.size + 1 + 1, i, none⟩ (Nat.lt_of_lt_of_le BLT.out NA.out.size) NB.out).trans (R7.out.sf.on BLT.out NA.out i)); have fb0 := FB.out 0; clear q1 q2 q3 q4)
      go_roundw
      case rel =>
        refine ⟨j + 1, some ⟨g1, 0, none⟩, p1, by omega, by go_num, ⟨?_, ?_, ?_, ?_, ?_, ?_, ?_⟩⟩
        · exact World.cell?_setCell_same _ _ _ A0.out
        · exact cell_set_other (grownR_cell Q2.out (cell_on NA.out R7.out.z1) NB.out) (by omega)
        · exact cell_set_other (grownR_cell Q2.out (cell_on NA.out R7.out.z2) NB.out) (by omega)
        · exact cell_set_other (grownR_cell Q2.out (cell_on NA.out R7.out.z3) NB.out) (by omega)
        · intro i; rw [World.frozen?_setCell]; exact FB.out i
        · rw [← HSN.out]
          exact ownsRow_setCell_below Q1.out (show w.heap.size + 1 + 1 < w.heap.size + 1 + 1 + 1 by omega) _
        · exact ((own_below R7.out NA.out).grown Q2.out (by have := BASE.out; omega) (fun i hi => by have := (OWN.out.lt i hi).1; omega)).setCell (Nat.le_refl _) _
      case measure => simp [intOf]; omega
    · obtain rfl : j = k := by omega
      have z0 := HT.out.z0; have z1 := HT.out.z1; have z2 := HT.out.z2; have z3 := HT.out.z3
      have HWB := Lib.hid (show Below WA.heap.size WA wr by rw [E2.out]; exact HT.out.bel)
      have ZB := Lib.hid (HZ.out.on HWB.out)
      have zf := HZF.out.on (by rw [E2.out]; omega) HWB.out
      obtain ⟨y0, y1, y2, y3⟩ := ZB.out
      unfold Soft at zf
      go_wp2_with fail
      (try simp only [Exit.inBlock, Exit.then])
      refine own_done ZB.out a2 j c2 x1 x2 x3 rfl rfl ⟨a2, c2, rfl, ?_, put4_below HBW.out (by omega) _ _ _ _⟩
      have h := HT.out.own
      rw [List.take_of_length_le (by rw [HL.out]; exact Nat.le_refl _)] at h
      exact ownV_reads (ownsRow_setCell_below (ownsRow_setCell_below (ownsRow_setCell_below (ownsRow_setCell_below h (show w.heap.size + 1 < w.heap.size + 1 + 1 + 1 by omega) _) (show w.heap.size + 1 < w.heap.size + 1 + 1 + 1 by omega) _) (show w.heap.size + 1 < w.heap.size + 1 + 1 + 1 by omega) _) (show w.heap.size + 1 < w.heap.size + 1 + 1 + 1 by omega) _) HL.out
end Go.Proofs.Ytakiciemkecgfaa.Route

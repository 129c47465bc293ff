/-
  What the row's reading tells of orders, trucks and worlds that came in.
-/
import Derived.Test.YtakiciemkecgfaaLoadEach
import Derived.Test.YtakiciemkecgfaaOpen
namespace Go.Proofs.Ytakiciemkecgfaa.Load
open Go.RowKit Go.Proofs Go.Proofs.Ytakiciemkecgfaa.AreaMath Go.Proofs.Ytakiciemkecgfaa.Area
open Go.ChangeShapes Go.WideShapes Go.ChangeAt Go.Joins
set_option linter.unusedVariables false
set_option maxRecDepth 100000

/-- a struct of numbers -/
theorem trod_nums {P : Program} {H : Type} {enc : TypeId × Value → H} {w : World} {t : TypeId} {fs : Array Field} {fuel : Nat} {cs : List Value} {x : DataW H × List MemPlace}
    (ht : P.underlying t = some (.struct fs)) (hC : P.cellsOf t = fs.size)
    (hf : ∀ i, i < fs.size → ∃ f, fs[i]? = some f ∧ f.offset = i ∧ P.cellsOf f.type = 1 ∧ P.underlying f.type = some (.int .i64))
    (h : DataW.trod enc P w 0 (fun _ => true) true fuel t cs = some x) : cs.length = fs.size ∧ ∀ i, i < fs.size → ∃ m, cs[i]? = some (.int .i64 m) ∧ (Lit.int .i64 m).wf = true := by
  obtain ⟨xs, n, _, _, hl, hlen, hfs⟩ := DataW.trod_struct ht h
  refine ⟨hl.trans hC, fun i hi => ?_⟩
  obtain ⟨f, h1, h2, h3, h4⟩ := hf i hi
  have h5 := hfs i f h1
  rw [h2, h3, List.getElem?_eq_getElem (by omega : i < xs.length)] at h5
  obtain ⟨m, h6, _, h7⟩ := DataW.trod_int h4 h5
  refine ⟨m, ?_, h7⟩
  have h8 : ((cs.drop i).take 1)[0]? = some (.int .i64 m) := by rw [h6]; rfl
  rw [List.getElem?_take, if_pos (by omega), List.getElem?_drop] at h8
  exact h8

def ordOf (cs : List Value) : Ord := ⟨intOf (cs.getD 0 (.bool false)), intOf (cs.getD 1 (.bool false)), intOf (cs.getD 2 (.bool false)), intOf (cs.getD 3 (.bool false)), intOf (cs.getD 4 (.bool false)), intOf (cs.getD 5 (.bool false)), intOf (cs.getD 6 (.bool false)), intOf (cs.getD 7 (.bool false))⟩
def trkOf (cs : List Value) : Trk := ⟨intOf (cs.getD 0 (.bool false)), intOf (cs.getD 1 (.bool false)), intOf (cs.getD 2 (.bool false)), intOf (cs.getD 3 (.bool false)), intOf (cs.getD 4 (.bool false)), intOf (cs.getD 5 (.bool false)), intOf (cs.getD 6 (.bool false))⟩
/-- all numbers are those of a machine -/
def NumWf (z : Int) : Prop := -9223372036854775808 ≤ z ∧ z ≤ 9223372036854775807
def Ord.Wf (o : Ord) : Prop := NumWf o.id ∧ NumWf o.owner ∧ NumWf o.node ∧ NumWf o.weight ∧ NumWf o.volume ∧ NumWf o.frm ∧ NumWf o.to ∧ NumWf o.service
def Trk.Wf (o : Trk) : Prop := NumWf o.id ∧ NumWf o.weight ∧ NumWf o.volume ∧ NumWf o.start ∧ NumWf o.stop ∧ NumWf o.fixed ∧ NumWf o.rate
theorem wf_of_num {z : Int} (h : NumWf z) : (Lit.int .i64 z).wf = true := by
  obtain ⟨h1, h2⟩ := h
  simp [Lit.wf, IntKind.min, IntKind.max, IntKind.signed, IntKind.bits]; omega

theorem fields44 : ∀ i, i < 8 → ∃ f, (#[{ name := "Id", type := 3, offset := 0, embedded := false, tag := "", pkgPath := "", byteOffset := 0 },
        { name := "Owner", type := 3, offset := 1, embedded := false, tag := "", pkgPath := "", byteOffset := 8 },
        { name := "Node", type := 3, offset := 2, embedded := false, tag := "", pkgPath := "", byteOffset := 16 },
        { name := "Weight", type := 2, offset := 3, embedded := false, tag := "", pkgPath := "", byteOffset := 24 },
        { name := "Volume", type := 2, offset := 4, embedded := false, tag := "", pkgPath := "", byteOffset := 32 },
        { name := "From", type := 2, offset := 5, embedded := false, tag := "", pkgPath := "", byteOffset := 40 },
        { name := "To", type := 2, offset := 6, embedded := false, tag := "", pkgPath := "", byteOffset := 48 },
        { name := "Service", type := 2, offset := 7, embedded := false, tag := "", pkgPath := "", byteOffset := 56 }] : Array Field)[i]? = some f ∧ f.offset = i ∧ Try.prog.cellsOf f.type = 1 ∧ Try.prog.underlying f.type = some (.int .i64) := by
  have c2 : Try.prog.cellsOf 2 = 1 := by kernel_rfl
  have c3 : Try.prog.cellsOf 3 = 1 := by kernel_rfl
  have u2 := Try.underlying2
  have u3 := Try.underlying3
  intro i hi
  rcases (by omega : i = 0 ∨ i = 1 ∨ i = 2 ∨ i = 3 ∨ i = 4 ∨ i = 5 ∨ i = 6 ∨ i = 7) with rfl | rfl | rfl | rfl | rfl | rfl | rfl | rfl <;> exact ⟨_, rfl, rfl, by assumption, by assumption⟩
theorem fields42 : ∀ i, i < 7 → ∃ f, (#[{ name := "Id", type := 3, offset := 0, embedded := false, tag := "", pkgPath := "", byteOffset := 0 },
        { name := "Weight", type := 2, offset := 1, embedded := false, tag := "", pkgPath := "", byteOffset := 8 },
        { name := "Volume", type := 2, offset := 2, embedded := false, tag := "", pkgPath := "", byteOffset := 16 },
        { name := "Start", type := 2, offset := 3, embedded := false, tag := "", pkgPath := "", byteOffset := 24 },
        { name := "End", type := 2, offset := 4, embedded := false, tag := "", pkgPath := "", byteOffset := 32 },
        { name := "Fixed", type := 2, offset := 5, embedded := false, tag := "", pkgPath := "", byteOffset := 40 },
        { name := "Rate", type := 2, offset := 6, embedded := false, tag := "", pkgPath := "", byteOffset := 48 }] : Array Field)[i]? = some f ∧ f.offset = i ∧ Try.prog.cellsOf f.type = 1 ∧ Try.prog.underlying f.type = some (.int .i64) := by
  have c2 : Try.prog.cellsOf 2 = 1 := by kernel_rfl
  have c3 : Try.prog.cellsOf 3 = 1 := by kernel_rfl
  have u2 := Try.underlying2
  have u3 := Try.underlying3
  intro i hi
  rcases (by omega : i = 0 ∨ i = 1 ∨ i = 2 ∨ i = 3 ∨ i = 4 ∨ i = 5 ∨ i = 6) with rfl | rfl | rfl | rfl | rfl | rfl | rfl <;> exact ⟨_, rfl, rfl, by assumption, by assumption⟩

theorem trod_ord {H : Type} {enc : TypeId × Value → H} {w : World} {fuel : Nat} {cs : List Value} {x : DataW H × List MemPlace} (h : DataW.trod enc Try.prog w 0 (fun _ => true) true fuel 44 cs = some x) :
    cs = (ordOf cs).cells.toList ∧ (ordOf cs).Wf := by
  obtain ⟨hl, hf⟩ := trod_nums Try.underlying44 (by kernel_rfl) fields44 h
  match cs, hl with
  | [c0, c1, c2, c3, c4, c5, c6, c7], _ =>
    obtain ⟨m0, e0, f0⟩ := hf 0 (by decide)
    obtain ⟨m1, e1, f1⟩ := hf 1 (by decide)
    obtain ⟨m2, e2, f2⟩ := hf 2 (by decide)
    obtain ⟨m3, e3, f3⟩ := hf 3 (by decide)
    obtain ⟨m4, e4, f4⟩ := hf 4 (by decide)
    obtain ⟨m5, e5, f5⟩ := hf 5 (by decide)
    obtain ⟨m6, e6, f6⟩ := hf 6 (by decide)
    obtain ⟨m7, e7, f7⟩ := hf 7 (by decide)
    cases e0; cases e1; cases e2; cases e3; cases e4; cases e5; cases e6; cases e7
    exact ⟨rfl, wf_i64 f0, wf_i64 f1, wf_i64 f2, wf_i64 f3, wf_i64 f4, wf_i64 f5, wf_i64 f6, wf_i64 f7⟩
theorem trod_trk {H : Type} {enc : TypeId × Value → H} {w : World} {fuel : Nat} {cs : List Value} {x : DataW H × List MemPlace} (h : DataW.trod enc Try.prog w 0 (fun _ => true) true fuel 42 cs = some x) :
    cs = (trkOf cs).cells.toList ∧ (trkOf cs).Wf := by
  obtain ⟨hl, hf⟩ := trod_nums Try.underlying42 (by kernel_rfl) fields42 h
  match cs, hl with
  | [c0, c1, c2, c3, c4, c5, c6], _ =>
    obtain ⟨m0, e0, f0⟩ := hf 0 (by decide)
    obtain ⟨m1, e1, f1⟩ := hf 1 (by decide)
    obtain ⟨m2, e2, f2⟩ := hf 2 (by decide)
    obtain ⟨m3, e3, f3⟩ := hf 3 (by decide)
    obtain ⟨m4, e4, f4⟩ := hf 4 (by decide)
    obtain ⟨m5, e5, f5⟩ := hf 5 (by decide)
    obtain ⟨m6, e6, f6⟩ := hf 6 (by decide)
    cases e0; cases e1; cases e2; cases e3; cases e4; cases e5; cases e6
    exact ⟨rfl, wf_i64 f0, wf_i64 f1, wf_i64 f2, wf_i64 f3, wf_i64 f4, wf_i64 f5, wf_i64 f6⟩

/-- a slice of rows of cells -/
theorem open_rows {P : Program} {H : Type} {enc : TypeId × Value → H} {w : World} {t e : TypeId} {n fuel : Nat} {v : Value} {x : DataW H × List MemPlace} (ht : P.underlying t = some (.slice e)) (hn : P.cellsOf e = n) (h0 : 0 < n)
    (h : DataW.trod enc P w 0 (fun _ => true) true fuel t [v] = some x) :
    v = .slice none 0 0 ∨ (∃ (b off len cap : Nat), v = .slice (some ⟨b, off, none⟩) len cap ∧ len ≤ cap ∧ cap ≤ 9223372036854775807 ∧
      ∀ i, i < len → ∃ cs f y, (∀ j, j < n → w.cell? ⟨b, off + i * n + j, none⟩ = cs[j]?) ∧ DataW.trod enc P w 0 (fun _ => true) true f e cs = some y) ∨ ∃ a cap, v = .slice (some a) 0 cap := by
  rcases DataW.trod_slice ht h with ⟨h1, _⟩ | ⟨a, len, cap, elems, rest, m, _, h1, _, _, hl, hm, hlen, hel, _, _⟩
  · cases h1; exact .inl rfl
  · cases h1
    right
    by_cases hz : len = 0
    · subst hz
      exact .inr ⟨a, cap, rfl⟩
    left
    rw [hn] at hel
    have each : ∀ i, i < len → ∃ cs f y, (∀ j, j < n → w.cell? ((a.add (i * n)).add j) = cs[j]?) ∧ cs.length = n ∧ DataW.trod enc P w 0 (fun _ => true) true f e cs = some y := by
      intro i hi
      have h2 := hel i hi
      rw [List.getElem?_eq_getElem (by omega : i < elems.length), Option.bind_eq_some_iff] at h2
      obtain ⟨cs, h3, h4⟩ := h2
      obtain ⟨_, h5, h6⟩ := World.cells?_some h3
      exact ⟨cs, m, _, h6, h5, h4⟩
    have hs : a.spot = none := by
      obtain ⟨cs, f, y, h6, h5, _⟩ := each 0 (by omega)
      have h7 := h6 0 h0
      rw [List.getElem?_eq_getElem (by omega : 0 < cs.length)] at h7
      have h8 := World.cell?_spot h7
      simpa [Addr.add] using h8
    obtain ⟨b, off, sp⟩ := a
    cases hs
    refine ⟨b, off, len, cap, rfl, hl, by unfold maxLen at hm; omega, fun i hi => ?_⟩
    obtain ⟨cs, f, y, h6, _, h7⟩ := each i hi
    refine ⟨cs, f, y, fun j hj => ?_, h7⟩
    have := h6 j hj
    rw [Addr.add_lit, Addr.add_lit] at this
    exact this

theorem list_of {α : Type} (d : α) (p : Nat → α → Prop) (n : Nat) (h : ∀ i, i < n → ∃ x, p i x) : ∃ L : List α, L.length = n ∧ ∀ i, i < n → p i (L.getD i d) := by
  induction n with
  | zero => exact ⟨[], rfl, fun i hi => absurd hi (by omega)⟩
  | succ n ih =>
    obtain ⟨L, h1, h2⟩ := ih fun i hi => h i (by omega)
    obtain ⟨x, hx⟩ := h n (by omega)
    refine ⟨L ++ [x], by simp [h1], fun i hi => ?_⟩
    by_cases e : i = n
    · subst e
      rw [← h1] at hx ⊢
      simpa using hx
    · have := h2 i (by omega)
      simpa [List.getD_eq_getElem?_getD, List.getElem?_append, show i < L.length by omega] using this
theorem all_of_getD {α : Type} {d : α} {p : α → Prop} {L : List α} (h : ∀ i, i < L.length → p (L.getD i d)) : ∀ x ∈ L, p x := by
  intro x hx
  obtain ⟨i, hi, rfl⟩ := List.getElem_of_mem hx
  have := h i hi
  simpa [List.getD_eq_getElem?_getD, hi] using this

/-- orders that came in -/
def OrdsIn (w : World) (v : Value) : Prop := ∃ a len cap L, v = .slice a len cap ∧ L.length = len ∧ ReadsO w a L ∧ len ≤ cap ∧ cap ≤ 9223372036854775807 ∧ ∀ o ∈ L, o.Wf
def TrksIn (w : World) (v : Value) : Prop := ∃ a len cap L, v = .slice a len cap ∧ L.length = len ∧ ReadsT w a L ∧ len ≤ cap ∧ cap ≤ 9223372036854775807 ∧ ∀ o ∈ L, o.Wf
theorem okcap {P : Program} {H : Type} {enc : TypeId × Value → H} {w : World} {t e : TypeId} {fuel : Nat} {a : Option Addr} {len cap : Nat} {x : DataW H × List MemPlace} (ht : P.underlying t = some (.slice e))
    (h : DataW.trod enc P w 0 (fun _ => true) true fuel t [.slice a len cap] = some x) : len ≤ cap ∧ cap ≤ 9223372036854775807 := by
  rcases DataW.trod_slice ht h with ⟨h1, _⟩ | ⟨a, len, cap, elems, rest, m, _, h1, _, _, hl, hm, hlen, hel, _, _⟩
  · cases h1; omega
  · cases h1
    unfold maxLen at hm
    omega
theorem open_orders {H : Type} {enc : TypeId × Value → H} {w : World} {fuel : Nat} {v : Value} {x : DataW H × List MemPlace}
    (h : DataW.trod enc Try.prog w 0 (fun _ => true) true fuel 37 [v] = some x) : OrdsIn w v := by
  rcases open_rows Try.underlying37 (n := 8) (by kernel_rfl) (by decide) h with rfl | ⟨b, off, len, cap, rfl, hl, hm, hr⟩ | ⟨a, cap, rfl⟩
  · exact ⟨none, 0, 0, [], rfl, rfl, fun h => absurd h (by simp), Nat.le_refl _, by omega, by simp⟩
  · obtain ⟨L, h1, h2⟩ := list_of ord0 (fun i o => (∀ j v, o.cells[j]? = some v → w.cell? ⟨b, off + i * 8 + j, none⟩ = some v) ∧ o.Wf) len (by
      intro i hi
      obtain ⟨cs, f, y, h3, h4⟩ := hr i hi
      obtain ⟨h5, h6⟩ := trod_ord h4
      refine ⟨ordOf cs, fun j v hv => ?_, h6⟩
      have hj : j < 8 := by
        have := (Array.getElem?_eq_some_iff.1 hv).1
        simpa [Ord.cells] using this
      rw [h3 j hj, h5, Array.getElem?_toList]
      exact hv)
    exact ⟨_, len, cap, L, rfl, h1, fun _ => ⟨b, off, rfl, fun k hk j v hv => (h2 k (by omega)).1 j v hv⟩, hl, hm, all_of_getD (d := ord0) fun i hi => (h2 i (by omega)).2⟩
  · exact ⟨_, 0, cap, [], rfl, rfl, fun h => absurd h (by simp), by omega, (okcap Try.underlying37 h).2, by simp⟩
theorem open_trucks {H : Type} {enc : TypeId × Value → H} {w : World} {fuel : Nat} {v : Value} {x : DataW H × List MemPlace}
    (h : DataW.trod enc Try.prog w 0 (fun _ => true) true fuel 38 [v] = some x) : TrksIn w v := by
  rcases open_rows Try.underlying38 (n := 7) (by kernel_rfl) (by decide) h with rfl | ⟨b, off, len, cap, rfl, hl, hm, hr⟩ | ⟨a, cap, rfl⟩
  · exact ⟨none, 0, 0, [], rfl, rfl, fun h => absurd h (by simp), Nat.le_refl _, by omega, by simp⟩
  · obtain ⟨L, h1, h2⟩ := list_of trk0 (fun i o => (∀ j v, o.cells[j]? = some v → w.cell? ⟨b, off + i * 7 + j, none⟩ = some v) ∧ o.Wf) len (by
      intro i hi
      obtain ⟨cs, f, y, h3, h4⟩ := hr i hi
      obtain ⟨h5, h6⟩ := trod_trk h4
      refine ⟨trkOf cs, fun j v hv => ?_, h6⟩
      have hj : j < 7 := by
        have := (Array.getElem?_eq_some_iff.1 hv).1
        simpa [Trk.cells] using this
      rw [h3 j hj, h5, Array.getElem?_toList]
      exact hv)
    exact ⟨_, len, cap, L, rfl, h1, fun _ => ⟨b, off, rfl, fun k hk j v hv => (h2 k (by omega)).1 j v hv⟩, hl, hm, all_of_getD (d := trk0) fun i hi => (h2 i (by omega)).2⟩
  · exact ⟨_, 0, cap, [], rfl, rfl, fun h => absurd h (by simp), by omega, (okcap Try.underlying38 h).2, by simp⟩

theorem open_orders_arg {H : Type} {enc : TypeId × Value → H} {w : World} {v : Value} {d : DataW H} {p : List MemPlace} {r : Reach} {b : Nat}
    (hv : Value.okWide Try.prog w r b 37 v) (h : DataW.Trod enc Try.prog w 0 (fun _ => true) true 37 v d p) : OrdsIn w v := by
  obtain ⟨a, len, cap, rfl⟩ := okWide_slice Try.underlying37 hv
  obtain ⟨fuel, hf⟩ := h
  have hf' : DataW.trod enc Try.prog w 0 (fun _ => true) true fuel 37 [.slice a len cap] = some (d, p) := by simpa [Value.cells] using hf
  exact open_orders hf'
theorem open_truck_arg {H : Type} {enc : TypeId × Value → H} {w : World} {v : Value} {d : DataW H} {p : List MemPlace} {r : Reach} {b : Nat}
    (hv : Value.okWide Try.prog w r b 42 v) (h : DataW.Trod enc Try.prog w 0 (fun _ => true) true 42 v d p) : ∃ t : Trk, v = .agg t.cells ∧ t.Wf := by
  obtain ⟨cs, rfl, hsz⟩ := okWide_struct Try.underlying42 hv
  obtain ⟨fuel, hf⟩ := h
  have hf' : DataW.trod enc Try.prog w 0 (fun _ => true) true fuel 42 cs.toList = some (d, p) := by simpa [Value.cells] using hf
  obtain ⟨h1, h2⟩ := trod_trk hf'
  exact ⟨trkOf cs.toList, congrArg Value.agg (Array.toList_inj.1 h1), h2⟩

/-- a world that came in -/
def WorldIn (w : World) (v : Value) : Prop := ∃ n aD lD cD aT lT cT D T aO lO cO aR lR cR O R, v = .agg #[.int .i64 n, .slice aD lD cD, .slice aT lT cT, .slice aO lO cO, .slice aR lR cR] ∧
  D.length = lD ∧ T.length = lT ∧ ReadsI w aD D ∧ ReadsI w aT T ∧ O.length = lO ∧ R.length = lR ∧ ReadsO w aO O ∧ ReadsT w aR R ∧ lO ≤ cO ∧ cO ≤ 9223372036854775807 ∧ lR ≤ cR ∧ cR ≤ 9223372036854775807 ∧ (∀ o ∈ O, o.Wf) ∧ (∀ o ∈ R, o.Wf) ∧ NumWf n
theorem list5 {α : Type} {l : List α} (h : l.length = 5) : ∃ a b c d e, l = [a, b, c, d, e] :=
  match l, h with
  | [a, b, c, d, e], _ => ⟨a, b, c, d, e, rfl⟩
theorem open_world_arg {H : Type} {enc : TypeId × Value → H} {w : World} {v : Value} {d : DataW H} {p : List MemPlace} {r : Reach} {b : Nat}
    (hv : Value.okWide Try.prog w r b 40 v) (h : DataW.Trod enc Try.prog w 0 (fun _ => true) true 40 v d p) : WorldIn w v := by
  obtain ⟨cs, rfl, hsz⟩ := okWide_struct Try.underlying40 hv
  obtain ⟨fuel, hf⟩ := h
  have hf' : DataW.trod enc Try.prog w 0 (fun _ => true) true fuel 40 cs.toList = some (d, p) := by simpa [Value.cells] using hf
  obtain ⟨y0, y1, y2, n, _, hl, h0, h1, h2⟩ := Go.Deep.trod_struct3 Try.underlying40 hf'
  have c40 : Try.prog.cellsOf 40 = 5 := by kernel_rfl
  have c24 : Try.prog.cellsOf 24 = 3 := by kernel_rfl
  have c37 : Try.prog.cellsOf 37 = 1 := by kernel_rfl
  have c38 : Try.prog.cellsOf 38 = 1 := by kernel_rfl
  have c3 : Try.prog.cellsOf 3 = 1 := by kernel_rfl
  have c22 : Try.prog.cellsOf 22 = 1 := by kernel_rfl
  rw [c40] at hl
  dsimp only at h0 h1 h2
  rw [c24] at h0
  rw [c37] at h1
  rw [c38] at h2
  obtain ⟨s0, s1, s2, s3, s4, hs⟩ := list5 hl
  rw [hs] at h0 h1 h2
  simp only [List.drop_zero, List.drop_succ_cons, List.take_succ_cons, List.take_zero] at h0 h1 h2
  obtain ⟨z0, z1, z2, m, _, _, g0, g1, g2⟩ := Go.Deep.trod_struct3 Try.underlying24 h0
  dsimp only at g0 g1 g2
  rw [c3] at g0
  rw [c22] at g1 g2
  simp only [List.drop_zero, List.drop_succ_cons, List.take_succ_cons, List.take_zero] at g0 g1 g2
  obtain ⟨a1, l1, c1, D, rfl, i1, i2, i3, _⟩ := open_list Try.underlying22 Try.underlying2 (by kernel_rfl) g1
  obtain ⟨a2, l2, c2, T, rfl, j1, j2, j3, _⟩ := open_list Try.underlying22 Try.underlying2 (by kernel_rfl) g2
  obtain ⟨k, hk, _, wk⟩ := DataW.trod_int Try.underlying3 g0
  cases hk
  obtain ⟨a3, l3, c3', O, rfl, o1, o2, o3, o4, o5⟩ := open_orders h1
  obtain ⟨a4, l4, c4, R, rfl, r1, r2, r3, r4, r5⟩ := open_trucks h2
  refine ⟨k, a1, l1, c1, a2, l2, c2, D, T, a3, l3, c3', a4, l4, c4, O, R, ?_, i1, j1, i2, j2, o1, r1, o2, r2, o3, o4, r3, r4, o5, r5, wf_i64 wk⟩
  exact congrArg Value.agg (Array.toList_inj.1 hs)
end Go.Proofs.Ytakiciemkecgfaa.Load

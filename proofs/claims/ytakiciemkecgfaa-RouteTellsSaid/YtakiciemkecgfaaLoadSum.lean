/-
  The walk of load's Sum.
-/
import Derived.Test.YtakiciemkecgfaaLoadOrd
import Derived.Test.YtakiciemkecgfaaSum
import Derived.Test.YtakiciemkecgfaaTwoRows
import Derived.Test.YtakiciemkecgfaaNear
namespace Go.Proofs.Ytakiciemkecgfaa.Load
open Go.RowKit Go.Proofs Go.Proofs.Ytakiciemkecgfaa.AreaMath Go.Proofs.Ytakiciemkecgfaa.Area Go.Proofs.Ytakiciemkecgfaa.Append
set_option maxRecDepth 100000
set_option linter.unusedVariables false

def ord0 : Ord := ⟨0, 0, 0, 0, 0, 0, 0, 0⟩
def ordAt (l : List Ord) (k : Nat) : Ord := l.getD k ord0
/-- a slice of orders that is read -/
def ReadsO (w : World) (a : Option Addr) (l : List Ord) : Prop :=
  0 < l.length → ∃ b off, a = some ⟨b, off, none⟩ ∧ ∀ k, k < l.length → ∀ j v, (ordAt l k).cells[j]? = some v → w.cell? ⟨b, off + k * 8 + j, none⟩ = some v
theorem ReadsO.below {w w1 : World} {a : Option Addr} {l : List Ord} (h : ReadsO w a l) (hb : Below w.heap.size w w1) : ReadsO w1 a l := by
  intro hl
  obtain ⟨b, off, ha, hc⟩ := h hl
  exact ⟨b, off, ha, fun k hk j v hv => cell_on hb (hc k hk j v hv)⟩
/-- an order's eight cells -/
def OrdCells (w : World) (b off : Nat) (o : Ord) : Prop :=
  w.cell? ⟨b, off, none⟩ = some (.int .i64 o.id) ∧ w.cell? ⟨b, off + 1, none⟩ = some (.int .i64 o.owner) ∧ w.cell? ⟨b, off + 2, none⟩ = some (.int .i64 o.node) ∧ w.cell? ⟨b, off + 3, none⟩ = some (.int .i64 o.weight) ∧
  w.cell? ⟨b, off + 4, none⟩ = some (.int .i64 o.volume) ∧ w.cell? ⟨b, off + 5, none⟩ = some (.int .i64 o.frm) ∧ w.cell? ⟨b, off + 6, none⟩ = some (.int .i64 o.to) ∧ w.cell? ⟨b, off + 7, none⟩ = some (.int .i64 o.service)
theorem ordCells_at {w : World} {b off : Nat} {l : List Ord} {k : Nat} (hc : ∀ j v, (ordAt l k).cells[j]? = some v → w.cell? ⟨b, off + k * 8 + j, none⟩ = some v) : OrdCells w b (off + k * 8) (ordAt l k) :=
  ⟨hc 0 _ rfl, hc 1 _ rfl, hc 2 _ rfl, hc 3 _ rfl, hc 4 _ rfl, hc 5 _ rfl, hc 6 _ rfl, hc 7 _ rfl⟩

def weights (l : List Ord) : List Int := l.map Ord.weight
def volumes (l : List Ord) : List Int := l.map Ord.volume
/-- what Sum tells -/
def loadS (l : List Ord) : Int × Int × Int :=
  let p := MoneyMath.sumP (weights l)
  let q := MoneyMath.sumP (volumes l)
  if p.2 ≠ 0 then (0, 0, p.2) else if q.2 ≠ 0 then (0, 0, q.2) else (p.1, q.1, 0)

theorem info2 : (Try.prog.info? 2).map (fun i => (i.zero, i.size, i.bytes)) = some (some (.int .i64 0), 1, 8) := by kernel_rfl
/-- the two slices that Sum builds -/
structure Two (W w : World) (v5 v6 : Value) (k5 k6 : Nat) (xs ys : List Int) : Prop where
  own5 : w.ownsRow W.heap.size 2 1 v5 k5 (intsV xs)
  own6 : w.ownsRow W.heap.size 2 1 v6 k6 (intsV ys)
  ap : Apart v5 v6
  bel : Below W.heap.size W w
theorem Two.alloc {W w : World} {v5 v6 : Value} {k5 k6 : Nat} {xs ys : List Int} (h : Two W w v5 v6 k5 k6 xs ys) (o : Obj) : Two W (w.alloc o) v5 v6 k5 k6 xs ys := ⟨h.own5.alloc o, h.own6.alloc o, h.ap, h.bel.alloc h.bel.size o⟩
theorem Two.drew {W w : World} {v5 v6 : Value} {k5 k6 : Nat} {xs ys : List Int} (h : Two W w v5 v6 k5 k6 xs ys) : Two W w.drew v5 v6 k5 k6 xs ys := ⟨h.own5.drew, h.own6.drew, h.ap, h.bel.drew⟩
theorem Two.ne5 {W w : World} {v5 v6 : Value} {k5 k6 : Nat} {xs ys : List Int} (h : Two W w v5 v6 k5 k6 xs ys) {b : Nat} (hb : w.heap.size ≤ b) : v5.ownBlock ≠ some b := fun e => by have := (h.own5.lt b e).2; omega
theorem Two.ne6 {W w : World} {v5 v6 : Value} {k5 k6 : Nat} {xs ys : List Int} (h : Two W w v5 v6 k5 k6 xs ys) {b : Nat} (hb : w.heap.size ≤ b) : v6.ownBlock ≠ some b := fun e => by have := (h.own6.lt b e).2; omega
/-- the news of a literal of one number -/
def Lit1 (w : World) (b : Nat) (x : Int) : Prop := w.cell? ⟨b, 0, none⟩ = some (.int .i64 x)
theorem Lit1.news {w : World} {b : Nat} {x : Int} (h : Lit1 w b x) : ∀ j q, ([.int .i64 x] : List Value)[j]? = some q → w.cell? ((⟨b, 0, none⟩ : Addr).add j) = some q := by
  intro j q hq
  cases j with
  | zero =>
    simp only [List.getElem?_cons_zero, Option.some.injEq] at hq
    rw [Addr.add_lit, ← hq]; exact h
  | succ j => simp at hq
theorem lit1_new (w : World) (x : Int) : Lit1 (w.alloc (.cells #[.int .i64 x] 2)) w.heap.size x := box_cell w _ _ 0 _ rfl
theorem Lit1.alloc {w : World} {b : Nat} {x : Int} (h : Lit1 w b x) (o : Obj) : Lit1 (w.alloc o) b x := cell_on ((Below.refl _ w).alloc (Nat.le_refl _) o) h
theorem Lit1.lt {w : World} {b : Nat} {x : Int} (h : Lit1 w b x) : b < w.heap.size := World.block_lt_of_cell? w _ h
/-- the two cells that are read -/
def Box34 (w : World) (b : Nat) (x y : Int) : Prop := w.cell? ⟨b, 3, none⟩ = some (.int .i64 x) ∧ w.cell? ⟨b, 4, none⟩ = some (.int .i64 y)
theorem Box34.alloc {w : World} {b : Nat} {x y : Int} (h : Box34 w b x y) (o : Obj) : Box34 (w.alloc o) b x y := ⟨cell_on ((Below.refl _ w).alloc (Nat.le_refl _) o) h.1, cell_on ((Below.refl _ w).alloc (Nat.le_refl _) o) h.2⟩
theorem Box34.far {w w' : World} {b : Nat} {x y : Int} {v : Value} (h : Box34 w b x y) (q : ∀ p : Addr, p.block < w.heap.size → v.ownBlock ≠ some p.block → w'.cell? p = w.cell? p) (hv : v.ownBlock ≠ some b) : Box34 w' b x y :=
  have hb := World.block_lt_of_cell? w _ h.1
  ⟨(q ⟨b, 3, none⟩ hb hv).trans h.1, (q ⟨b, 4, none⟩ hb hv).trans h.2⟩
theorem Lit1.far {w w' : World} {b : Nat} {x : Int} {v : Value} (h : Lit1 w b x) (q : ∀ p : Addr, p.block < w.heap.size → v.ownBlock ≠ some p.block → w'.cell? p = w.cell? p) (hv : v.ownBlock ≠ some b) : Lit1 w' b x :=
  (q ⟨b, 0, none⟩ h.lt hv).trans h
theorem own_form {w : World} {base e n : Nat} {v : Value} {xs : List Int} (h : w.ownsRow base e 1 v n (intsV xs)) (hl : xs.length = n) : ∃ a cap, v = .slice a n cap ∧ ReadsI w a xs := by
  by_cases h0 : 0 < n
  · obtain ⟨g, cap, rfl, _, _⟩ := h.form h0
    exact ⟨_, cap, rfl, reads_own h hl⟩
  · obtain rfl : n = 0 := by omega
    rcases h.2 with ⟨hv, _⟩ | ⟨g, cap, cur, hv, _⟩
    · exact ⟨none, 0, hv, fun h => by omega⟩
    · exact ⟨_, cap, hv, fun h => by omega⟩
theorem take_all (l : List Ord) (f : Ord → Int) : (l.map f).take l.length = l.map f := by
  rw [List.take_of_length_le (by simp)]
theorem take_map_snoc (l : List Ord) (f : Ord → Int) (k : Nat) (hk : k < l.length) : (l.map f).take k ++ [f (ordAt l k)] = (l.map f).take (k + 1) := by
  have hk' : k < (l.map f).length := by simpa using hk
  rw [take_snoc _ k hk']
  congr 2
  unfold at_ ordAt
  simp [hk]

set_option maxHeartbeats 4000000 in
theorem lsum_walk (a : Option Addr) (l : List Ord) (len cap : Nat) (w : World) (hl : l.length = len) (hr : ReadsO w a l) (hm : len ≤ 400) :
    Calls Try.prog 25 #[.slice a len cap] w fun e w' => e = .returned (.tuple #[.int .i64 (loadS l).1, .int .i64 (loadS l).2.1, .int .i64 (loadS l).2.2]) ∧ Below w.heap.size w w' := by
  have HR := Lib.hid hr; have HL := Lib.hid hl
  clear hr hl
  obtain ⟨i0, hi, hz0, hz1, hz2⟩ := info_parts info2
  have HI := Lib.hid hi; have HZ0 := Lib.hid hz0; have HZ1 := Lib.hid hz1; have HZ2 := Lib.hid hz2
  clear hi hz0 hz1 hz2
  go_enter Try.func25, Try.ntmps25
  go_wp2_with fail
  go_loopw [14, 5, 6] (fun i v5 v6 wr => ∃ k : Nat, k ≤ len ∧ i = .int .i64 k ∧ Two w wr v5 v6 k k ((weights l).take k) ((volumes l).take k)) (fun i v5 v6 wr => len - (intOf i).toNat)
  case atStart => exact ⟨0, by omega, rfl, World.ownsRow_nil _ _ _ _, World.ownsRow_nil _ _ _ _, .inl rfl, Below.refl _ _⟩
  case round =>
    obtain ⟨k, hk, rfl, hT⟩ := hrel
    have HT := Lib.hid hT; clear hT
    by_cases hlt : k < len
    · have hkl : k < l.length := by rw [HL.out]; exact hlt
      obtain ⟨b, off, ha, hc⟩ := (HR.out.below HT.out.bel) (by omega)
      subst ha
      obtain ⟨c0, c1, c2, c3, c4, c5, c6, c7⟩ := ordCells_at (hc k hkl)
      have N1 := Lib.hid (show (intsV ((weights l).take k)) ++ [.int .i64 (ordAt l k).weight] = intsV ((weights l).take (k + 1)) by
        unfold weights; rw [← take_map_snoc l Ord.weight k hkl]; simp [intsV])
      have N2 := Lib.hid (show (intsV ((volumes l).take k)) ++ [.int .i64 (ordAt l k).volume] = intsV ((volumes l).take (k + 1)) by
        unfold volumes; rw [← take_map_snoc l Ord.volume k hkl]; simp [intsV])
      obtain ⟨o, ho⟩ : ∃ o, ordAt l k = o := ⟨_, rfl⟩
      rw [ho] at c0 c1 c2 c3 c4 c5 c6 c7 N1 N2
      clear hc ho hkl
      go_wp2_with fail
      have T0 := HT.out.alloc (.cells #[.int .i64 o.id, .int .i64 o.owner, .int .i64 o.node, .int .i64 o.weight, .int .i64 o.volume, .int .i64 o.frm, .int .i64 o.to, .int .i64 o.service] 44)
      have B0 : Box34 (wr.alloc (.cells #[.int .i64 o.id, .int .i64 o.owner, .int .i64 o.node, .int .i64 o.weight, .int .i64 o.volume, .int .i64 o.frm, .int .i64 o.to, .int .i64 o.service] 44)) wr.heap.size o.weight o.volume := ⟨box_cell wr _ _ 3 _ rfl, box_cell wr _ _ 4 _ rfl⟩
      have esz : (wr.alloc (.cells #[.int .i64 o.id, .int .i64 o.owner, .int .i64 o.node, .int .i64 o.weight, .int .i64 o.volume, .int .i64 o.frm, .int .i64 o.to, .int .i64 o.service] 44)).heap.size = wr.heap.size + 1 := by simp
      clear c0 c1 c2 c3 c4 c5 c6 c7
      obtain ⟨V, hV⟩ : ∃ V, wr.alloc (.cells #[.int .i64 o.id, .int .i64 o.owner, .int .i64 o.node, .int .i64 o.weight, .int .i64 o.volume, .int .i64 o.frm, .int .i64 o.to, .int .i64 o.service] 44) = V := ⟨_, rfl⟩
      rw [hV] at T0 B0 esz ⊢
      clear hV
      have L1 := lit1_new V o.weight
      have L2 := lit1_new V o.volume
      have L12 := lit1_new (V.alloc (.cells #[.int .i64 o.weight] 2)) o.volume
      have L21 := lit1_new (V.alloc (.cells #[.int .i64 o.volume] 2)) o.weight
      rw [World.size_alloc] at L12 L21
      have TA := Lib.hid (((T0.alloc (.cells #[.int .i64 o.weight] 2)).alloc (.cells #[.int .i64 o.volume] 2)).drew)
      have TB := Lib.hid ((T0.alloc (.cells #[.int .i64 o.weight] 2)).drew)
      have TC := Lib.hid (((T0.alloc (.cells #[.int .i64 o.volume] 2)).alloc (.cells #[.int .i64 o.weight] 2)).drew)
      have XA := Lib.hid (show Lit1 (((V.alloc (.cells #[.int .i64 o.weight] 2)).alloc (.cells #[.int .i64 o.volume] 2)).drew) V.heap.size o.weight from L1.alloc _)
      have XB := Lib.hid (show Lit1 ((V.alloc (.cells #[.int .i64 o.weight] 2)).drew) V.heap.size o.weight from L1)
      have XC := Lib.hid (show Lit1 (((V.alloc (.cells #[.int .i64 o.volume] 2)).alloc (.cells #[.int .i64 o.weight] 2)).drew) (V.heap.size + 1) o.weight from L21)
      have YA := Lib.hid (show Lit1 (((V.alloc (.cells #[.int .i64 o.weight] 2)).alloc (.cells #[.int .i64 o.volume] 2)).drew) (V.heap.size + 1) o.volume from L12)
      have YC := Lib.hid (show Lit1 (((V.alloc (.cells #[.int .i64 o.volume] 2)).alloc (.cells #[.int .i64 o.weight] 2)).drew) V.heap.size o.volume from L2.alloc _)
      have BA := Lib.hid (show Box34 (((V.alloc (.cells #[.int .i64 o.weight] 2)).alloc (.cells #[.int .i64 o.volume] 2)).drew) wr.heap.size o.weight o.volume from (B0.alloc _).alloc _)
      have BB := Lib.hid (show Box34 ((V.alloc (.cells #[.int .i64 o.weight] 2)).drew) wr.heap.size o.weight o.volume from B0.alloc _)
      have BC := Lib.hid (show Box34 (((V.alloc (.cells #[.int .i64 o.volume] 2)).alloc (.cells #[.int .i64 o.weight] 2)).drew) wr.heap.size o.weight o.volume from (B0.alloc _).alloc _)
      have BD := Lib.hid (show Box34 ((V.alloc (.cells #[.int .i64 o.volume] 2)).drew) wr.heap.size o.weight o.volume from B0.alloc _)
      have B00 := Lib.hid B0
      clear L1 L2 L12 L21 T0 B0
      have esz1 : wr.heap.size ≤ V.heap.size := by omega
      have esz2 : wr.heap.size ≤ V.heap.size + 1 := by omega
      clear esz
      go_region_held_law (fun w' => w'.cell? ⟨wr.heap.size, 3, none⟩ = some (.int .i64 o.weight) ∧ w'.cell? ⟨wr.heap.size, 4, none⟩ = some (.int .i64 o.volume))
        (first | exact B00.out | exact BA.out | exact BB.out | exact BC.out | exact BD.out | exact S10.out | exact S9.out | exact S9.out.alloc _)
        (first
          | ((refine step_append_two _ rfl _ _ 22 rfl w.heap.size 2 i0 (.int .i64 0) 1 8 Try.underlying22 HI.out HZ0.out HZ1.out HZ2.out rfl (by decide) u5 u6 k k _ _ rfl TA.out.own5 TA.out.own6 TA.out.ap ⟨V.heap.size, 0, none⟩ 1 1 [.int .i64 o.weight] rfl rfl XA.out.news (intsV_one [o.weight]) (by omega) (by unfold maxLen; omega) (by omega) TA.out.bel.size (k + 1) rfl (intsV ((weights l).take (k + 1))) N1.out ?_; intro g1 p1 w2 q1 q2 q3 q4 q5; have T9 := Lib.hid (Two.mk q1 q2 q3 (TA.out.bel.trans q4)); have S9 := Lib.hid (Box34.far BA.out q5 (HT.out.ne5 (Nat.le_refl _))); have Y9 := Lib.hid (Lit1.far YA.out q5 (HT.out.ne5 (by omega))); clear q1 q2 q3 q4 q5))
          | ((refine step_append_two _ rfl _ _ 22 rfl w.heap.size 2 i0 (.int .i64 0) 1 8 Try.underlying22 HI.out HZ0.out HZ1.out HZ2.out rfl (by decide) u5 u6 k k _ _ rfl TB.out.own5 TB.out.own6 TB.out.ap ⟨V.heap.size, 0, none⟩ 1 1 [.int .i64 o.weight] rfl rfl XB.out.news (intsV_one [o.weight]) (by omega) (by unfold maxLen; omega) (by omega) TB.out.bel.size (k + 1) rfl (intsV ((weights l).take (k + 1))) N1.out ?_; intro g1 p1 w2 q1 q2 q3 q4 q5; have T9 := Lib.hid (Two.mk q1 q2 q3 (TB.out.bel.trans q4)); have S9 := Lib.hid (Box34.far BB.out q5 (HT.out.ne5 (Nat.le_refl _))); have T9a := Lib.hid (T9.out.alloc (.cells #[.int .i64 o.volume] 2)); have Y9a := Lib.hid (lit1_new w2 o.volume); have S9a := Lib.hid (S9.out.alloc (.cells #[.int .i64 o.volume] 2)); clear q1 q2 q3 q4 q5))
          | ((refine step_append_two _ rfl _ _ 22 rfl w.heap.size 2 i0 (.int .i64 0) 1 8 Try.underlying22 HI.out HZ0.out HZ1.out HZ2.out rfl (by decide) u5 u6 k k _ _ rfl TC.out.own5 TC.out.own6 TC.out.ap ⟨(V.heap.size + 1), 0, none⟩ 1 1 [.int .i64 o.weight] rfl rfl XC.out.news (intsV_one [o.weight]) (by omega) (by unfold maxLen; omega) (by omega) TC.out.bel.size (k + 1) rfl (intsV ((weights l).take (k + 1))) N1.out ?_; intro g1 p1 w2 q1 q2 q3 q4 q5; have T9 := Lib.hid (Two.mk q1 q2 q3 (TC.out.bel.trans q4)); have S9 := Lib.hid (Box34.far BC.out q5 (HT.out.ne5 (Nat.le_refl _))); have Y9 := Lib.hid (Lit1.far YC.out q5 (HT.out.ne5 (by omega))); clear q1 q2 q3 q4 q5))
          | ((refine step_append_two _ rfl _ _ 22 rfl w.heap.size 2 i0 (.int .i64 0) 1 8 Try.underlying22 HI.out HZ0.out HZ1.out HZ2.out rfl (by decide) u6 _ k (k + 1) _ _ rfl T9.out.own6 T9.out.own5 T9.out.ap.symm ⟨V.heap.size + 1, 0, none⟩ 1 1 [.int .i64 o.volume] rfl rfl Y9.out.news (intsV_one [o.volume]) (by omega) (by unfold maxLen; omega) (by omega) T9.out.bel.size (k + 1) rfl (intsV ((volumes l).take (k + 1))) N2.out ?_; intro g2 p2 w3 q1 q2 q3 q4 q5; have T10 := Lib.hid (Two.mk q2 q1 (Apart.symm q3) (T9.out.bel.trans q4)); have S10 := Lib.hid (Box34.far S9.out q5 (HT.out.ne6 (Nat.le_refl _))); clear q1 q2 q3 q4 q5))
          | ((refine step_append_two _ rfl _ _ 22 rfl w.heap.size 2 i0 (.int .i64 0) 1 8 Try.underlying22 HI.out HZ0.out HZ1.out HZ2.out rfl (by decide) u6 _ k (k + 1) _ _ rfl T9.out.own6 T9.out.own5 T9.out.ap.symm ⟨V.heap.size, 0, none⟩ 1 1 [.int .i64 o.volume] rfl rfl Y9.out.news (intsV_one [o.volume]) (by omega) (by unfold maxLen; omega) (by omega) T9.out.bel.size (k + 1) rfl (intsV ((volumes l).take (k + 1))) N2.out ?_; intro g2 p2 w3 q1 q2 q3 q4 q5; have T10 := Lib.hid (Two.mk q2 q1 (Apart.symm q3) (T9.out.bel.trans q4)); have S10 := Lib.hid (Box34.far S9.out q5 (HT.out.ne6 (Nat.le_refl _))); clear q1 q2 q3 q4 q5))
          | ((refine step_append_two _ rfl _ _ 22 rfl w.heap.size 2 i0 (.int .i64 0) 1 8 Try.underlying22 HI.out HZ0.out HZ1.out HZ2.out rfl (by decide) u6 _ k (k + 1) _ _ rfl T9a.out.own6 T9a.out.own5 T9a.out.ap.symm ⟨w2.heap.size, 0, none⟩ 1 1 [.int .i64 o.volume] rfl rfl Y9a.out.news (intsV_one [o.volume]) (by omega) (by unfold maxLen; omega) (by omega) T9a.out.bel.size (k + 1) rfl (intsV ((volumes l).take (k + 1))) N2.out ?_; intro g2 p2 w3 q1 q2 q3 q4 q5; have T10 := Lib.hid (Two.mk q2 q1 (Apart.symm q3) (T9a.out.bel.trans q4)); have S10 := Lib.hid (Box34.far S9a.out q5 (HT.out.ne6 (Nat.le_refl _))); clear q1 q2 q3 q4 q5)))
      all_goals
        clear S9 T9 TA TB TC XA XB XC YA YC BA BB BC BD B00 N1 N2
        go_wp2_with fail
        go_roundw
        case rel => exact ⟨k + 1, by omega, by go_num, T10.out⟩
        case measure => simp [intOf]; omega
    · obtain rfl : k = len := by omega
      have e1 : (weights l).take k = weights l := by rw [← HL.out]; exact take_all l Ord.weight
      have e2 : (volumes l).take k = volumes l := by rw [← HL.out]; exact take_all l Ord.volume
      have l1 : (weights l).length = k := by unfold weights; rw [List.length_map]; exact HL.out
      have l2 : (volumes l).length = k := by unfold volumes; rw [List.length_map]; exact HL.out
      have t5 := HT.out.own5
      have t6 := HT.out.own6
      rw [e1] at t5; rw [e2] at t6
      obtain ⟨a5, c5, rfl, r5⟩ := own_form t5 l1
      obtain ⟨a6, c6, rfl, r6⟩ := own_form t6 l2
      have S5 := Money.sum_any a5 c5 (weights l) wr r5 (by omega)
      have S6 := Money.sum_any a6 c6 (volumes l) wr r6 (by omega)
      rw [l1] at S5; rw [l2] at S6
      have HS5 := Lib.hid S5; have HS6 := Lib.hid S6
      have HB := Lib.hid HT.out.bel
      clear S5 S6 t5 t6 r5 r6 e1 e2 l1 l2 HT
      have F : Hid (loadS l = if (MoneyMath.sumP (weights l)).2 ≠ 0 then (0, 0, (MoneyMath.sumP (weights l)).2) else if (MoneyMath.sumP (volumes l)).2 ≠ 0 then (0, 0, (MoneyMath.sumP (volumes l)).2) else ((MoneyMath.sumP (weights l)).1, (MoneyMath.sumP (volumes l)).1, 0)) := rfl
      obtain ⟨p1, hp1⟩ : ∃ p, (MoneyMath.sumP (weights l)).1 = p := ⟨_, rfl⟩
      obtain ⟨p2, hp2⟩ : ∃ p, (MoneyMath.sumP (weights l)).2 = p := ⟨_, rfl⟩
      obtain ⟨q1, hq1⟩ : ∃ p, (MoneyMath.sumP (volumes l)).1 = p := ⟨_, rfl⟩
      obtain ⟨q2, hq2⟩ : ∃ p, (MoneyMath.sumP (volumes l)).2 = p := ⟨_, rfl⟩
      rw [hp1, hp2] at HS5; rw [hq1, hq2] at HS6; rw [hp1, hp2, hq1, hq2] at F
      clear hp1 hp2 hq1 hq2
      go_wp2_with fail
      refine HS5.out.mono ?_; rintro _ w1 ⟨rfl, rfl⟩
      by_cases h1 : p2 = 0
      · subst h1
        rw [if_neg (by simp)] at F
        go_wp2_with fail
        refine HS6.out.mono ?_; rintro _ w2 ⟨rfl, rfl⟩
        by_cases h2 : q2 = 0
        · subst h2
          rw [if_neg (by simp)] at F
          go_wp2_with fail
          go_ret3
          exact ⟨three_ret (by rw [F.out]) (by rw [F.out]) (by rw [F.out]), HB.out⟩
        · rw [if_pos h2] at F
          have hb2 : (q2 != 0) = true := bne_iff_ne.2 h2
          clear h2
          go_wp2_with fail
          go_ret3
          exact ⟨three_ret (by rw [F.out]) (by rw [F.out]) (by rw [F.out]), HB.out⟩
      · rw [if_pos h1] at F
        have hb1 : (p2 != 0) = true := bne_iff_ne.2 h1
        clear h1
        go_wp2_with fail
        go_ret3
        exact ⟨three_ret (by rw [F.out]) (by rw [F.out]) (by rw [F.out]), HB.out⟩
end Go.Proofs.Ytakiciemkecgfaa.Load

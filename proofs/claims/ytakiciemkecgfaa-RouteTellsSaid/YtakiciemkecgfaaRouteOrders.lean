/-
  The walk of route's orders: those of a route's stops.
-/
import Derived.Test.YtakiciemkecgfaaRouteWorld
namespace Go.Proofs.Ytakiciemkecgfaa.Route
open Go.RowKit Go.Proofs Go.Maps Go.WideMaps Go.Proofs.Ytakiciemkecgfaa.AreaMath Go.Proofs.Ytakiciemkecgfaa.Area Go.Proofs.Ytakiciemkecgfaa.Load
set_option maxRecDepth 100000
set_option linter.unusedVariables false

/-- is there an order of this number, and which is it? -/
def hasB (O : List Ord) (s : Int) : Bool := O.any fun o => o.id == s
def pick (O : List Ord) (s : Int) : Ord := ordAt O (O.findIdx fun o => o.id == s)
def picks (O : List Ord) (S : List Int) : List Ord := S.map (pick O)
def ordersR (O : List Ord) (S : List Int) : Int := if !(S.all (hasB O)) then 5 else if dupB S then 6 else 0
theorem ordAt_get (O : List Ord) (k : Nat) (hk : k < O.length) : ordAt O k = O[k] := by
  unfold ordAt; simp [List.getD_eq_getElem?_getD, hk]
theorem found_not {O : List Ord} {s : Int} (h : ∀ j, j < O.length → (ordAt O j).id ≠ s) : hasB O s = false := by
  unfold hasB
  rw [List.any_eq_false]
  intro o ho
  obtain ⟨k, hk, rfl⟩ := List.getElem_of_mem ho
  have := h k hk
  rw [ordAt_get O k hk] at this
  simpa using this
theorem found_has {O : List Ord} {s : Int} {k : Nat} (hk : k < O.length) (h : (ordAt O k).id = s) (hn : ∀ j, j < k → (ordAt O j).id ≠ s) : hasB O s = true ∧ pick O s = ordAt O k := by
  constructor
  · unfold hasB
    rw [List.any_eq_true]
    exact ⟨O[k], List.getElem_mem hk, by rw [ordAt_get O k hk] at h; simpa using h⟩
  · unfold pick
    congr 1
    rw [List.findIdx_eq hk]
    refine ⟨by rw [ordAt_get O k hk] at h; simpa using h, fun j hj => ?_⟩
    have := hn j hj
    rw [ordAt_get O j (by omega)] at this
    simpa using this
theorem pick_mem {O : List Ord} {s : Int} (h : hasB O s = true) : pick O s ∈ O ∧ (pick O s).id = s := by
  unfold hasB at h
  have hlt : (O.findIdx fun o => o.id == s) < O.length := by
    rw [List.findIdx_lt_length]
    exact List.any_eq_true.1 h
  unfold pick
  rw [ordAt_get O _ hlt]
  refine ⟨List.getElem_mem hlt, ?_⟩
  have := List.findIdx_getElem (w := hlt)
  simpa using this
theorem picks_snoc (O : List Ord) (S : List Int) (k : Nat) (hk : k < S.length) : cellsO (picks O (S.take k)) ++ (pick O (at_ S k)).cells.toList = cellsO (picks O (S.take (k + 1))) := by
  rw [take_snoc S k hk]
  unfold picks cellsO
  rw [List.map_append, List.flatMap_append]
  simp
theorem all_not {O : List Ord} {S : List Int} {k : Nat} (hk : k < S.length) (h : hasB O (at_ S k) = false) : S.all (hasB O) = false := by
  rw [← Bool.not_eq_true, List.all_eq_true]
  intro hall
  rw [hall _ (at_mem hk)] at h
  cases h
theorem all_yes {O : List Ord} {S : List Int} (h : ∀ j, j < S.length → hasB O (at_ S j) = true) : S.all (hasB O) = true := by
  rw [List.all_eq_true]
  intro x hx
  obtain ⟨k, hk, rfl⟩ := mem_at hx
  exact h k hk
theorem pair_retV {v : Value} {a b : Int} (h : a = b) : Ending.returned (.tuple #[v, .int .i64 a]) = .returned (.tuple #[v, .int .i64 b]) := by rw [h]

structure Orders (A : Nat) (vO : Value) (w wr : World) (O : List Ord) (S : List Int) (k : Nat) (a : Option Addr) (c : Nat) : Prop where
  has : ∀ j, j < k → hasB O (at_ S j) = true
  own : wr.ownsRow (A + 1 + 1) 44 8 (.slice a k c) k (cellsO (picks O (S.take k)))
  map : wr.ownsMap Try.prog 3 (plainElem Try.prog 4) (A + 1) k (SnI (H := Unit) S k)
  bel : Below w.heap.size w wr
  box : wr.cell? ⟨A, 3, none⟩ = some vO

set_option maxHeartbeats 8000000 in
theorem orders_any (x : Wd) (q : Wp) (aS : Option Addr) (lS cS : Nat) (S : List Int) (w : World) (h : Lies w x q) (hO : x.O.length ≤ 200) (hS1 : S.length = lS) (hS : ReadsI w aS S) (hm : lS ≤ 200) (hw : ∀ s ∈ S, NumWf s) :
    Calls Try.prog 60 #[.agg (wcells x.n q), .slice aS lS cS] w fun e w' => ∃ a len c, e = .returned (.tuple #[.slice a len c, .int .i64 (ordersR x.O S)]) ∧ (ordersR x.O S = 0 → len = lS ∧ ReadsO w' a (picks x.O S)) ∧ Below w.heap.size w w' := by
  obtain ⟨n, D, T, O, R⟩ := x
  obtain ⟨aD, lD, cD, aT, lT, cT, aO, lO, cO, aR, lR, cR⟩ := q
  obtain ⟨l1, l2, l3, l4, r1, r2, r3, r4⟩ := h
  unfold wcells
  dsimp only at *
  have HB := Lib.hid (below_new w (.cells #[.int .i64 n, .slice aD lD cD, .slice aT lT cT, .slice aO lO cO, .slice aR lR cR] 40))
  have HF := Lib.hid (FBox.new w n (.slice aD lD cD) (.slice aT lT cT) (.slice aO lO cO) (.slice aR lR cR) 40)
  have HSR := Lib.hid hS; have HSL := Lib.hid hS1; have HWF := Lib.hid hw
  have HOR := Lib.hid r3; have HOL := Lib.hid l3
  have hO2 : lO ≤ 200 := by omega
  clear l1 l2 l3 l4 r1 r2 r3 r4 hS hS1 hw hO
  obtain ⟨i0, hi, hz0, hz1, hz2⟩ := info_parts info44
  have HI := Lib.hid hi; have HZ0 := Lib.hid hz0; have HZ1 := Lib.hid hz1; have HZ2 := Lib.hid hz2
  clear hi hz0 hz1 hz2
  obtain ⟨E, hE⟩ : ∃ E, ordersR O S = E := ⟨_, rfl⟩
  have HE := Lib.hid hE
  rw [hE]
  clear hE
  have hmm := @run_makeMap Try.prog
  go_enter Try.func60, Try.ntmps60
  go_wp2_with fail
  go_loopw [14, 6] (fun i v wr => ∃ (k : Nat) (a : Option Addr) (c : Nat), k ≤ lS ∧ i = .int .i64 k ∧ v = .slice a k c ∧ Orders w.heap.size (.slice aO lO cO) w wr O S k a c) (fun i v wr => lS - (intOf i).toNat)
  case atStart => exact ⟨0, none, 0, by omega, rfl, rfl, ⟨fun j hj => by omega, by simpa [cellsO, picks] using World.ownsRow_nil _ _ _ _, by
    have h := World.ownsMap_made (H := Unit) (w.alloc (.cells #[.int .i64 n, .slice aD lD cD, .slice aT lT cT, .slice aO lO cO, .slice aR lR cR] 40)) Try.prog 3 (plainElem Try.prog 4)
    rw [World.size_alloc] at h
    rw [SnI_zero]; exact h, below_on HB.out (below_new _ _), cell_on (below_new _ _) HF.out.2.2.2.1⟩⟩
  case round =>
    obtain ⟨k, a, c, hk, rfl, rfl, hT⟩ := hrel
    have HT := Lib.hid hT; clear hT
    by_cases hlt : k < lS
    · have hkl : k < S.length := by rw [HSL.out]; exact hlt
      have hA : w.heap.size + 1 < wr.heap.size := HT.out.map.lt
      obtain ⟨sb, soff, hsa, hsc⟩ := HSR.out.below HT.out.bel (by omega)
      have hsc := hsc k hkl
      have hwf : NumWf (at_ S k) := HWF.out _ (at_mem hkl)
      have hkey := keyOf_int_mk (P := Try.prog) Try.underlying3 (wf_of_num hwf)
      have hsucc := SnI_succ (H := Unit) S k hkl
      have hps := picks_snoc O S k hkl
      obtain ⟨s, hs⟩ : ∃ s, at_ S k = s := ⟨_, rfl⟩
      rw [hs] at hsc hkey hsucc hps
      have HS := Lib.hid hs
      have HK := Lib.hid hkey; have HSU := Lib.hid hsucc; have HPS := Lib.hid hps
      have HKL := Lib.hid hkl
      have hbx := HT.out.box
      have HFD := Lib.hid (find_any aO O lO cO s wr HOL.out (HOR.out.below HT.out.bel) (by omega))
      subst hsa
      clear hs hkey hsucc hps hkl hwf
      go_wp2_with fail
      refine HFD.out.mono ?_
      rintro _ w1 ⟨r, rfl, hf, hb1⟩
      have HF1 := Lib.hid hf
      have HB1 := Lib.hid hb1
      have hbx1 := cell_on hb1 hbx
      clear hf hb1 hsc hbx HFD
      rcases HF1.out with ⟨hr, hno⟩ | ⟨m, hml, hr, hid, hfirst⟩
      · subst hr
        have F := Lib.hid (show (5 : Int) = E by
          rw [← HE.out]; unfold ordersR
          rw [all_not HKL.out (by rw [HS.out]; exact found_not hno)]; rfl)
        clear hno
        go_wp2_with fail
        go_ret2
        exact ⟨_, _, _, pair_retV F.out, fun h => by rw [← F.out] at h; exact absurd h (by decide), below_on HT.out.bel HB1.out⟩
      · subst hr
        obtain ⟨hhas, hpk⟩ := found_has hml hid hfirst
        have hml2 : m < lO := by rw [← HOL.out]; exact hml
        obtain ⟨b, off, ha, hc⟩ := HOR.out.below (below_on HT.out.bel HB1.out) (by omega)
        obtain ⟨e0, e1, e2, e3, e4, e5, e6, e7⟩ := ordCells_at (hc m hml)
        rw [← hpk] at e0 e1 e2 e3 e4 e5 e6 e7
        obtain ⟨o, ho⟩ : ∃ o, pick O s = o := ⟨_, rfl⟩
        rw [ho] at e0 e1 e2 e3 e4 e5 e6 e7 HPS
        have HHAS := Lib.hid hhas
        subst ha
        clear hc ho hpk hhas hid hfirst hml
        have hm0 : decide ((m : Int) < 0) = false := decide_eq_false (by omega)
        have OWN := Lib.hid ((HT.out.own.kept (below_grown HB1.out) (by by_cases e : (Value.slice a k c).ownBlock = none; · exact .inl e
                                                                        · exact .inr e)).alloc (.cells #[.int .i64 o.id, .int .i64 o.owner, .int .i64 o.node, .int .i64 o.weight, .int .i64 o.volume, .int .i64 o.frm, .int .i64 o.to, .int .i64 o.service] 44))
        have MAP := Lib.hid ((HT.out.map.kept (below_grown HB1.out) (by simp)).alloc (.cells #[.int .i64 o.id, .int .i64 o.owner, .int .i64 o.node, .int .i64 o.weight, .int .i64 o.volume, .int .i64 o.frm, .int .i64 o.to, .int .i64 o.service] 44))
        have BEL := Lib.hid (below_on (below_on HT.out.bel HB1.out) (below_new w1 (.cells #[.int .i64 o.id, .int .i64 o.owner, .int .i64 o.node, .int .i64 o.weight, .int .i64 o.volume, .int .i64 o.frm, .int .i64 o.to, .int .i64 o.service] 44)))
        have ONE := Lib.hid (show ∀ u ∈ o.cells.toList, u.oneCell' = true by have := cellsO_one [o]; simpa [cellsO] using this)
        have NEW := Lib.hid (show ∀ j u, o.cells.toList[j]? = some u → (w1.alloc (.cells #[.int .i64 o.id, .int .i64 o.owner, .int .i64 o.node, .int .i64 o.weight, .int .i64 o.volume, .int .i64 o.frm, .int .i64 o.to, .int .i64 o.service] 44)).cell? ((⟨w1.heap.size, 0, none⟩ : Addr).add j) = some u by
          intro j u hu
          rw [Addr.add_lit, Nat.zero_add]
          exact box_cell w1 o.cells 44 j u (by rw [← Array.getElem?_toList]; exact hu))
        have SZ := Lib.hid (show (w1.alloc (.cells #[.int .i64 o.id, .int .i64 o.owner, .int .i64 o.node, .int .i64 o.weight, .int .i64 o.volume, .int .i64 o.frm, .int .i64 o.to, .int .i64 o.service] 44)).heap.size = w1.heap.size + 1 from World.size_alloc _ _)
        have hA1 := Nat.lt_of_lt_of_le hA HB1.out.size
        have BASE := Lib.hid (show w.heap.size + 1 + 1 ≤ (w1.alloc (.cells #[.int .i64 o.id, .int .i64 o.owner, .int .i64 o.node, .int .i64 o.weight, .int .i64 o.volume, .int .i64 o.frm, .int .i64 o.to, .int .i64 o.service] 44)).heap.size by rw [SZ.out]; omega)
        have BXV := Lib.hid (cell_on (below_new w1 (.cells #[.int .i64 o.id, .int .i64 o.owner, .int .i64 o.node, .int .i64 o.weight, .int .i64 o.volume, .int .i64 o.frm, .int .i64 o.to, .int .i64 o.service] 44)) hbx1)
        clear hA hA1
        go_wp2_with (first
          | (at_builtin; refine Go.wpList_append_lies _ rfl _ _ 37 rfl (w.heap.size + 1 + 1) 44 i0 _ 8 64 Try.underlying37 HI.out HZ0.out HZ1.out HZ2.out rfl (by decide) (.slice a k c) k _ (by rfl) OWN.out ⟨w1.heap.size, 0, none⟩ 1 1 o.cells.toList (by rfl) rfl NEW.out ONE.out (by omega) (by unfold maxLen; omega) (by omega) BASE.out (w1.heap.size + 1) SZ.out ?_; intro g1 p1 w2 q1 q2 q3 q4;
              have n1 := ownR_ne OWN.out (show w.heap.size + 1 < w.heap.size + 1 + 1 by omega);
              have n0 := ownR_ne OWN.out (show w.heap.size < w.heap.size + 1 + 1 by omega);
              have M2 := Lib.hid (MAP.out.kept q2 n1);
              have X2 := Lib.hid (grownR_cell q2 BXV.out n0);
              have Q1 := Lib.hid q1; have Q2 := Lib.hid q2; clear q1 q2 q3 q4 n0 n1)
          | (at_mapUpdate; refine wpList_mapUpdate_own _ rfl _ _ _ 111 rfl 3 4 lawK Try.underlying111 (plainElem (H := Unit) Try.prog 4) (w.heap.size + 1) k _ rfl M2.out (by unfold maxLen; omega) _ _ _ rfl rfl HK.out _ [] (plainElem_bool Try.underlying4 true) ?_; intro w3 hown3 hgrow3))
        have HO3 := Lib.hid hown3
        have HG3 := Lib.hid hgrow3
        clear hown3 hgrow3
        go_roundw
        case rel =>
          refine ⟨k + 1, _, p1, by omega, by go_num, rfl, ⟨fun j hj => ?_, ?_, HSU.out.symm ▸ HO3.out, ?_, ?_⟩⟩
          · by_cases e : j = k
            · subst e; rw [HS.out]; exact HHAS.out
            · exact HT.out.has j (by omega)
          · have := Q1.out
            rw [HPS.out] at this
            refine this.kept HG3.out (.inr fun e => ?_)
            have := (this.lt _ e).1
            omega
          · refine (BEL.out.grown Q2.out BEL.out.size (fun j hj => ?_)).grown HG3.out ?_ (fun j hj => by cases hj; omega)
            · have := (OWN.out.lt j hj).1; omega
            · exact Nat.le_trans BEL.out.size Q2.out.size
          · exact grownR_cell HG3.out X2.out (by intro e; have h : w.heap.size = w.heap.size + 1 := Option.some.inj e; omega)
        case measure => simp [intOf]; omega
    · obtain rfl : k = lS := by omega
      have hall : S.all (hasB O) = true := all_yes (by rw [HSL.out]; exact HT.out.has)
      have HE2 := Lib.hid (show (if decide (Maps.size (SnI (H := Unit) S k) < k) then (6 : Int) else 0) = E by
        rw [← HE.out]; unfold ordersR dupB; rw [hall, HSL.out]; rfl)
      have MAP := Lib.hid HT.out.map
      have htk : S.take k = S := List.take_of_length_le (by rw [HSL.out]; exact Nat.le_refl _)
      have HR := Lib.hid (show ReadsO wr a (picks O S) from ownO_reads (by have := HT.out.own; rw [htk] at this; exact this) (by unfold picks; rw [List.length_map, HSL.out]))
      clear hall htk
      obtain ⟨z, hz⟩ : ∃ z, Maps.size (SnI (H := Unit) S k) = z := ⟨_, rfl⟩
      have HZ := Lib.hid hz
      rw [hz] at HE2
      have BL := Lib.hid HT.out.bel
      clear HT
      by_cases hzk : z < k
      · have F := Lib.hid (show (6 : Int) = E by rw [← HE2.out, decide_eq_true hzk]; rfl)
        go_wp2_with (at_len; refine wpList_len_own _ rfl _ 111 rfl 3 4 Try.underlying111 (plainElem (H := Unit) Try.prog 4) (w.heap.size + 1) k _ rfl MAP.out ?_)
        go_ret2
        exact ⟨_, _, _, pair_retV F.out, fun h => by rw [← F.out] at h; exact absurd h (by decide), BL.out⟩
      · have F := Lib.hid (show (0 : Int) = E by rw [← HE2.out, decide_eq_false hzk]; rfl)
        go_wp2_with (at_len; refine wpList_len_own _ rfl _ 111 rfl 3 4 Try.underlying111 (plainElem (H := Unit) Try.prog 4) (w.heap.size + 1) k _ rfl MAP.out ?_)
        go_ret2
        exact ⟨_, _, _, pair_retV F.out, fun _ => ⟨rfl, HR.out⟩, BL.out⟩
end Go.Proofs.Ytakiciemkecgfaa.Route

/-
  The walk of the reference's Run (layer 8): the same trip as the program's.
-/
import Derived.Test.YtakiciemkecgfaaRefRunA
namespace Go.Proofs.Ytakiciemkecgfaa.Route
open Go.RowKit Go.Proofs Go.Proofs.Ytakiciemkecgfaa.AreaMath Go.Proofs.Ytakiciemkecgfaa.Area Go.Proofs.Ytakiciemkecgfaa.Load Go.Proofs.Ytakiciemkecgfaa.Append
set_option maxRecDepth 100000
set_option linter.unusedVariables false

theorem one_new (w : World) (x : Int) (e : TypeId) : ∀ j q, ([.int .i64 x] : List Value)[j]? = some q → (w.alloc (.cells #[.int .i64 x] e)).cell? ((⟨w.heap.size, 0, none⟩ : Addr).add j) = some q := by
  obtain ⟨ad, h, h2⟩ := one_news w x e (by decide)
  cases h
  exact h2

set_option maxHeartbeats 16000000 in
theorem rrun_any (x : Wd) (q : Wp) (id : Int) (aS : Option Addr) (lS cS : Nat) (S : List Int) (w : World) (h : Lies w x q) (hs : Small x) (hS1 : S.length = lS) (hS : ReadsI w aS S) (hm : lS ≤ 200) :
    Calls Try.prog 38 #[.agg (wcells x.n q), .agg #[.int .i64 id, .slice aS lS cS]] w fun e w' => ∃ a c, e = .returned (.tuple #[.agg #[.slice a (runR x id S).1.vs.length c, .int .i64 (runR x id S).1.back, .int .i64 (runR x id S).1.dist, .int .i64 (runR x id S).1.cost], .int .i64 (runR x id S).2]) ∧
      ReadsV w' a (runR x id S).1.vs ∧ (runR x id S).1.vs.length ≤ c ∧ Below w.heap.size w w' ∧ Fresh w a := by
  have HL := Lib.hid h; have HSm := Lib.hid hs; have HSL := Lib.hid hS1; have HSR := Lib.hid hS
  have HB4 := Lib.hid (boxes4_new w x.n (.slice q.aD q.lD q.cD) (.slice q.aT q.lT q.cT) (.slice q.aO q.lO q.cO) (.slice q.aR q.lR q.cR) id (.slice aS lS cS))
  have HB0 : Hid (Below w.heap.size w ((((w.alloc (.cells #[.int .i64 x.n, .slice q.aD q.lD q.cD, .slice q.aT q.lT q.cT, .slice q.aO q.lO q.cO, .slice q.aR q.lR q.cR] 40)).alloc (.cells #[.int .i64 id, .slice aS lS cS] 55)).alloc (.cells #[.slice none 0 0, .int .i64 0, .int .i64 0, .int .i64 0] 64)).alloc (.cells #[.slice none 0 0, .int .i64 0, .int .i64 0, .int .i64 0] 64))) :=
    below_on (below_on (below_on (below_new _ _) (below_new _ _)) (below_new _ _)) (below_new _ _)
  have HC1 : Hid (∀ w1, Below w.heap.size w w1 → Calls Try.prog 42 #[.agg #[.int .i64 x.n, .slice q.aD q.lD q.cD, .slice q.aT q.lT q.cT, .slice q.aO q.lO q.cO, .slice q.aR q.lR q.cR]] w1 fun e w' => e = .returned (.int .i64 (rworldE x)) ∧ Below w1.heap.size w1 w') := fun w1 hw1 => r8world_any x q w1 (h.below hw1)
  have HC2 : Hid (∀ w1, Below w.heap.size w w1 → Calls Try.prog 44 #[.agg #[.int .i64 x.n, .slice q.aD q.lD q.cD, .slice q.aT q.lT q.cT, .slice q.aO q.lO q.cO, .slice q.aR q.lR q.cR], .int .i64 id] w1 fun e w' => e = .returned (.int .i64 (truckR x.R id)) ∧ Below w1.heap.size w1 w') := fun w1 hw1 => by
    refine (reftruck_any x q id w1 (h.below hw1) (by have := hs.lR; have := h.lR; omega)).mono ?_
    rintro _ w2 ⟨r, rfl, hf, hb⟩
    exact ⟨ret_i64 (hf.same (truckR_found x.R id)), hb⟩
  clear h hs hS1 hS
  obtain ⟨RR, hRR⟩ : ∃ r, runR x id S = r := ⟨_, rfl⟩
  have HRR := Lib.hid hRR
  rw [hRR]
  clear hRR
  unfold wcells
  go_enter Try.func38, Try.ntmps38
  go_wp2_with fail
  refine (HC1.out _ HB0.out).mono ?_
  rintro _ w1 ⟨rfl, hw1⟩
  have H1 := Lib.hid (below_on HB0.out hw1)
  have B1 := Lib.hid (HB4.out.on hw1)
  clear hw1 HB4 HB0 HC1
  by_cases h1 : rworldE x = 0
  · obtain ⟨b0, b1, b2, b3, b4⟩ := B1.out.b3.fb
    obtain ⟨s0, s1⟩ := B1.out.b3.sb
    have HRW := Lib.hid h1
    rw [h1]
    by_cases hz : lS = 0
    · have F := Lib.hid (show RR = (noTrip, 2) by rw [← HRR.out]; unfold runR; rw [if_neg (by rw [HRW.out]; simp), if_pos (.inl (by rw [HSL.out]; exact hz))])
      subst hz
      clear h1
      obtain ⟨z0, z1, z2, z3⟩ := B1.out.b3.zb
      obtain ⟨y0, y1, y2, y3⟩ := B1.out.nb
      have zf := B1.out.b3.zf
      unfold Soft at zf
      go_wp2_with fail
      (try simp only [Exit.inBlock, Exit.then])
      exact rrun_done B1.out.b3.zb none 0 0 0 0 0 2 rfl rfl rfl (err_post F.out (put4_below H1.out (by omega) _ _ _ _))
    by_cases hg : 12 < lS
    · have F := Lib.hid (show RR = (noTrip, 2) by rw [← HRR.out]; unfold runR; rw [if_neg (by rw [HRW.out]; simp), if_pos (.inr (by rw [HSL.out]; exact hg))])
      have hk2 : decide ((lS : Int) < 1) = false := decide_eq_false (by omega)
      clear h1
      obtain ⟨z0, z1, z2, z3⟩ := B1.out.b3.zb
      obtain ⟨y0, y1, y2, y3⟩ := B1.out.nb
      have zf := B1.out.b3.zf
      unfold Soft at zf
      go_wp2_with fail
      (try simp only [Exit.inBlock, Exit.then])
      exact rrun_done B1.out.b3.zb none 0 0 0 0 0 2 rfl rfl rfl (err_post F.out (put4_below H1.out (by omega) _ _ _ _))
    have hk2 : decide ((lS : Int) < 1) = false := decide_eq_false (by omega)
    have HR2 := Lib.hid (show RR = if truckR x.R id < 0 then (noTrip, 5) else if ordersR x.O S ≠ 0 then (noTrip, ordersR x.O S) else tripR x (trkAt x.R (truckR x.R id).toNat) (picks x.O S) by
      rw [← HRR.out]; unfold runR; rw [if_neg (by rw [HRW.out]; simp), if_neg (by rw [HSL.out]; omega)])
    have d12 : decide (12 < (lS : Int)) = false := decide_eq_false (by omega)
    clear h1
    go_wp2_with fail
    refine (HC2.out _ H1.out).mono ?_
    rintro _ w2 ⟨rfl, hw2⟩
    have H2 := Lib.hid (below_on H1.out hw2)
    have B2 := Lib.hid (B1.out.on hw2)
    clear hw2 b0 b1 b2 b3 b4 s0 s1
    rcases truckR_found x.R id with ⟨hr, _⟩ | ⟨m, hml, hr, hid, _⟩
    · have F := Lib.hid (show RR = (noTrip, 5) by rw [HR2.out, if_pos (by rw [hr]; omega)])
      rw [hr]
      clear hr
      obtain ⟨z0, z1, z2, z3⟩ := B2.out.b3.zb
      obtain ⟨y0, y1, y2, y3⟩ := B2.out.nb
      have zf := B2.out.b3.zf
      unfold Soft at zf
      go_wp2_with fail
      (try simp only [Exit.inBlock, Exit.then])
      exact rrun_done B2.out.b3.zb none 0 0 0 0 0 5 rfl rfl rfl (err_post F.out (put4_below H2.out (by omega) _ _ _ _))
    have HML := Lib.hid hml
    have HR3 := Lib.hid (show RR = if ordersR x.O S ≠ 0 then (noTrip, ordersR x.O S) else tripR x (trkAt x.R m) (picks x.O S) by rw [HR2.out, if_neg (by rw [hr]; omega), hr]; rfl)
    rw [hr]
    clear hr hid hml
    have hm0 : decide ((m : Int) < 0) = false := decide_eq_false (by omega)
    have hmR : m < q.lR := by rw [← HL.out.lR]; exact HML.out
    obtain ⟨b, off, ha, hc⟩ := (HL.out.below H2.out).R (by have := HML.out; omega)
    obtain ⟨e0, e1, e2, e3, e4, e5, e6⟩ := trkCells_at (hc m HML.out)
    obtain ⟨tr, htr⟩ : ∃ t, trkAt x.R m = t := ⟨_, rfl⟩
    rw [htr] at e0 e1 e2 e3 e4 e5 e6
    have HTR := Lib.hid htr
    obtain ⟨b0, b1, b2, b3, b4⟩ := B2.out.b3.fb
    rw [ha] at b4
    have d4 := b4
    clear hc htr b0 b1 b2 b3
    have HWT := Lib.hid (below_new w2 (.cells #[.int .i64 tr.id, .int .i64 tr.weight, .int .i64 tr.volume, .int .i64 tr.start, .int .i64 tr.stop, .int .i64 tr.fixed, .int .i64 tr.rate] 42))
    have TT := Lib.hid (TBox.new w2 tr)
    unfold Trk.cells at TT
    have HSZ := Lib.hid (show (w2.alloc (.cells #[.int .i64 tr.id, .int .i64 tr.weight, .int .i64 tr.volume, .int .i64 tr.start, .int .i64 tr.stop, .int .i64 tr.fixed, .int .i64 tr.rate] 42)).heap.size = w2.heap.size + 1 from World.size_alloc _ _)
    have HST := Lib.hid (stops_start (w2.alloc (.cells #[.int .i64 tr.id, .int .i64 tr.weight, .int .i64 tr.volume, .int .i64 tr.start, .int .i64 tr.stop, .int .i64 tr.fixed, .int .i64 tr.rate] 42)) x.O S)
    rw [HSZ.out] at HST
    go_wp2_with fail
    clear e0 e1 e2 e3 e4 e5 e6 b4 d4
    obtain ⟨W, hW⟩ : ∃ W, w2.alloc (.cells #[.int .i64 tr.id, .int .i64 tr.weight, .int .i64 tr.volume, .int .i64 tr.start, .int .i64 tr.stop, .int .i64 tr.fixed, .int .i64 tr.rate] 42) = W := ⟨_, rfl⟩
    rw [hW] at HWT TT HSZ HST ⊢
    have H3 := Lib.hid (below_on H2.out HWT.out)
    have B3 := Lib.hid (B2.out.on HWT.out)
    have HLW := Lib.hid (HL.out.below H3.out)
    have HSW := Lib.hid (HSR.out.below H3.out)
    clear hW HWT
    go_loopw [13, 10, 11, 12] (fun i v10 v11 tw wr => ∃ k : Nat, k ≤ lS ∧ i = .int .i64 k ∧ tw = .bool (dup2 S k) ∧ StopsSt (w2.heap.size + 1) W wr x.O S k v10 v11) (fun i v10 v11 tw wr => lS - (intOf i).toNat)
    case atStart => exact ⟨0, by omega, rfl, rfl, HST.out⟩
    case round =>
      obtain ⟨k, hk, rfl, rfl, hT⟩ := hrel
      have HT := Lib.hid hT; clear hT
      have HBW := Lib.hid (show Below W.heap.size W wr by rw [HSZ.out]; exact HT.out.bel)
      obtain ⟨tk, htk⟩ : ∃ t, dup2 S k = t := ⟨_, rfl⟩
      have HTK := Lib.hid htk
      rw [htk]
      clear htk
      obtain ⟨b0, b1, b2, b3, b4⟩ := (B3.out.on HBW.out).b3.fb
      obtain ⟨s0, s1⟩ := (B3.out.on HBW.out).b3.sb
      by_cases hlt : k < lS
      · have hkl : k < S.length := by rw [HSL.out]; exact hlt
        have HKL := Lib.hid hkl
        obtain ⟨sb, soff, hsa, hsc⟩ := HSW.out.below HBW.out (by omega)
        have cs := hsc k hkl
        have HCS := Lib.hid (show ∀ j, j < S.length → wr.cell? ⟨sb, soff + j, none⟩ = some (.int .i64 (at_ S j)) from hsc)
        have hns := nodes_snoc x.O S k hkl
        have hps := picks_snoc x.O S k hkl
        have NK := Lib.hid hns; have PK := Lib.hid hps
        obtain ⟨s, hs⟩ : ∃ s, at_ S k = s := ⟨_, rfl⟩
        rw [hs] at cs NK PK
        have HS := Lib.hid hs
        have HFD := Lib.hid (rfind_any q.aO x.O q.lO q.cO s wr.drew HL.out.lO ((HLW.out.below HBW.out).O.below (Below.refl wr.heap.size wr).drew) (by have := HSm.out.lO; have := HL.out.lO; omega))
        have BRD := Lib.hid (Below.refl wr.heap.size wr).drew
        rw [hsa] at s1
        have HSA := Lib.hid hsa
        have S1 := Lib.hid s1
        have B3F := Lib.hid b3
        clear hsc hs hkl hns hps hsa
        go_wp2_with fail
        go_region_held_law (fun w' => (w'.cell? ⟨w.heap.size, 3, none⟩ = some (.slice q.aO q.lO q.cO) ∧ w'.cell? ⟨w.heap.size + 1, 1, none⟩ = some (.slice (some ⟨sb, soff, none⟩) lS cS)) ∧ w'.cell? ⟨sb, soff + k, none⟩ = some (.int .i64 s))
          (first | exact ⟨⟨b3, s1⟩, cs⟩ | exact HS5.out | go_keep)
          (first | (go_at_call 34; refine HFD.out.mono ?_; rintro _ w5 ⟨r, rfl, hf, hb5⟩; have HF5 := Lib.hid hf; have H5 := Lib.hid (below_on BRD.out hb5); have HS5 := Lib.hid (show ((w5.cell? ⟨w.heap.size, 3, none⟩ = some (.slice q.aO q.lO q.cO) ∧ w5.cell? ⟨w.heap.size + 1, 1, none⟩ = some (.slice (some ⟨sb, soff, none⟩) lS cS)) ∧ w5.cell? ⟨sb, soff + k, none⟩ = some (.int .i64 s)) from ⟨⟨cell_on H5.out b3, cell_on H5.out s1⟩, cell_on H5.out cs⟩); clear hb5 hf))
        have HB5 := Lib.hid (below_on HBW.out H5.out)
        have T5 := Lib.hid (HT.out.on H5.out (by rw [← HSZ.out]; exact HBW.out.size))
        have B5 := Lib.hid (B3.out.on HB5.out)
        have H35 := Lib.hid (below_on H3.out HB5.out)
        have HCS5 := Lib.hid (show ∀ j, j < S.length → w5.cell? ⟨sb, soff + j, none⟩ = some (.int .i64 (at_ S j)) from fun j hj => cell_on H5.out (HCS.out j hj))
        clear b0 b1 b2 b3 b4 s0 s1 cs HS5 HFD BRD HCS S1 B3F HT HBW H5
        rcases HF5.out with ⟨hr, hno⟩ | ⟨m2, hml2, hr, hid2, hfirst2⟩
        · have F := Lib.hid (show RR = (noTrip, 5) by
            have ho : ordersR x.O S = 5 := by
              unfold ordersR
              rw [all_not HKL.out (by rw [HS.out]; exact found_not hno)]; rfl
            rw [HR3.out, ho, if_pos (by decide)])
          subst hr
          clear hno
          obtain ⟨z0, z1, z2, z3⟩ := B5.out.b3.zb
          obtain ⟨y0, y1, y2, y3⟩ := B5.out.nb
          have zf := B5.out.b3.zf
          unfold Soft at zf
          go_wp2_with fail
          (try simp only [Exit.inBlock, Exit.then])
          exact rrun_done B5.out.b3.zb none 0 0 0 0 0 5 rfl rfl rfl (err_post F.out (put4_below H35.out (by omega) _ _ _ _))
        · subst hr
          obtain ⟨hhas, hpk⟩ := found_has hml2 hid2 hfirst2
          have HHAS := Lib.hid hhas
          have hmO : m2 < q.lO := by rw [← HL.out.lO]; exact hml2
          obtain ⟨ob, ooff, hoa, hoc⟩ := HLW.out.O (by omega)
          obtain ⟨e0, e1, e2, e3, e4, e5, e6, e7⟩ := ordCells_at (hoc m2 hml2)
          rw [← hpk] at e0 e1 e2 e3 e4 e5 e6 e7
          obtain ⟨o, ho⟩ : ∃ o, pick x.O s = o := ⟨_, rfl⟩
          rw [ho] at e0 e1 e2 e3 e4 e5 e6 e7 NK PK
          have HE := Lib.hid (And.intro e0 (And.intro e1 (And.intro e2 (And.intro e3 (And.intro e4 (And.intro e5 (And.intro e6 e7)))))))
          have HOA := Lib.hid hoa
          have hm20 : decide ((m2 : Int) < 0) = false := decide_eq_false (by omega)
          have HQR := Lib.hid (Below.refl w5.heap.size w5)
          clear hoc ho hpk hid2 hfirst2 hml2 e0 e1 e2 e3 e4 e5 e6 e7 hoa hhas
          go_wp2_with fail
          go_loopw [15, 12] (fun i tw wr => ∃ mm : Nat, mm ≤ k ∧ i = .int .i64 mm ∧ tw = .bool (tk || eqUp S k mm) ∧ Below w5.heap.size w5 wr) (fun i tw wr => k - (intOf i).toNat)
          case atStart => exact ⟨0, by omega, rfl, by rw [eqUp_zero, Bool.or_false], HQR.out⟩
          case round =>
            obtain ⟨mm, hmm, rfl, rfl, hb2⟩ := hrel
            have HBM := Lib.hid hb2; clear hb2
            obtain ⟨t, ht⟩ : ∃ t, (tk || eqUp S k mm) = t := ⟨_, rfl⟩
            have HTT := Lib.hid ht
            rw [ht]
            clear ht
            by_cases hmk : mm < k
            · have cm := cell_on HBM.out (HCS5.out mm (by have := HKL.out; omega))
              have ck := cell_on HBM.out (HCS5.out k HKL.out)
              obtain ⟨_, s1⟩ := (B5.out.on HBM.out).b3.sb
              rw [HSA.out] at s1
              obtain ⟨im, him⟩ : ∃ i, at_ S mm = i := ⟨_, rfl⟩
              rw [him] at cm
              rw [HS.out] at ck
              have HEQ := Lib.hid (show (at_ S mm == at_ S k) = (im == s) by rw [him, HS.out])
              have hmq : mm < lS := by omega
              clear him
              cases t with
              | true =>
                go_wp2_with fail
                go_quiet (fail)
                go_wp2_with fail
                go_roundw
                case rel => exact ⟨mm + 1, by omega, by go_num, by rw [eqUp_succ, ← Bool.or_assoc, HTT.out, Bool.true_or], below_drewN HBM.out _⟩
                case measure => simp [intOf]; omega
              | false =>
                cases he : (im == s) with
                | true =>
                  go_wp2_with fail
                  go_quiet (fail)
                  go_wp2_with fail
                  go_roundw
                  case rel => exact ⟨mm + 1, by omega, by go_num, by rw [eqUp_succ, ← Bool.or_assoc, HTT.out, HEQ.out, he, Bool.false_or], below_drewN HBM.out _⟩
                  case measure => simp [intOf]; omega
                | false =>
                  go_wp2_with fail
                  go_quiet (fail)
                  go_wp2_with fail
                  go_roundw
                  case rel => exact ⟨mm + 1, by omega, by go_num, by rw [eqUp_succ, ← Bool.or_assoc, HTT.out, HEQ.out, he, Bool.false_or], below_drewN HBM.out _⟩
                  case measure => simp [intOf]; omega
            · obtain rfl : mm = k := by omega
              have HBA := Lib.hid (below_on HB5.out HBM.out)
              have U0 := Lib.hid (T5.out.on HBM.out (by rw [← HSZ.out]; exact HB5.out.size))
              have U1 := Lib.hid (U0.out.on (below_new wr (.cells #[.int .i64 o.id, .int .i64 o.owner, .int .i64 o.node, .int .i64 o.weight, .int .i64 o.volume, .int .i64 o.frm, .int .i64 o.to, .int .i64 o.service] 44)) (by rw [← HSZ.out]; exact HBA.out.size))
              have BAS := Lib.hid (show w2.heap.size + 1 ≤ (wr.alloc (.cells #[.int .i64 o.id, .int .i64 o.owner, .int .i64 o.node, .int .i64 o.weight, .int .i64 o.volume, .int .i64 o.frm, .int .i64 o.to, .int .i64 o.service] 44)).heap.size by rw [← HSZ.out]; exact Nat.le_trans HBA.out.size (below_new wr (.cells #[.int .i64 o.id, .int .i64 o.owner, .int .i64 o.node, .int .i64 o.weight, .int .i64 o.volume, .int .i64 o.frm, .int .i64 o.to, .int .i64 o.service] 44)).size)
              have ONE := Lib.hid (show ∀ u ∈ o.cells.toList, u.oneCell' = true by have := cellsO_one [o]; simpa [cellsO] using this)
              have NEW := Lib.hid (show ∀ j u, o.cells.toList[j]? = some u → (wr.alloc (.cells #[.int .i64 o.id, .int .i64 o.owner, .int .i64 o.node, .int .i64 o.weight, .int .i64 o.volume, .int .i64 o.frm, .int .i64 o.to, .int .i64 o.service] 44)).cell? ((⟨wr.heap.size, 0, none⟩ : Addr).add j) = some u by
                intro j u hu
                rw [Addr.add_lit, Nat.zero_add]
                exact box_cell wr o.cells 44 j u (by rw [← Array.getElem?_toList]; exact hu))
              obtain ⟨b0, b1, b2, b3, b4⟩ := (B3.out.on HBA.out).b3.fb
              rw [HOA.out] at b3
              obtain ⟨e0, e1, e2, e3, e4, e5, e6, e7⟩ := HE.out
              have g0 := cell_on HBA.out e0; have g1 := cell_on HBA.out e1; have g2 := cell_on HBA.out e2; have g3 := cell_on HBA.out e3; have g4 := cell_on HBA.out e4; have g5 := cell_on HBA.out e5; have g6 := cell_on HBA.out e6; have g7 := cell_on HBA.out e7
              clear e0 e1 e2 e3 e4 e5 e6 e7 b0 b1 b2 b4
              obtain ⟨i0, hi, hz0, hz1, hz2⟩ := info_parts info44
              have HI := Lib.hid hi; have HZ0 := Lib.hid hz0; have HZ1 := Lib.hid hz1; have HZ2 := Lib.hid hz2
              clear hi hz0 hz1 hz2
              obtain ⟨j0, hi, hz0, hz1, hz2⟩ := info_parts info3
              have JI := Lib.hid hi; have JZ0 := Lib.hid hz0; have JZ1 := Lib.hid hz1; have JZ2 := Lib.hid hz2
              clear hi hz0 hz1 hz2
              go_wp2_with (first
                | (at_builtin; refine wpList_append_two _ rfl _ _ 37 rfl (w2.heap.size + 1) 44 i0 _ 8 64 Try.underlying37 HI.out HZ0.out HZ1.out HZ2.out rfl (by decide) 3 1 u10 u11 mm mm _ _ (by rfl) U1.out.ownO U1.out.ownN U1.out.ap ⟨wr.heap.size, 0, none⟩ 1 1 o.cells.toList (by rfl) rfl NEW.out ONE.out (by omega) (by unfold maxLen; omega) (by omega) BAS.out (mm + 1) rfl _ PK.out ?_; intro g1 p1 w6 q1 q2 q3 q4 q5;
                    have HB6 := Lib.hid (show Below W.heap.size W w6 by rw [HSZ.out]; exact U1.out.bel.trans q4);
                    have a3 := (B3.out.on HB6.out).b3.fb.2.2.2.1; rw [HOA.out] at a3; have a2 := cell_on HB6.out HE.out.2.2.1;
                    have O1 := Lib.hid (row_on q1 (below_new w6 (.cells #[.int .i64 o.node] 3))); have N1 := Lib.hid (row_on q2 (below_new w6 (.cells #[.int .i64 o.node] 3))); have A1 := Lib.hid q3;
                    have BAT := Lib.hid (show w2.heap.size + 1 ≤ (w6.alloc (.cells #[.int .i64 o.node] 3)).heap.size by rw [← HSZ.out]; exact Nat.le_trans HB6.out.size (below_new w6 (.cells #[.int .i64 o.node] 3)).size);
                    have BEL := Lib.hid (show Below (w2.heap.size + 1) W (w6.alloc (.cells #[.int .i64 o.node] 3)) by rw [← HSZ.out]; exact below_on HB6.out (below_new _ _));
                    clear q1 q2 q3 q4 q5)
                | (at_builtin; refine wpList_append_two _ rfl _ _ 25 rfl (w2.heap.size + 1) 3 j0 (.int .i64 0) 1 8 Try.underlying25 JI.out JZ0.out JZ1.out JZ2.out rfl (by decide) 44 8 u11 (.slice (some ⟨g1, 0, none⟩) (mm + 1) p1) mm (mm + 1) _ _ (by rfl) N1.out O1.out A1.out.symm ⟨w6.heap.size, 0, none⟩ 1 1 [.int .i64 o.node] (by rfl) rfl (one_new w6 o.node 3) (intsV_one [o.node]) (by omega) (by unfold maxLen; omega) (by omega) BAT.out (mm + 1) rfl _ NK.out ?_; intro g2 p2 w7 q1 q2 q3 q4 q5; have N2 := Lib.hid q1; have O2 := Lib.hid q2; have A2 := Lib.hid q3; have BE2 := Lib.hid (BEL.out.trans q4); clear q1 q2 q3 q4 q5))
              go_roundw
              case rel => exact ⟨mm + 1, by omega, by go_num, by show _ = Value.bool (dup2 S mm || eqUp S mm mm); rw [HTK.out, HTT.out], ⟨fun j hj => by
                by_cases e : j = mm
                · subst e; rw [HS.out]; exact HHAS.out
                · exact U0.out.has j (by omega), O2.out, N2.out, Apart.symm A2.out, BE2.out⟩⟩
              case measure => simp [intOf]; omega
      · obtain rfl : k = lS := by omega
        have hall : S.all (hasB x.O) = true := all_yes (by rw [HSL.out]; exact HT.out.has)
        have htk2 : S.take k = S := List.take_of_length_le (by rw [HSL.out]; exact Nat.le_refl _)
        have hdup : dupB S = tk := by rw [← dup2_dupB, ← HTK.out, HSL.out]
        have o10 := HT.out.ownO
        have o11 := HT.out.ownN
        rw [htk2] at o10 o11
        have hlen : (picks x.O S).length = k := by unfold picks; rw [List.length_map]; exact HSL.out
        obtain ⟨ga, ca, rfl, _, _⟩ := o10.form (by omega)
        obtain ⟨gn, cn, rfl, _, _⟩ := o11.form (by omega)
        have HLO := Lib.hid (ownO_reads o10 hlen)
        have HLN := Lib.hid (reads_own o11 (by unfold nodesOf; rw [List.length_map]; exact hlen))
        have HE := Lib.hid (show ordersR x.O S = if tk then 6 else 0 by unfold ordersR; rw [hall, hdup]; rfl)
        have H4 := Lib.hid (below_on H3.out HBW.out)
        have B4 := Lib.hid (B3.out.on HBW.out)
        have T4 := Lib.hid (show TBox wr w2.heap.size tr by have h := TT.out; exact TBox.on h HBW.out)
        have hll : (picks x.O S).length = k := hlen
        clear hall htk2 hdup o10 o11 hlen HTK HT b0 b1 b2 b3 b4
        cases tk with
        | true =>
          have F := Lib.hid (show RR = (noTrip, 6) by rw [HR3.out, HE.out]; rfl)
          clear hll
          obtain ⟨z0, z1, z2, z3⟩ := B4.out.b3.zb
          obtain ⟨y0, y1, y2, y3⟩ := B4.out.nb
          have zf := B4.out.b3.zf
          unfold Soft at zf
          go_wp2_with fail
          (try simp only [Exit.inBlock, Exit.then])
          exact rrun_done B4.out.b3.zb none 0 0 0 0 0 6 rfl rfl rfl (err_post F.out (put4_below H4.out (by omega) _ _ _ _))
        | false =>
          have HR4 := Lib.hid (show RR = tripR x tr (picks x.O S) by rw [HR3.out, HE.out, HTR.out]; rfl)
          have HPO := Lib.hid (picks_ok (show ordersR x.O S = 0 by rw [HE.out]; rfl))
          obtain ⟨l, hl⟩ : ∃ l, picks x.O S = l := ⟨_, rfl⟩
          rw [hl] at hll HLO HLN HR4 HPO
          have HLL := Lib.hid hll
          clear hl hll
          have HCA := Lib.hid (rcarries_any tr (some ⟨ga, 0, none⟩) l k ca wr HLL.out HLO.out (by omega))
          unfold Trk.cells at HCA
          obtain ⟨t0, t1, t2, t3, t4, t5, t6⟩ := T4.out
          go_wp2_with fail
          refine HCA.out.mono ?_
          rintro _ w4 ⟨rfl, hw4⟩
          have HW4 := Lib.hid hw4
          have H5 := Lib.hid (below_on H4.out hw4)
          have B5 := Lib.hid (B4.out.on hw4)
          have T5 := Lib.hid (T4.out.on hw4)
          have HLR := Lib.hid (HLO.out.below hw4)
          have HNR := Lib.hid (HLN.out.below hw4)
          clear hw4 t0 t1 t2 t3 t4 t5 t6 HCA s0 s1
          by_cases h3 : carriesE tr l = 0
          · have HCZ := Lib.hid h3
            rw [h3]
            clear h3
            obtain ⟨hv, hwe⟩ := rworld_ok HRW.out
            have hwk := worldE_ok hwe
            obtain ⟨v1, v2, _⟩ := validB_iff.1 hv
            have HV := Lib.hid hv
            have HOK := Lib.hid (show ∀ o ∈ l, OrdOk x.n o from fun o ho => ord_ok v1 v2 (hwk.2.2.1 o (HPO.out o ho)))
            have HTOK := Lib.hid (show TrkOk tr by
              rw [← HTR.out]
              exact trk_ok (hwk.2.2.2.1 _ (by rw [trkAt_get _ _ HML.out]; exact List.getElem_mem _)))
            have HN0 := Lib.hid (show nodeB x.n 0 = true from nodeB_iff.2 (by omega))
            have HP0 := Lib.hid (show PlOk x.n 0 (startP tr) from ⟨HN0.out, by have := HTOK.out.1; unfold startP; dsimp only; omega, by unfold startP; dsimp only; omega⟩)
            have HRS := Lib.hid (refSt_start w4 x l (startP tr))
            clear hv hwe hwk v1 v2
            obtain ⟨t0, t1, t2, t3, t4, t5, t6⟩ := T5.out
            have t3' := cell_on (below_new w4 (.cells #[.slice none 0 0, .int .i64 0, .int .i64 0, .int .i64 0] 64)) t3
            go_wp2_with fail
            clear t0 t1 t2 t3 t4 t5 t6 t3'
            go_loopw [21, 18, 19, 20] (fun i nw nd lt wr => ∃ (j : Nat) (a2 : Option Addr) (c2 : Nat), j ≤ k ∧ i = .int .i64 j ∧ nw = .int .i64 (placeK x.n x.D x.T l (startP tr) j).time ∧ nd = .int .i64 (placeK x.n x.D x.T l (startP tr) j).node ∧ lt = .bool (lateUp x.n x.D x.T l (startP tr) j) ∧ RefSt w4.heap.size w4 wr x l (startP tr) j a2 c2) (fun i nw nd lt wr => k - (intOf i).toNat)
            case atStart => exact ⟨0, none, 0, by omega, rfl, rfl, rfl, rfl, HRS.out⟩
            case round =>
              obtain ⟨j, a2, c2, hj, rfl, rfl, rfl, rfl, hT⟩ := hrel
              have HT := Lib.hid hT; clear hT
              have hlt4 : w4.heap.size < wr.heap.size := World.block_lt_of_cell? _ _ HT.out.z0
              obtain ⟨b0, b1, b2, b3, b4⟩ := (B5.out.on HT.out.bel).b3.fb
              have hpl := plOk_at HV.out HOK.out HP0.out j (by rw [HLL.out]; exact hj)
              by_cases hlt : j < k
              · have hjl : j < l.length := by rw [HLL.out]; exact hlt
                obtain ⟨lb, loff, hla, hlc⟩ := HLR.out (by omega)
                cases hla
                obtain ⟨e0, e1, e2, e3, e4, e5, e6, e7⟩ := ordCells_at (hlc j hjl)
                have HGA := Lib.hid (World.block_lt_of_cell? _ _ e0)
                have e0 := cell_on HT.out.bel e0; have e1 := cell_on HT.out.bel e1; have e2 := cell_on HT.out.bel e2; have e3 := cell_on HT.out.bel e3; have e4 := cell_on HT.out.bel e4; have e5 := cell_on HT.out.bel e5; have e6 := cell_on HT.out.bel e6; have e7 := cell_on HT.out.bel e7
                rw [Nat.zero_add] at e0 e1 e2 e3 e4 e5 e6 e7
                have hoo := HOK.out (ordAt l j) (by unfold ordAt; simp [List.getD_eq_getElem?_getD, List.getElem?_eq_getElem hjl])
                have hsu := placeK_succ x.n x.D x.T l (startP tr) j hjl
                have hvs := visits_succ x.n x.D x.T l (startP tr) j
                have hls := lateUp_succ x.n x.D x.T l (startP tr) j
                have hvk : visK x.n x.D x.T l (startP tr) j = visOf x.n x.T (placeK x.n x.D x.T l (startP tr) j) (ordAt l j) := rfl
                rw [hvk] at hvs hls
                obtain ⟨p, hp⟩ : ∃ p, placeK x.n x.D x.T l (startP tr) j = p := ⟨_, rfl⟩
                obtain ⟨o, ho⟩ : ∃ o, ordAt l j = o := ⟨_, rfl⟩
                obtain ⟨lu, hlu⟩ : ∃ t, lateUp x.n x.D x.T l (startP tr) j = t := ⟨_, rfl⟩
                rw [hp, ho] at hsu hvs hls
                rw [hlu] at hls
                rw [hp] at hpl
                rw [ho] at hoo e0 e1 e2 e3 e4 e5 e6 e7
                rw [hp, hlu]
                have HSU := Lib.hid hsu; have HVS := Lib.hid hvs; have HLS := Lib.hid hls
                obtain ⟨v1, v2, v3, v4, v5, v6⟩ := validB_iff.1 HV.out
                have r2 := leg_range v6 v4 hpl.1 hoo.1
                have hle : legE x.n x.D x.T p.node o.node = 0 := legE_zero.2 ⟨HV.out, hpl.1, hoo.1⟩
                have HLG := Lib.hid (rleg_any x.n p.node o.node q.aD q.aT x.D x.T q.lD q.lT q.cD q.cT wr.drew HL.out.lD HL.out.lT (((HL.out.below H5.out).below HT.out.bel).D.below (Below.refl wr.heap.size wr).drew) (((HL.out.below H5.out).below HT.out.bel).T.below (Below.refl wr.heap.size wr).drew))
                have vT : legV x.n x.D x.T x.T p.node o.node = leg x.n x.T p.node o.node := by unfold legV; rw [if_pos hle]
                rw [vT, hle] at HLG
                obtain ⟨dv, hdv⟩ : ∃ u, legV x.n x.D x.T x.D p.node o.node = u := ⟨_, rfl⟩
                rw [hdv] at HLG
                have HBA := Lib.hid (show beginAt x.n x.T p o = max (p.time + leg x.n x.T p.node o.node) o.frm from rfl)
                have HVO := Lib.hid (show visOf x.n x.T p o = ⟨o.id, p.time + leg x.n x.T p.node o.node, beginAt x.n x.T p o, beginAt x.n x.T p o + o.service⟩ from rfl)
                have HNP := Lib.hid (show (nextP x.n x.D x.T p o).time = beginAt x.n x.T p o + o.service ∧ (nextP x.n x.D x.T p o).node = o.node from ⟨rfl, rfl⟩)
                obtain ⟨lt, hlt'⟩ : ∃ u, leg x.n x.T p.node o.node = u := ⟨_, rfl⟩
                rw [hlt'] at HLG r2 HBA HVO
                have BRD := Lib.hid (Below.refl wr.heap.size wr).drew
                have pt0 := hpl.2.1.1
                have pt1 : p.time ≤ 1000000000 := by have := hpl.2.1.2; omega
                obtain ⟨lt0, lt1⟩ := r2
                have of0 := hoo.2.1.1
                have of1 := hoo.2.1.2.1
                have of2 := hoo.2.1.2.2
                have os0 := hoo.2.2.1.1
                have os1 := hoo.2.2.1.2
                have EE := Lib.hid (And.intro e0 (And.intro e2 (And.intro e5 (And.intro e6 e7))))
                clear hlc hjl hsu hvs hls hvk hp ho hlu hpl hoo v1 v2 v3 v4 v5 v6 hle vT hdv hlt'
                go_wp2_with fail
                go_region_held_law (fun w' => (w'.cell? ⟨w.heap.size, 0, none⟩ = some (.int .i64 x.n) ∧ w'.cell? ⟨w.heap.size, 1, none⟩ = some (.slice q.aD q.lD q.cD) ∧ w'.cell? ⟨w.heap.size, 2, none⟩ = some (.slice q.aT q.lT q.cT)) ∧ w'.cell? ⟨ga, j * 8 + 2, none⟩ = some (.int .i64 o.node))
                  (first | exact ⟨⟨b0, b1, b2⟩, e2⟩ | exact HS5.out | go_keep)
                  (first | (go_at_call 15; refine HLG.out.mono ?_; rintro _ w5 ⟨rfl, hb5⟩; have H6 := Lib.hid (below_on BRD.out hb5); have HS5 := Lib.hid (show ((w5.cell? ⟨w.heap.size, 0, none⟩ = some (.int .i64 x.n) ∧ w5.cell? ⟨w.heap.size, 1, none⟩ = some (.slice q.aD q.lD q.cD) ∧ w5.cell? ⟨w.heap.size, 2, none⟩ = some (.slice q.aT q.lT q.cT)) ∧ w5.cell? ⟨ga, j * 8 + 2, none⟩ = some (.int .i64 o.node)) from ⟨⟨cell_on H6.out b0, cell_on H6.out b1, cell_on H6.out b2⟩, cell_on H6.out e2⟩); clear hb5))
                clear b0 b1 b2 b3 b4 e0 e1 e2 e3 e4 e5 e6 e7 HS5 HLG
                have BLE := Lib.hid (Nat.le_of_lt hlt4)
                have HB6 := Lib.hid (HT.out.bel.trans (H6.out.mono BLE.out))
                have R6 := Lib.hid (HT.out.on H6.out)
                have E6 := Lib.hid (show w5.cell? ⟨ga, j * 8, none⟩ = some (.int .i64 o.id) ∧ w5.cell? ⟨ga, j * 8 + 2, none⟩ = some (.int .i64 o.node) ∧ w5.cell? ⟨ga, j * 8 + 5, none⟩ = some (.int .i64 o.frm) ∧ w5.cell? ⟨ga, j * 8 + 6, none⟩ = some (.int .i64 o.to) ∧ w5.cell? ⟨ga, j * 8 + 7, none⟩ = some (.int .i64 o.service) from ⟨cell_on H6.out EE.out.1, cell_on H6.out EE.out.2.1, cell_on H6.out EE.out.2.2.1, cell_on H6.out EE.out.2.2.2.1, cell_on H6.out EE.out.2.2.2.2⟩)
                have VB0 := Lib.hid (vbox_new w5 o.id (p.time + lt) 0 0)
                have VBW := Lib.hid (below_new w5 (.cells #[.int .i64 o.id, .int .i64 (p.time + lt), .int .i64 0, .int .i64 0] 102))
                have d0 := E6.out.1
                have k1 := VB0.out.c1
                have k2 := VB0.out.c2
                have kf := VB0.out.sf
                unfold Soft at kf
                clear HT EE H6 hlt4
                go_wp2_with fail
                clear d0 k1 k2 kf VB0 VBW
                have VB1 := Lib.hid (vbox_new w5 o.id (p.time + lt) (p.time + lt) 0)
                have VBW1 := Lib.hid (below_new w5 (.cells #[.int .i64 o.id, .int .i64 (p.time + lt), .int .i64 (p.time + lt), .int .i64 0] 102))
                obtain ⟨V, hV⟩ : ∃ V, w5.alloc (.cells #[.int .i64 o.id, .int .i64 (p.time + lt), .int .i64 (p.time + lt), .int .i64 0] 102) = V := ⟨_, rfl⟩
                rw [hV] at VB1 VBW1 ⊢
                clear hV
                have k2 := VB1.out.c2
                have k2f := VB1.out.sf 2
                have d5 := cell_on VBW1.out E6.out.2.2.1
                have NG := Lib.hid (show some w5.heap.size ≠ (Value.slice a2 j c2).ownBlock from fun e => by have := (R6.out.own.lt _ e.symm).2; omega)
                by_cases hbg : p.time + lt < o.frm
                · go_quiet (fail)
                  go_wp2_with fail
                  have BG0 : Hid (beginAt x.n x.T p o = o.frm) := by show beginAt x.n x.T p o = o.frm; rw [HBA.out]; omega
                  obtain ⟨bg, hbgq⟩ : ∃ t, o.frm = t := ⟨_, rfl⟩
                  have BG := Lib.hid (show beginAt x.n x.T p o = bg by rw [← hbgq]; exact BG0.out)
                  have bg0 : 0 ≤ bg := by omega
                  have bg1 : bg ≤ 2000000000 := by omega
                  have s1 : IntKind.i64.wrap (bg + o.service) = bg + o.service := IntWalk.i64_in _ (by omega)
                  rw [hbgq]
                  clear hbgq hbg BG0
                  obtain ⟨V5, hV5⟩ : ∃ V5, (V.drewN nq).setCell ⟨w5.heap.size, 2, none⟩ (.int .i64 bg) = V5 := ⟨_, rfl⟩
                  have VB5 := Lib.hid ((VB1.out.drewN nq).set2 bg)
                  have BV5 := Lib.hid (show Below w5.heap.size w5 ((V.drewN nq).setCell ⟨w5.heap.size, 2, none⟩ (.int .i64 bg)) from (below_drewN VBW1.out nq).setCell (Nat.le_refl _) _)
                  rw [hV5] at VB5 BV5 ⊢
                  clear hV5 k2 k2f d5 VB1
                  have c2 := VB5.out.c2
                  have c3 := VB5.out.c3
                  have c3f := VB5.out.sf 3
                  have d7 := cell_on BV5.out E6.out.2.2.2.2
                  go_region
                  obtain ⟨V6, hV6⟩ : ∃ V6, (V5.setCell ⟨w5.heap.size, 3, none⟩ (.int .i64 (bg + o.service))).drew = V6 := ⟨_, rfl⟩
                  have VB6 := Lib.hid (VB5.out.set3 (bg + o.service)).drew
                  have BV6 := Lib.hid (show Below w5.heap.size w5 (V5.setCell ⟨w5.heap.size, 3, none⟩ (.int .i64 (bg + o.service))).drew from (BV5.out.setCell (Nat.le_refl _) _).drew)
                  rw [hV6] at VB6 BV6 ⊢
                  clear hV6 c2 c3 c3f d7 VB5 BV5
                  have c2 := VB6.out.c2
                  have d6 := cell_on BV6.out E6.out.2.2.2.1
                  go_wp2_with fail
                  cases lu with
                  | true =>
                    go_quiet (fail)
                    obtain ⟨V7, hV7⟩ : ∃ V7, V6.drewN nq = V7 := ⟨_, rfl⟩
                    have VB7 := Lib.hid (VB6.out.drewN nq)
                    have BV7 := Lib.hid (below_drewN BV6.out nq)
                    rw [hV7] at VB7 BV7 ⊢
                    clear hV7 c2 d6
                    have R7 := Lib.hid (R6.out.on BV7.out)
                    have BLT := Lib.hid (show w4.heap.size < V7.heap.size from World.block_lt_of_cell? _ _ R7.out.z0)
                    have z0 := R7.out.z0
                    have v0 := VB7.out.c0; have v1 := VB7.out.c1; have v2 := VB7.out.c2; have v3 := VB7.out.c3
                    have NA := Lib.hid (below_new V7 (.cells #[.int .i64 o.id, .int .i64 (p.time + lt), .int .i64 bg, .int .i64 (bg + o.service)] 102))
                    have OWN := Lib.hid (row_on R7.out.own NA.out)
                    have SZ := Lib.hid (show (V7.alloc (.cells #[.int .i64 o.id, .int .i64 (p.time + lt), .int .i64 bg, .int .i64 (bg + o.service)] 102)).heap.size = V7.heap.size + 1 from World.size_alloc _ _)
                    have NEW := Lib.hid (vbox_news (w := V7) (g := 0) ⟨o.id, p.time + lt, bg, bg + o.service⟩)
                    have ONE := Lib.hid (show ∀ u ∈ (⟨o.id, p.time + lt, bg, bg + o.service⟩ : Vis).cells.toList, u.oneCell' = true by have := cellsV_one [⟨o.id, p.time + lt, bg, bg + o.service⟩]; simpa [cellsV] using this)
                    have BASE := Lib.hid (show w4.heap.size + 1 ≤ (V7.alloc (.cells #[.int .i64 o.id, .int .i64 (p.time + lt), .int .i64 bg, .int .i64 (bg + o.service)] 102)).heap.size by have : w4.heap.size < V7.heap.size := World.block_lt_of_cell? _ _ R7.out.z0; have := NA.out.size; omega)
                    obtain ⟨i0, hi, hz0, hz1, hz2⟩ := info_parts info102
                    have HI := Lib.hid hi; have HZ0 := Lib.hid hz0; have HZ1 := Lib.hid hz1; have HZ2 := Lib.hid hz2
                    clear hi hz0 hz1 hz2
                    have NB := Lib.hid (ownR_ne OWN.out (show w4.heap.size < w4.heap.size + 1 by omega))
                    have NGA := Lib.hid (ownR_ne OWN.out (show ga < w4.heap.size + 1 by have := HGA.out; omega))
                    have HGB := Lib.hid (show w4.heap.size ≠ w5.heap.size by have : w4.heap.size < w5.heap.size := World.block_lt_of_cell? _ _ R6.out.z0; omega)
                    go_wp2_with (at_builtin; refine Go.wpList_append_lies _ rfl _ _ 62 rfl (w4.heap.size + 1) 102 i0 _ 4 32 Try.underlying62 HI.out HZ0.out HZ1.out HZ2.out rfl (by decide) (.slice a2 j c2) j _ (by rfl) OWN.out ⟨V7.heap.size, 0, none⟩ 1 1 [.int .i64 o.id, .int .i64 (p.time + lt), .int .i64 bg, .int .i64 (bg + o.service)] (by rfl) rfl NEW.out ONE.out (by omega) (by unfold maxLen; omega) (by omega) BASE.out (V7.heap.size + 1) SZ.out ?_; intro g1 p1 w6 q1 q2 q3 q4; have Q1 := Lib.hid q1; have Q2 := Lib.hid q2; have a0 := grownR_cell q2 (cell_on NA.out R7.out.z0) NB.out; have A0 := Lib.hid a0; have FB := Lib.hid (show Soft w6 w4.heap.size from fun i => (q2.frozen_far ⟨w4.heap.size, i, none⟩ (Nat.lt_of_lt_of_le BLT.out NA.out.size) NB.out).trans (R7.out.sf.on BLT.out NA.out i)); have fb0 := FB.out 0; have s3 := setR_far (j := 0) (u := .slice (some ⟨g1, 0, none⟩) (j + 1) p1) HGB.out (grownR_cell q2 (cell_on NA.out VB7.out.c3) NG.out); have s2 := setR_far (j := 0) (u := .slice (some ⟨g1, 0, none⟩) (j + 1) p1) (show w4.heap.size ≠ ga by have := HGA.out; omega) (grownR_cell q2 (cell_on NA.out (cell_on BV7.out E6.out.2.1)) NGA.out); clear q1 q2 q3 q4)
                    go_roundw
                    case rel =>
                      refine ⟨j + 1, some ⟨g1, 0, none⟩, p1, by omega, by go_num, by rw [HSU.out, HNP.out.1, BG.out], by rw [HSU.out, HNP.out.2], ?_, ⟨?_, ?_, ?_, ?_, ?_, ?_, ?_⟩⟩
                      · rw [HLS.out, HVO.out]
                        dsimp only
                        rw [BG.out]
                        rw [Bool.true_or]
                      · exact World.cell?_setCell_same _ _ _ A0.out
                      · exact cell_set_other (grownR_cell Q2.out (cell_on NA.out R7.out.z1) NB.out) (by omega)
                      · exact cell_set_other (grownR_cell Q2.out (cell_on NA.out R7.out.z2) NB.out) (by omega)
                      · exact cell_set_other (grownR_cell Q2.out (cell_on NA.out R7.out.z3) NB.out) (by omega)
                      · intro i; rw [World.frozen?_setCell]; exact FB.out i
                      · have hcs : cellsV (visits x.n x.D x.T l (startP tr) j) ++ [.int .i64 o.id, .int .i64 (p.time + lt), .int .i64 bg, .int .i64 (bg + o.service)] = cellsV (visits x.n x.D x.T l (startP tr) (j + 1)) := by
                          rw [HVS.out, HVO.out, BG.out]
                          unfold cellsV
                          rw [List.flatMap_append]
                          rfl
                        rw [← hcs]
                        exact ownsRow_setCell_below Q1.out (show w4.heap.size < w4.heap.size + 1 by omega) _
                      · exact ((below_on0 R7.out NA.out).grown Q2.out (by have := BASE.out; omega) (fun i hi => by have := (OWN.out.lt i hi).1; omega)).setCell (Nat.le_refl _) _
                    case measure => simp [intOf]; omega
                  | false =>
                    by_cases hl : o.to < bg
                    · have hl2 : decide (o.to < bg) = true := decide_eq_true hl
                      go_quiet (fail)
                      obtain ⟨V7, hV7⟩ : ∃ V7, V6.drewN nq = V7 := ⟨_, rfl⟩
                      have VB7 := Lib.hid (VB6.out.drewN nq)
                      have BV7 := Lib.hid (below_drewN BV6.out nq)
                      rw [hV7] at VB7 BV7 ⊢
                      clear hV7 c2 d6
                      have R7 := Lib.hid (R6.out.on BV7.out)
                      have BLT := Lib.hid (show w4.heap.size < V7.heap.size from World.block_lt_of_cell? _ _ R7.out.z0)
                      have z0 := R7.out.z0
                      have v0 := VB7.out.c0; have v1 := VB7.out.c1; have v2 := VB7.out.c2; have v3 := VB7.out.c3
                      have NA := Lib.hid (below_new V7 (.cells #[.int .i64 o.id, .int .i64 (p.time + lt), .int .i64 bg, .int .i64 (bg + o.service)] 102))
                      have OWN := Lib.hid (row_on R7.out.own NA.out)
                      have SZ := Lib.hid (show (V7.alloc (.cells #[.int .i64 o.id, .int .i64 (p.time + lt), .int .i64 bg, .int .i64 (bg + o.service)] 102)).heap.size = V7.heap.size + 1 from World.size_alloc _ _)
                      have NEW := Lib.hid (vbox_news (w := V7) (g := 0) ⟨o.id, p.time + lt, bg, bg + o.service⟩)
                      have ONE := Lib.hid (show ∀ u ∈ (⟨o.id, p.time + lt, bg, bg + o.service⟩ : Vis).cells.toList, u.oneCell' = true by have := cellsV_one [⟨o.id, p.time + lt, bg, bg + o.service⟩]; simpa [cellsV] using this)
                      have BASE := Lib.hid (show w4.heap.size + 1 ≤ (V7.alloc (.cells #[.int .i64 o.id, .int .i64 (p.time + lt), .int .i64 bg, .int .i64 (bg + o.service)] 102)).heap.size by have : w4.heap.size < V7.heap.size := World.block_lt_of_cell? _ _ R7.out.z0; have := NA.out.size; omega)
                      obtain ⟨i0, hi, hz0, hz1, hz2⟩ := info_parts info102
                      have HI := Lib.hid hi; have HZ0 := Lib.hid hz0; have HZ1 := Lib.hid hz1; have HZ2 := Lib.hid hz2
                      clear hi hz0 hz1 hz2
                      have NB := Lib.hid (ownR_ne OWN.out (show w4.heap.size < w4.heap.size + 1 by omega))
                      have NGA := Lib.hid (ownR_ne OWN.out (show ga < w4.heap.size + 1 by have := HGA.out; omega))
                      have HGB := Lib.hid (show w4.heap.size ≠ w5.heap.size by have : w4.heap.size < w5.heap.size := World.block_lt_of_cell? _ _ R6.out.z0; omega)
                      go_wp2_with (at_builtin; refine Go.wpList_append_lies _ rfl _ _ 62 rfl (w4.heap.size + 1) 102 i0 _ 4 32 Try.underlying62 HI.out HZ0.out HZ1.out HZ2.out rfl (by decide) (.slice a2 j c2) j _ (by rfl) OWN.out ⟨V7.heap.size, 0, none⟩ 1 1 [.int .i64 o.id, .int .i64 (p.time + lt), .int .i64 bg, .int .i64 (bg + o.service)] (by rfl) rfl NEW.out ONE.out (by omega) (by unfold maxLen; omega) (by omega) BASE.out (V7.heap.size + 1) SZ.out ?_; intro g1 p1 w6 q1 q2 q3 q4; have Q1 := Lib.hid q1; have Q2 := Lib.hid q2; have a0 := grownR_cell q2 (cell_on NA.out R7.out.z0) NB.out; have A0 := Lib.hid a0; have FB := Lib.hid (show Soft w6 w4.heap.size from fun i => (q2.frozen_far ⟨w4.heap.size, i, none⟩ (Nat.lt_of_lt_of_le BLT.out NA.out.size) NB.out).trans (R7.out.sf.on BLT.out NA.out i)); have fb0 := FB.out 0; have s3 := setR_far (j := 0) (u := .slice (some ⟨g1, 0, none⟩) (j + 1) p1) HGB.out (grownR_cell q2 (cell_on NA.out VB7.out.c3) NG.out); have s2 := setR_far (j := 0) (u := .slice (some ⟨g1, 0, none⟩) (j + 1) p1) (show w4.heap.size ≠ ga by have := HGA.out; omega) (grownR_cell q2 (cell_on NA.out (cell_on BV7.out E6.out.2.1)) NGA.out); clear q1 q2 q3 q4)
                      go_roundw
                      case rel =>
                        refine ⟨j + 1, some ⟨g1, 0, none⟩, p1, by omega, by go_num, by rw [HSU.out, HNP.out.1, BG.out], by rw [HSU.out, HNP.out.2], ?_, ⟨?_, ?_, ?_, ?_, ?_, ?_, ?_⟩⟩
                        · rw [HLS.out, HVO.out]
                          dsimp only
                          rw [BG.out]
                          rw [decide_eq_true hl]; rfl
                        · exact World.cell?_setCell_same _ _ _ A0.out
                        · exact cell_set_other (grownR_cell Q2.out (cell_on NA.out R7.out.z1) NB.out) (by omega)
                        · exact cell_set_other (grownR_cell Q2.out (cell_on NA.out R7.out.z2) NB.out) (by omega)
                        · exact cell_set_other (grownR_cell Q2.out (cell_on NA.out R7.out.z3) NB.out) (by omega)
                        · intro i; rw [World.frozen?_setCell]; exact FB.out i
                        · have hcs : cellsV (visits x.n x.D x.T l (startP tr) j) ++ [.int .i64 o.id, .int .i64 (p.time + lt), .int .i64 bg, .int .i64 (bg + o.service)] = cellsV (visits x.n x.D x.T l (startP tr) (j + 1)) := by
                            rw [HVS.out, HVO.out, BG.out]
                            unfold cellsV
                            rw [List.flatMap_append]
                            rfl
                          rw [← hcs]
                          exact ownsRow_setCell_below Q1.out (show w4.heap.size < w4.heap.size + 1 by omega) _
                        · exact ((below_on0 R7.out NA.out).grown Q2.out (by have := BASE.out; omega) (fun i hi => by have := (OWN.out.lt i hi).1; omega)).setCell (Nat.le_refl _) _
                      case measure => simp [intOf]; omega
                    · have hl2 : decide (o.to < bg) = false := decide_eq_false hl
                      go_quiet (fail)
                      obtain ⟨V7, hV7⟩ : ∃ V7, V6.drewN nq = V7 := ⟨_, rfl⟩
                      have VB7 := Lib.hid (VB6.out.drewN nq)
                      have BV7 := Lib.hid (below_drewN BV6.out nq)
                      rw [hV7] at VB7 BV7 ⊢
                      clear hV7 c2 d6
                      have R7 := Lib.hid (R6.out.on BV7.out)
                      have BLT := Lib.hid (show w4.heap.size < V7.heap.size from World.block_lt_of_cell? _ _ R7.out.z0)
                      have z0 := R7.out.z0
                      have v0 := VB7.out.c0; have v1 := VB7.out.c1; have v2 := VB7.out.c2; have v3 := VB7.out.c3
                      have NA := Lib.hid (below_new V7 (.cells #[.int .i64 o.id, .int .i64 (p.time + lt), .int .i64 bg, .int .i64 (bg + o.service)] 102))
                      have OWN := Lib.hid (row_on R7.out.own NA.out)
                      have SZ := Lib.hid (show (V7.alloc (.cells #[.int .i64 o.id, .int .i64 (p.time + lt), .int .i64 bg, .int .i64 (bg + o.service)] 102)).heap.size = V7.heap.size + 1 from World.size_alloc _ _)
                      have NEW := Lib.hid (vbox_news (w := V7) (g := 0) ⟨o.id, p.time + lt, bg, bg + o.service⟩)
                      have ONE := Lib.hid (show ∀ u ∈ (⟨o.id, p.time + lt, bg, bg + o.service⟩ : Vis).cells.toList, u.oneCell' = true by have := cellsV_one [⟨o.id, p.time + lt, bg, bg + o.service⟩]; simpa [cellsV] using this)
                      have BASE := Lib.hid (show w4.heap.size + 1 ≤ (V7.alloc (.cells #[.int .i64 o.id, .int .i64 (p.time + lt), .int .i64 bg, .int .i64 (bg + o.service)] 102)).heap.size by have : w4.heap.size < V7.heap.size := World.block_lt_of_cell? _ _ R7.out.z0; have := NA.out.size; omega)
                      obtain ⟨i0, hi, hz0, hz1, hz2⟩ := info_parts info102
                      have HI := Lib.hid hi; have HZ0 := Lib.hid hz0; have HZ1 := Lib.hid hz1; have HZ2 := Lib.hid hz2
                      clear hi hz0 hz1 hz2
                      have NB := Lib.hid (ownR_ne OWN.out (show w4.heap.size < w4.heap.size + 1 by omega))
                      have NGA := Lib.hid (ownR_ne OWN.out (show ga < w4.heap.size + 1 by have := HGA.out; omega))
                      have HGB := Lib.hid (show w4.heap.size ≠ w5.heap.size by have : w4.heap.size < w5.heap.size := World.block_lt_of_cell? _ _ R6.out.z0; omega)
                      go_wp2_with (at_builtin; refine Go.wpList_append_lies _ rfl _ _ 62 rfl (w4.heap.size + 1) 102 i0 _ 4 32 Try.underlying62 HI.out HZ0.out HZ1.out HZ2.out rfl (by decide) (.slice a2 j c2) j _ (by rfl) OWN.out ⟨V7.heap.size, 0, none⟩ 1 1 [.int .i64 o.id, .int .i64 (p.time + lt), .int .i64 bg, .int .i64 (bg + o.service)] (by rfl) rfl NEW.out ONE.out (by omega) (by unfold maxLen; omega) (by omega) BASE.out (V7.heap.size + 1) SZ.out ?_; intro g1 p1 w6 q1 q2 q3 q4; have Q1 := Lib.hid q1; have Q2 := Lib.hid q2; have a0 := grownR_cell q2 (cell_on NA.out R7.out.z0) NB.out; have A0 := Lib.hid a0; have FB := Lib.hid (show Soft w6 w4.heap.size from fun i => (q2.frozen_far ⟨w4.heap.size, i, none⟩ (Nat.lt_of_lt_of_le BLT.out NA.out.size) NB.out).trans (R7.out.sf.on BLT.out NA.out i)); have fb0 := FB.out 0; have s3 := setR_far (j := 0) (u := .slice (some ⟨g1, 0, none⟩) (j + 1) p1) HGB.out (grownR_cell q2 (cell_on NA.out VB7.out.c3) NG.out); have s2 := setR_far (j := 0) (u := .slice (some ⟨g1, 0, none⟩) (j + 1) p1) (show w4.heap.size ≠ ga by have := HGA.out; omega) (grownR_cell q2 (cell_on NA.out (cell_on BV7.out E6.out.2.1)) NGA.out); clear q1 q2 q3 q4)
                      go_roundw
                      case rel =>
                        refine ⟨j + 1, some ⟨g1, 0, none⟩, p1, by omega, by go_num, by rw [HSU.out, HNP.out.1, BG.out], by rw [HSU.out, HNP.out.2], ?_, ⟨?_, ?_, ?_, ?_, ?_, ?_, ?_⟩⟩
                        · rw [HLS.out, HVO.out]
                          dsimp only
                          rw [BG.out]
                          rw [decide_eq_false hl]; rfl
                        · exact World.cell?_setCell_same _ _ _ A0.out
                        · exact cell_set_other (grownR_cell Q2.out (cell_on NA.out R7.out.z1) NB.out) (by omega)
                        · exact cell_set_other (grownR_cell Q2.out (cell_on NA.out R7.out.z2) NB.out) (by omega)
                        · exact cell_set_other (grownR_cell Q2.out (cell_on NA.out R7.out.z3) NB.out) (by omega)
                        · intro i; rw [World.frozen?_setCell]; exact FB.out i
                        · have hcs : cellsV (visits x.n x.D x.T l (startP tr) j) ++ [.int .i64 o.id, .int .i64 (p.time + lt), .int .i64 bg, .int .i64 (bg + o.service)] = cellsV (visits x.n x.D x.T l (startP tr) (j + 1)) := by
                            rw [HVS.out, HVO.out, BG.out]
                            unfold cellsV
                            rw [List.flatMap_append]
                            rfl
                          rw [← hcs]
                          exact ownsRow_setCell_below Q1.out (show w4.heap.size < w4.heap.size + 1 by omega) _
                        · exact ((below_on0 R7.out NA.out).grown Q2.out (by have := BASE.out; omega) (fun i hi => by have := (OWN.out.lt i hi).1; omega)).setCell (Nat.le_refl _) _
                      case measure => simp [intOf]; omega
                · have hbg2 : decide (p.time + lt < o.frm) = false := decide_eq_false hbg
                  go_quiet (fail)
                  go_wp2_with fail
                  have BG := Lib.hid (show beginAt x.n x.T p o = p.time + lt by rw [HBA.out]; omega)
                  obtain ⟨V5, hV5⟩ : ∃ V5, V.drewN nq = V5 := ⟨_, rfl⟩
                  have VB5 := Lib.hid (VB1.out.drewN nq)
                  have BV5 := Lib.hid (below_drewN VBW1.out nq)
                  rw [hV5] at VB5 BV5 ⊢
                  clear hV5 k2 k2f d5 VB1
                  have c2 := VB5.out.c2
                  have c3 := VB5.out.c3
                  have c3f := VB5.out.sf 3
                  have d7 := cell_on BV5.out E6.out.2.2.2.2
                  go_region
                  obtain ⟨V6, hV6⟩ : ∃ V6, (V5.setCell ⟨w5.heap.size, 3, none⟩ (.int .i64 ((p.time + lt) + o.service))).drew = V6 := ⟨_, rfl⟩
                  have VB6 := Lib.hid (VB5.out.set3 ((p.time + lt) + o.service)).drew
                  have BV6 := Lib.hid (show Below w5.heap.size w5 (V5.setCell ⟨w5.heap.size, 3, none⟩ (.int .i64 ((p.time + lt) + o.service))).drew from (BV5.out.setCell (Nat.le_refl _) _).drew)
                  rw [hV6] at VB6 BV6 ⊢
                  clear hV6 c2 c3 c3f d7 VB5 BV5
                  have c2 := VB6.out.c2
                  have d6 := cell_on BV6.out E6.out.2.2.2.1
                  go_wp2_with fail
                  cases lu with
                  | true =>
                    go_quiet (fail)
                    obtain ⟨V7, hV7⟩ : ∃ V7, V6.drewN nq = V7 := ⟨_, rfl⟩
                    have VB7 := Lib.hid (VB6.out.drewN nq)
                    have BV7 := Lib.hid (below_drewN BV6.out nq)
                    rw [hV7] at VB7 BV7 ⊢
                    clear hV7 c2 d6
                    have R7 := Lib.hid (R6.out.on BV7.out)
                    have BLT := Lib.hid (show w4.heap.size < V7.heap.size from World.block_lt_of_cell? _ _ R7.out.z0)
                    have z0 := R7.out.z0
                    have v0 := VB7.out.c0; have v1 := VB7.out.c1; have v2 := VB7.out.c2; have v3 := VB7.out.c3
                    have NA := Lib.hid (below_new V7 (.cells #[.int .i64 o.id, .int .i64 (p.time + lt), .int .i64 (p.time + lt), .int .i64 ((p.time + lt) + o.service)] 102))
                    have OWN := Lib.hid (row_on R7.out.own NA.out)
                    have SZ := Lib.hid (show (V7.alloc (.cells #[.int .i64 o.id, .int .i64 (p.time + lt), .int .i64 (p.time + lt), .int .i64 ((p.time + lt) + o.service)] 102)).heap.size = V7.heap.size + 1 from World.size_alloc _ _)
                    have NEW := Lib.hid (vbox_news (w := V7) (g := 0) ⟨o.id, p.time + lt, (p.time + lt), (p.time + lt) + o.service⟩)
                    have ONE := Lib.hid (show ∀ u ∈ (⟨o.id, p.time + lt, (p.time + lt), (p.time + lt) + o.service⟩ : Vis).cells.toList, u.oneCell' = true by have := cellsV_one [⟨o.id, p.time + lt, (p.time + lt), (p.time + lt) + o.service⟩]; simpa [cellsV] using this)
                    have BASE := Lib.hid (show w4.heap.size + 1 ≤ (V7.alloc (.cells #[.int .i64 o.id, .int .i64 (p.time + lt), .int .i64 (p.time + lt), .int .i64 ((p.time + lt) + o.service)] 102)).heap.size by have : w4.heap.size < V7.heap.size := World.block_lt_of_cell? _ _ R7.out.z0; have := NA.out.size; omega)
                    obtain ⟨i0, hi, hz0, hz1, hz2⟩ := info_parts info102
                    have HI := Lib.hid hi; have HZ0 := Lib.hid hz0; have HZ1 := Lib.hid hz1; have HZ2 := Lib.hid hz2
                    clear hi hz0 hz1 hz2
                    have NB := Lib.hid (ownR_ne OWN.out (show w4.heap.size < w4.heap.size + 1 by omega))
                    have NGA := Lib.hid (ownR_ne OWN.out (show ga < w4.heap.size + 1 by have := HGA.out; omega))
                    have HGB := Lib.hid (show w4.heap.size ≠ w5.heap.size by have : w4.heap.size < w5.heap.size := World.block_lt_of_cell? _ _ R6.out.z0; omega)
                    go_wp2_with (at_builtin; refine Go.wpList_append_lies _ rfl _ _ 62 rfl (w4.heap.size + 1) 102 i0 _ 4 32 Try.underlying62 HI.out HZ0.out HZ1.out HZ2.out rfl (by decide) (.slice a2 j c2) j _ (by rfl) OWN.out ⟨V7.heap.size, 0, none⟩ 1 1 [.int .i64 o.id, .int .i64 (p.time + lt), .int .i64 (p.time + lt), .int .i64 ((p.time + lt) + o.service)] (by rfl) rfl NEW.out ONE.out (by omega) (by unfold maxLen; omega) (by omega) BASE.out (V7.heap.size + 1) SZ.out ?_; intro g1 p1 w6 q1 q2 q3 q4; have Q1 := Lib.hid q1; have Q2 := Lib.hid q2; have a0 := grownR_cell q2 (cell_on NA.out R7.out.z0) NB.out; have A0 := Lib.hid a0; have FB := Lib.hid (show Soft w6 w4.heap.size from fun i => (q2.frozen_far ⟨w4.heap.size, i, none⟩ (Nat.lt_of_lt_of_le BLT.out NA.out.size) NB.out).trans (R7.out.sf.on BLT.out NA.out i)); have fb0 := FB.out 0; have s3 := setR_far (j := 0) (u := .slice (some ⟨g1, 0, none⟩) (j + 1) p1) HGB.out (grownR_cell q2 (cell_on NA.out VB7.out.c3) NG.out); have s2 := setR_far (j := 0) (u := .slice (some ⟨g1, 0, none⟩) (j + 1) p1) (show w4.heap.size ≠ ga by have := HGA.out; omega) (grownR_cell q2 (cell_on NA.out (cell_on BV7.out E6.out.2.1)) NGA.out); clear q1 q2 q3 q4)
                    go_roundw
                    case rel =>
                      refine ⟨j + 1, some ⟨g1, 0, none⟩, p1, by omega, by go_num, by rw [HSU.out, HNP.out.1, BG.out], by rw [HSU.out, HNP.out.2], ?_, ⟨?_, ?_, ?_, ?_, ?_, ?_, ?_⟩⟩
                      · rw [HLS.out, HVO.out]
                        dsimp only
                        rw [BG.out]
                        rw [Bool.true_or]
                      · exact World.cell?_setCell_same _ _ _ A0.out
                      · exact cell_set_other (grownR_cell Q2.out (cell_on NA.out R7.out.z1) NB.out) (by omega)
                      · exact cell_set_other (grownR_cell Q2.out (cell_on NA.out R7.out.z2) NB.out) (by omega)
                      · exact cell_set_other (grownR_cell Q2.out (cell_on NA.out R7.out.z3) NB.out) (by omega)
                      · intro i; rw [World.frozen?_setCell]; exact FB.out i
                      · have hcs : cellsV (visits x.n x.D x.T l (startP tr) j) ++ [.int .i64 o.id, .int .i64 (p.time + lt), .int .i64 (p.time + lt), .int .i64 ((p.time + lt) + o.service)] = cellsV (visits x.n x.D x.T l (startP tr) (j + 1)) := by
                          rw [HVS.out, HVO.out, BG.out]
                          unfold cellsV
                          rw [List.flatMap_append]
                          rfl
                        rw [← hcs]
                        exact ownsRow_setCell_below Q1.out (show w4.heap.size < w4.heap.size + 1 by omega) _
                      · exact ((below_on0 R7.out NA.out).grown Q2.out (by have := BASE.out; omega) (fun i hi => by have := (OWN.out.lt i hi).1; omega)).setCell (Nat.le_refl _) _
                    case measure => simp [intOf]; omega
                  | false =>
                    by_cases hl : o.to < (p.time + lt)
                    · have hl2 : decide (o.to < (p.time + lt)) = true := decide_eq_true hl
                      go_quiet (fail)
                      obtain ⟨V7, hV7⟩ : ∃ V7, V6.drewN nq = V7 := ⟨_, rfl⟩
                      have VB7 := Lib.hid (VB6.out.drewN nq)
                      have BV7 := Lib.hid (below_drewN BV6.out nq)
                      rw [hV7] at VB7 BV7 ⊢
                      clear hV7 c2 d6
                      have R7 := Lib.hid (R6.out.on BV7.out)
                      have BLT := Lib.hid (show w4.heap.size < V7.heap.size from World.block_lt_of_cell? _ _ R7.out.z0)
                      have z0 := R7.out.z0
                      have v0 := VB7.out.c0; have v1 := VB7.out.c1; have v2 := VB7.out.c2; have v3 := VB7.out.c3
                      have NA := Lib.hid (below_new V7 (.cells #[.int .i64 o.id, .int .i64 (p.time + lt), .int .i64 (p.time + lt), .int .i64 ((p.time + lt) + o.service)] 102))
                      have OWN := Lib.hid (row_on R7.out.own NA.out)
                      have SZ := Lib.hid (show (V7.alloc (.cells #[.int .i64 o.id, .int .i64 (p.time + lt), .int .i64 (p.time + lt), .int .i64 ((p.time + lt) + o.service)] 102)).heap.size = V7.heap.size + 1 from World.size_alloc _ _)
                      have NEW := Lib.hid (vbox_news (w := V7) (g := 0) ⟨o.id, p.time + lt, (p.time + lt), (p.time + lt) + o.service⟩)
                      have ONE := Lib.hid (show ∀ u ∈ (⟨o.id, p.time + lt, (p.time + lt), (p.time + lt) + o.service⟩ : Vis).cells.toList, u.oneCell' = true by have := cellsV_one [⟨o.id, p.time + lt, (p.time + lt), (p.time + lt) + o.service⟩]; simpa [cellsV] using this)
                      have BASE := Lib.hid (show w4.heap.size + 1 ≤ (V7.alloc (.cells #[.int .i64 o.id, .int .i64 (p.time + lt), .int .i64 (p.time + lt), .int .i64 ((p.time + lt) + o.service)] 102)).heap.size by have : w4.heap.size < V7.heap.size := World.block_lt_of_cell? _ _ R7.out.z0; have := NA.out.size; omega)
                      obtain ⟨i0, hi, hz0, hz1, hz2⟩ := info_parts info102
                      have HI := Lib.hid hi; have HZ0 := Lib.hid hz0; have HZ1 := Lib.hid hz1; have HZ2 := Lib.hid hz2
                      clear hi hz0 hz1 hz2
                      have NB := Lib.hid (ownR_ne OWN.out (show w4.heap.size < w4.heap.size + 1 by omega))
                      have NGA := Lib.hid (ownR_ne OWN.out (show ga < w4.heap.size + 1 by have := HGA.out; omega))
                      have HGB := Lib.hid (show w4.heap.size ≠ w5.heap.size by have : w4.heap.size < w5.heap.size := World.block_lt_of_cell? _ _ R6.out.z0; omega)
                      go_wp2_with (at_builtin; refine Go.wpList_append_lies _ rfl _ _ 62 rfl (w4.heap.size + 1) 102 i0 _ 4 32 Try.underlying62 HI.out HZ0.out HZ1.out HZ2.out rfl (by decide) (.slice a2 j c2) j _ (by rfl) OWN.out ⟨V7.heap.size, 0, none⟩ 1 1 [.int .i64 o.id, .int .i64 (p.time + lt), .int .i64 (p.time + lt), .int .i64 ((p.time + lt) + o.service)] (by rfl) rfl NEW.out ONE.out (by omega) (by unfold maxLen; omega) (by omega) BASE.out (V7.heap.size + 1) SZ.out ?_; intro g1 p1 w6 q1 q2 q3 q4; have Q1 := Lib.hid q1; have Q2 := Lib.hid q2; have a0 := grownR_cell q2 (cell_on NA.out R7.out.z0) NB.out; have A0 := Lib.hid a0; have FB := Lib.hid (show Soft w6 w4.heap.size from fun i => (q2.frozen_far ⟨w4.heap.size, i, none⟩ (Nat.lt_of_lt_of_le BLT.out NA.out.size) NB.out).trans (R7.out.sf.on BLT.out NA.out i)); have fb0 := FB.out 0; have s3 := setR_far (j := 0) (u := .slice (some ⟨g1, 0, none⟩) (j + 1) p1) HGB.out (grownR_cell q2 (cell_on NA.out VB7.out.c3) NG.out); have s2 := setR_far (j := 0) (u := .slice (some ⟨g1, 0, none⟩) (j + 1) p1) (show w4.heap.size ≠ ga by have := HGA.out; omega) (grownR_cell q2 (cell_on NA.out (cell_on BV7.out E6.out.2.1)) NGA.out); clear q1 q2 q3 q4)
                      go_roundw
                      case rel =>
                        refine ⟨j + 1, some ⟨g1, 0, none⟩, p1, by omega, by go_num, by rw [HSU.out, HNP.out.1, BG.out], by rw [HSU.out, HNP.out.2], ?_, ⟨?_, ?_, ?_, ?_, ?_, ?_, ?_⟩⟩
                        · rw [HLS.out, HVO.out]
                          dsimp only
                          rw [BG.out]
                          rw [decide_eq_true hl]; rfl
                        · exact World.cell?_setCell_same _ _ _ A0.out
                        · exact cell_set_other (grownR_cell Q2.out (cell_on NA.out R7.out.z1) NB.out) (by omega)
                        · exact cell_set_other (grownR_cell Q2.out (cell_on NA.out R7.out.z2) NB.out) (by omega)
                        · exact cell_set_other (grownR_cell Q2.out (cell_on NA.out R7.out.z3) NB.out) (by omega)
                        · intro i; rw [World.frozen?_setCell]; exact FB.out i
                        · have hcs : cellsV (visits x.n x.D x.T l (startP tr) j) ++ [.int .i64 o.id, .int .i64 (p.time + lt), .int .i64 (p.time + lt), .int .i64 ((p.time + lt) + o.service)] = cellsV (visits x.n x.D x.T l (startP tr) (j + 1)) := by
                            rw [HVS.out, HVO.out, BG.out]
                            unfold cellsV
                            rw [List.flatMap_append]
                            rfl
                          rw [← hcs]
                          exact ownsRow_setCell_below Q1.out (show w4.heap.size < w4.heap.size + 1 by omega) _
                        · exact ((below_on0 R7.out NA.out).grown Q2.out (by have := BASE.out; omega) (fun i hi => by have := (OWN.out.lt i hi).1; omega)).setCell (Nat.le_refl _) _
                      case measure => simp [intOf]; omega
                    · have hl2 : decide (o.to < (p.time + lt)) = false := decide_eq_false hl
                      go_quiet (fail)
                      obtain ⟨V7, hV7⟩ : ∃ V7, V6.drewN nq = V7 := ⟨_, rfl⟩
                      have VB7 := Lib.hid (VB6.out.drewN nq)
                      have BV7 := Lib.hid (below_drewN BV6.out nq)
                      rw [hV7] at VB7 BV7 ⊢
                      clear hV7 c2 d6
                      have R7 := Lib.hid (R6.out.on BV7.out)
                      have BLT := Lib.hid (show w4.heap.size < V7.heap.size from World.block_lt_of_cell? _ _ R7.out.z0)
                      have z0 := R7.out.z0
                      have v0 := VB7.out.c0; have v1 := VB7.out.c1; have v2 := VB7.out.c2; have v3 := VB7.out.c3
                      have NA := Lib.hid (below_new V7 (.cells #[.int .i64 o.id, .int .i64 (p.time + lt), .int .i64 (p.time + lt), .int .i64 ((p.time + lt) + o.service)] 102))
                      have OWN := Lib.hid (row_on R7.out.own NA.out)
                      have SZ := Lib.hid (show (V7.alloc (.cells #[.int .i64 o.id, .int .i64 (p.time + lt), .int .i64 (p.time + lt), .int .i64 ((p.time + lt) + o.service)] 102)).heap.size = V7.heap.size + 1 from World.size_alloc _ _)
                      have NEW := Lib.hid (vbox_news (w := V7) (g := 0) ⟨o.id, p.time + lt, (p.time + lt), (p.time + lt) + o.service⟩)
                      have ONE := Lib.hid (show ∀ u ∈ (⟨o.id, p.time + lt, (p.time + lt), (p.time + lt) + o.service⟩ : Vis).cells.toList, u.oneCell' = true by have := cellsV_one [⟨o.id, p.time + lt, (p.time + lt), (p.time + lt) + o.service⟩]; simpa [cellsV] using this)
                      have BASE := Lib.hid (show w4.heap.size + 1 ≤ (V7.alloc (.cells #[.int .i64 o.id, .int .i64 (p.time + lt), .int .i64 (p.time + lt), .int .i64 ((p.time + lt) + o.service)] 102)).heap.size by have : w4.heap.size < V7.heap.size := World.block_lt_of_cell? _ _ R7.out.z0; have := NA.out.size; omega)
                      obtain ⟨i0, hi, hz0, hz1, hz2⟩ := info_parts info102
                      have HI := Lib.hid hi; have HZ0 := Lib.hid hz0; have HZ1 := Lib.hid hz1; have HZ2 := Lib.hid hz2
                      clear hi hz0 hz1 hz2
                      have NB := Lib.hid (ownR_ne OWN.out (show w4.heap.size < w4.heap.size + 1 by omega))
                      have NGA := Lib.hid (ownR_ne OWN.out (show ga < w4.heap.size + 1 by have := HGA.out; omega))
                      have HGB := Lib.hid (show w4.heap.size ≠ w5.heap.size by have : w4.heap.size < w5.heap.size := World.block_lt_of_cell? _ _ R6.out.z0; omega)
                      go_wp2_with (at_builtin; refine Go.wpList_append_lies _ rfl _ _ 62 rfl (w4.heap.size + 1) 102 i0 _ 4 32 Try.underlying62 HI.out HZ0.out HZ1.out HZ2.out rfl (by decide) (.slice a2 j c2) j _ (by rfl) OWN.out ⟨V7.heap.size, 0, none⟩ 1 1 [.int .i64 o.id, .int .i64 (p.time + lt), .int .i64 (p.time + lt), .int .i64 ((p.time + lt) + o.service)] (by rfl) rfl NEW.out ONE.out (by omega) (by unfold maxLen; omega) (by omega) BASE.out (V7.heap.size + 1) SZ.out ?_; intro g1 p1 w6 q1 q2 q3 q4; have Q1 := Lib.hid q1; have Q2 := Lib.hid q2; have a0 := grownR_cell q2 (cell_on NA.out R7.out.z0) NB.out; have A0 := Lib.hid a0; have FB := Lib.hid (show Soft w6 w4.heap.size from fun i => (q2.frozen_far ⟨w4.heap.size, i, none⟩ (Nat.lt_of_lt_of_le BLT.out NA.out.size) NB.out).trans (R7.out.sf.on BLT.out NA.out i)); have fb0 := FB.out 0; have s3 := setR_far (j := 0) (u := .slice (some ⟨g1, 0, none⟩) (j + 1) p1) HGB.out (grownR_cell q2 (cell_on NA.out VB7.out.c3) NG.out); have s2 := setR_far (j := 0) (u := .slice (some ⟨g1, 0, none⟩) (j + 1) p1) (show w4.heap.size ≠ ga by have := HGA.out; omega) (grownR_cell q2 (cell_on NA.out (cell_on BV7.out E6.out.2.1)) NGA.out); clear q1 q2 q3 q4)
                      go_roundw
                      case rel =>
                        refine ⟨j + 1, some ⟨g1, 0, none⟩, p1, by omega, by go_num, by rw [HSU.out, HNP.out.1, BG.out], by rw [HSU.out, HNP.out.2], ?_, ⟨?_, ?_, ?_, ?_, ?_, ?_, ?_⟩⟩
                        · rw [HLS.out, HVO.out]
                          dsimp only
                          rw [BG.out]
                          rw [decide_eq_false hl]; rfl
                        · exact World.cell?_setCell_same _ _ _ A0.out
                        · exact cell_set_other (grownR_cell Q2.out (cell_on NA.out R7.out.z1) NB.out) (by omega)
                        · exact cell_set_other (grownR_cell Q2.out (cell_on NA.out R7.out.z2) NB.out) (by omega)
                        · exact cell_set_other (grownR_cell Q2.out (cell_on NA.out R7.out.z3) NB.out) (by omega)
                        · intro i; rw [World.frozen?_setCell]; exact FB.out i
                        · have hcs : cellsV (visits x.n x.D x.T l (startP tr) j) ++ [.int .i64 o.id, .int .i64 (p.time + lt), .int .i64 (p.time + lt), .int .i64 ((p.time + lt) + o.service)] = cellsV (visits x.n x.D x.T l (startP tr) (j + 1)) := by
                            rw [HVS.out, HVO.out, BG.out]
                            unfold cellsV
                            rw [List.flatMap_append]
                            rfl
                          rw [← hcs]
                          exact ownsRow_setCell_below Q1.out (show w4.heap.size < w4.heap.size + 1 by omega) _
                        · exact ((below_on0 R7.out NA.out).grown Q2.out (by have := BASE.out; omega) (fun i hi => by have := (OWN.out.lt i hi).1; omega)).setCell (Nat.le_refl _) _
                      case measure => simp [intOf]; omega
              · obtain rfl : j = k := by omega
                have hll2 : l.length = j := HLL.out
                obtain ⟨p, hp⟩ : ∃ p, placeK x.n x.D x.T l (startP tr) j = p := ⟨_, rfl⟩
                obtain ⟨lu, hlu⟩ : ∃ t, lateUp x.n x.D x.T l (startP tr) j = t := ⟨_, rfl⟩
                have hhp : homeP x.n x.D x.T l (startP tr) = p.go x.n x.D x.T 0 := by unfold homeP; rw [hll2, hp]
                have HLB := Lib.hid (show lateB x.n x.D x.T l (startP tr) = lu by rw [← hlu, ← hll2]; rfl)
                have hr := home_range HV.out HOK.out HP0.out (show l.length ≤ 12 by omega)
                have hdt := home_tour x.n x.D x.T l tr
                rw [hhp] at hr hdt
                rw [hp] at hpl
                rw [hp, hlu]
                have HTE := Lib.hid (tourE_ok HV.out HOK.out (show l.length ≤ 12 by omega))
                have hle : legE x.n x.D x.T p.node 0 = 0 := legE_zero.2 ⟨HV.out, hpl.1, HN0.out⟩
                have HLG := Lib.hid (rleg_any x.n p.node 0 q.aD q.aT x.D x.T q.lD q.lT q.cD q.cT wr HL.out.lD HL.out.lT ((HL.out.below H5.out).below HT.out.bel).D ((HL.out.below H5.out).below HT.out.bel).T)
                have vT : legV x.n x.D x.T x.T p.node 0 = leg x.n x.T p.node 0 := by unfold legV; rw [if_pos hle]
                rw [vT, hle] at HLG
                obtain ⟨dv, hdv⟩ : ∃ u, legV x.n x.D x.T x.D p.node 0 = u := ⟨_, rfl⟩
                rw [hdv] at HLG
                obtain ⟨lt, hlt'⟩ : ∃ u, leg x.n x.T p.node 0 = u := ⟨_, rfl⟩
                rw [hlt'] at HLG
                obtain ⟨dd, hdd⟩ : ∃ u, tour x.n x.D 0 (nodesOf l) = u := ⟨_, rfl⟩
                have hr1 : 0 ≤ p.time + lt ∧ p.time + lt ≤ 1000000000 := by rw [← hlt']; exact hr.1
                have hr2 : 0 ≤ dd ∧ dd ≤ 13000000 := by rw [← hdd, ← hdt]; exact hr.2
                have HTV := Lib.hid (show tourV x.n x.D x.T (nodesOf l) x.D = dd by unfold tourV; rw [if_pos HTE.out, hdd])
                have HH := Lib.hid (show (homeP x.n x.D x.T l (startP tr)).time = p.time + lt ∧ (homeP x.n x.D x.T l (startP tr)).dist = dd by rw [hhp]; exact ⟨by rw [← hlt']; rfl, by rw [hdt, hdd]⟩)
                have s1 : IntKind.i64.wrap (p.time + lt) = p.time + lt := IntWalk.i64_in _ (by omega)
                clear hp hlu hhp hr hdt hpl hle vT hdv hlt' hdd hll2
                go_wp2_with fail
                refine HLG.out.mono ?_
                rintro _ w5 ⟨rfl, hb5⟩
                have BT := Lib.hid (below_on0 HT.out hb5)
                have R7 := Lib.hid (HT.out.on hb5)
                have BT2 := Lib.hid (show Below w4.heap.size w4 (w5.setCell ⟨w4.heap.size, 1, none⟩ (.int .i64 (p.time + lt))) from BT.out.setCell (Nat.le_refl _) _)
                have B7 := Lib.hid (B5.out.on BT2.out)
                have H7 := Lib.hid (below_on H5.out BT2.out)
                have T7 := Lib.hid (T5.out.on BT2.out)
                have n1 := R7.out.z1
                have nf := R7.out.sf
                have n1s := World.cell?_setCell_same w5 ⟨w4.heap.size, 1, none⟩ (.int .i64 (p.time + lt)) R7.out.z1
                have n0s := cell_set_other (u := .int .i64 (p.time + lt)) (j := 1) R7.out.z0 (by omega)
                have n2s := cell_set_other (u := .int .i64 (p.time + lt)) (j := 1) R7.out.z2 (by omega)
                have n3s := cell_set_other (u := .int .i64 (p.time + lt)) (j := 1) R7.out.z3 (by omega)
                have N7 := Lib.hid (And.intro n0s (And.intro n1s (And.intro n2s n3s)))
                unfold Soft at nf
                clear hb5 b0 b1 b2 b3 b4 HLG n0s n2s n3s
                obtain ⟨t0, t1, t2, t3, t4, t5, t6⟩ := T7.out
                cases lu with
                | true =>
                  have F := Lib.hid (show RR = (noTrip, 10) by
                    rw [HR4.out]; unfold tripR
                    rw [if_neg (by rw [HCZ.out]; simp), if_pos (.inl HLB.out)])
                  obtain ⟨z0, z1, z2, z3⟩ := B7.out.b3.zb
                  obtain ⟨y0, y1, y2, y3⟩ := B7.out.nb
                  have zf := B7.out.b3.zf
                  unfold Soft at zf
                  go_wp2_with fail
                  (try simp only [Exit.inBlock, Exit.then])
                  exact rrun_done B7.out.b3.zb none 0 0 0 0 0 10 rfl rfl rfl (err_post F.out (put4_below H7.out (by omega) _ _ _ _))
                | false =>
                  by_cases hlate : tr.stop < p.time + lt
                  · have F := Lib.hid (show RR = (noTrip, 10) by
                      rw [HR4.out]; unfold tripR
                      rw [if_neg (by rw [HCZ.out]; simp), if_pos (.inr (by rw [HH.out.1]; exact hlate))])
                    have hd : decide (tr.stop < p.time + lt) = true := decide_eq_true hlate
                    obtain ⟨z0, z1, z2, z3⟩ := B7.out.b3.zb
                    obtain ⟨y0, y1, y2, y3⟩ := B7.out.nb
                    have zf := B7.out.b3.zf
                    unfold Soft at zf
                    go_wp2_with fail
                    (try simp only [Exit.inBlock, Exit.then])
                    exact rrun_done B7.out.b3.zb none 0 0 0 0 0 10 rfl rfl rfl (err_post F.out (put4_below H7.out (by omega) _ _ _ _))
                  · have F := Lib.hid (show RR = (⟨visits x.n x.D x.T l (startP tr) j, p.time + lt, dd, tr.fixed + tr.rate * dd⟩, 0) by
                      rw [HR4.out]; unfold tripR
                      rw [if_neg (by rw [HCZ.out]; simp), if_neg (by rw [HH.out.1, HLB.out]; simp; omega), HH.out.1, HH.out.2, HLL.out])
                    have hd : decide (tr.stop < p.time + lt) = false := decide_eq_false hlate
                    obtain ⟨b0, b1, b2, b3, b4⟩ := B7.out.b3.fb
                    have HNL := Lib.hid (show (nodesOf l).length = j by unfold nodesOf; rw [List.length_map]; exact HLL.out)
                    have HTC := Lib.hid (rtour_any x.n q.aD q.aT (some ⟨gn, 0, none⟩) x.D x.T (nodesOf l) q.lD q.lT j q.cD q.cT cn (w5.setCell ⟨w4.heap.size, 1, none⟩ (.int .i64 (p.time + lt))) HL.out.lD HL.out.lT HNL.out (HL.out.below H7.out).D (HL.out.below H7.out).T (HNR.out.below BT2.out) (by omega))
                    rw [HTV.out, HTE.out] at HTC
                    obtain ⟨tv, htv⟩ : ∃ u, tourV x.n x.D x.T (nodesOf l) x.T = u := ⟨_, rfl⟩
                    rw [htv] at HTC
                    clear htv
                    go_wp2_with fail
                    refine HTC.out.mono ?_
                    rintro _ w6 ⟨rfl, hb6⟩
                    have Q1 := Lib.hid (row_on (ownsRow_setCell_below R7.out.own (show w4.heap.size < w4.heap.size + 1 by omega) (.int .i64 (p.time + lt))) hb6)
                    have m0 := cell_on hb6 N7.out.1
                    have m1 := cell_on hb6 N7.out.2.1
                    have m2 := cell_on hb6 N7.out.2.2.1
                    have m3 := cell_on hb6 N7.out.2.2.2
                    have SF7 := Lib.hid (show Soft (w5.setCell ⟨w4.heap.size, 1, none⟩ (.int .i64 (p.time + lt))) w4.heap.size from fun i => by rw [World.frozen?_setCell]; exact R7.out.sf i)
                    have SF6 := Lib.hid (SF7.out.on (World.block_lt_of_cell? _ _ N7.out.1) hb6)
                    have BT3 := Lib.hid (BT2.out.trans (hb6.mono BT2.out.size))
                    have BT4 := Lib.hid (BT3.out.setCell (Nat.le_refl _) (p := ⟨w4.heap.size, 2, none⟩) (.int .i64 dd))
                    have BT5 := Lib.hid (BT4.out.setCell (Nat.le_refl _) (p := ⟨w4.heap.size, 3, none⟩) (.int .i64 (tr.fixed + tr.rate * dd)))
                    have T9 := Lib.hid (T5.out.on BT4.out)
                    have B9 := Lib.hid (B5.out.on BT5.out)
                    have H9 := Lib.hid (below_on H5.out BT5.out)
                    have x2 := World.cell?_setCell_same w6 ⟨w4.heap.size, 2, none⟩ (.int .i64 dd) m2
                    have x3 := cell_set_other (u := .int .i64 dd) (j := 2) m3 (by omega)
                    have x1 := cell_set_other (u := .int .i64 dd) (j := 2) m1 (by omega)
                    have x0 := cell_set_other (u := .int .i64 dd) (j := 2) m0 (by omega)
                    have y0' := cell_set_other (u := .int .i64 (tr.fixed + tr.rate * dd)) (j := 3) x0 (by omega)
                    have y1' := cell_set_other (u := .int .i64 (tr.fixed + tr.rate * dd)) (j := 3) x1 (by omega)
                    have y2' := cell_set_other (u := .int .i64 (tr.fixed + tr.rate * dd)) (j := 3) x2 (by omega)
                    have y3' := World.cell?_setCell_same _ ⟨w4.heap.size, 3, none⟩ (.int .i64 (tr.fixed + tr.rate * dd)) x3
                    have Q3 := Lib.hid (show ((w6.setCell ⟨w4.heap.size, 2, none⟩ (.int .i64 dd)).setCell ⟨w4.heap.size, 3, none⟩ (.int .i64 (tr.fixed + tr.rate * dd))).ownsRow (w4.heap.size + 1) 102 4 (.slice a2 j c2) j (cellsV (visits x.n x.D x.T l (startP tr) j)) from ownsRow_setCell_below (ownsRow_setCell_below Q1.out (show w4.heap.size < w4.heap.size + 1 by omega) _) (show w4.heap.size < w4.heap.size + 1 by omega) _)
                    have hpr := mul_range HTOK.out.2.2.1 hr2
                    have s2 : IntKind.i64.wrap (tr.rate * dd) = tr.rate * dd := IntWalk.i64_in _ (by omega)
                    have s3 : IntKind.i64.wrap (tr.fixed + tr.rate * dd) = tr.fixed + tr.rate * dd := IntWalk.i64_in _ (by have := HTOK.out.2.1; omega)
                    have mf := SF6.out
                    unfold Soft at mf
                    have HLA := Lib.hid (show w.heap.size + 1 + 1 < w4.heap.size + 1 by have := B5.out.b3.lt; omega)
                    clear t0 t1 t2 t3 t4 t5 t6 b0 b1 b2 b3 b4 n1 nf n1s m0 m1 m3 x0 x1 hb6
                    obtain ⟨t0, t1, t2, t3, t4, t5, t6⟩ := T9.out
                    obtain ⟨z0, z1, z2, z3⟩ := B9.out.b3.zb
                    have zf := B9.out.b3.zf
                    unfold Soft at zf
                    go_wp2_with fail
                    (try simp only [Exit.inBlock, Exit.then])
                    refine rrun_done B9.out.b3.zb a2 j c2 (p.time + lt) dd (tr.fixed + tr.rate * dd) 0 rfl rfl rfl ⟨a2, c2, trip_ret (by rw [F.out]) (by rw [F.out]; exact visits_len _ _ _ _ _ _), ?_, by rw [F.out]; dsimp only; rw [visits_len]; exact own_cap Q3.out, put4_below H9.out (by omega) _ _ _ _, fun y hy => by have := (Q3.out.lt y.block (by rw [hy]; rfl)).1; have := H5.out.size; omega⟩
                    rw [F.out]
                    exact ownV_reads (ownsRow_setCell_below (ownsRow_setCell_below (ownsRow_setCell_below (ownsRow_setCell_below Q3.out HLA.out _) HLA.out _) HLA.out _) HLA.out _) (visits_len _ _ _ _ _ _)
          · obtain ⟨E, hE⟩ : ∃ E, carriesE tr l = E := ⟨_, rfl⟩
            have F := Lib.hid (show RR = (noTrip, E) by rw [HR4.out]; unfold tripR; rw [if_pos h3, hE])
            rw [hE] at h3 ⊢
            have hb : (E != 0) = true := bne_iff_ne.2 h3
            clear h3 hE
            obtain ⟨z0, z1, z2, z3⟩ := B5.out.b3.zb
            obtain ⟨y0, y1, y2, y3⟩ := B5.out.nb
            have zf := B5.out.b3.zf
            unfold Soft at zf
            go_wp2_with fail
            (try simp only [Exit.inBlock, Exit.then])
            exact rrun_done B5.out.b3.zb none 0 0 0 0 0 E rfl rfl rfl (err_post F.out (put4_below H5.out (by omega) _ _ _ _))
  · have F := Lib.hid (show RR = (noTrip, rworldE x) by rw [← HRR.out]; unfold runR; rw [if_pos h1])
    obtain ⟨E, hE⟩ : ∃ E, rworldE x = E := ⟨_, rfl⟩
    rw [hE] at h1 F ⊢
    have hb : (E != 0) = true := bne_iff_ne.2 h1
    clear h1 hE
    obtain ⟨z0, z1, z2, z3⟩ := B1.out.b3.zb
    obtain ⟨y0, y1, y2, y3⟩ := B1.out.nb
    have zf := B1.out.b3.zf
    unfold Soft at zf
    go_wp2_with fail
    (try simp only [Exit.inBlock, Exit.then])
    exact rrun_done B1.out.b3.zb none 0 0 0 0 0 E rfl rfl rfl (err_post F.out (put4_below H1.out (by omega) _ _ _ _))
end Go.Proofs.Ytakiciemkecgfaa.Route

/-
  The walks of the reference's World (layers 7 and 8): what load's World and route's World tell.
-/
import Derived.Test.YtakiciemkecgfaaRefOrd
import Derived.Test.YtakiciemkecgfaaRefLeg
import Derived.BigQuiet
namespace Go.Proofs.Ytakiciemkecgfaa.Route
open Go.RowKit Go.Proofs Go.Proofs.Ytakiciemkecgfaa.AreaMath Go.Proofs.Ytakiciemkecgfaa.Area Go.Proofs.Ytakiciemkecgfaa.Load
set_option maxRecDepth 100000
set_option linter.unusedVariables false

/-- is the number at i among the first k? -/
def eqUp (l : List Int) (i k : Nat) : Bool := (List.range k).any fun j => at_ l j == at_ l i
def dup2 (l : List Int) : Nat → Bool
  | 0 => false
  | i + 1 => dup2 l i || eqUp l i i
theorem eqUp_succ (l : List Int) (i k : Nat) : eqUp l i (k + 1) = (eqUp l i k || (at_ l k == at_ l i)) := by
  unfold eqUp; rw [List.range_succ, List.any_append]; simp
theorem eqUp_zero (l : List Int) (i : Nat) : eqUp l i 0 = false := rfl
theorem eqUp_iff (l : List Int) (i : Nat) (hi : i < l.length) : eqUp l i i = true ↔ at_ l i ∈ l.take i := by
  unfold eqUp
  rw [List.any_eq_true]
  constructor
  · rintro ⟨j, hj, h⟩
    have hj' := List.mem_range.1 hj
    have h2 : at_ l j = at_ l i := by simpa using h
    rw [← h2]
    have : at_ (l.take i) j = at_ l j := by unfold at_; simp [List.getD, hj']
    rw [← this]
    exact at_mem (by rw [List.length_take]; omega)
  · intro h
    obtain ⟨j, hj, h2⟩ := mem_at h
    rw [List.length_take] at hj
    refine ⟨j, List.mem_range.2 (by omega), ?_⟩
    have : at_ (l.take i) j = at_ l j := by unfold at_; simp [List.getD, show j < i by omega]
    rw [this] at h2
    simpa using h2
theorem dup2_iff (l : List Int) : ∀ i, i ≤ l.length → (dup2 l i = false ↔ (l.take i).Nodup)
  | 0, _ => by simp [dup2]
  | i + 1, hi => by
    have ih := dup2_iff l i (by omega)
    rw [take_snoc l i (by omega), dup2, Bool.or_eq_false_iff, ih, List.nodup_append]
    have he := eqUp_iff l i (by omega)
    constructor
    · rintro ⟨h1, h2⟩
      refine ⟨h1, by simp, ?_⟩
      intro a ha b hb
      rw [List.mem_singleton] at hb
      rintro rfl
      subst hb
      rw [he.2 ha] at h2
      cases h2
    · rintro ⟨h1, _, h3⟩
      refine ⟨h1, ?_⟩
      cases hq : eqUp l i i with
      | false => rfl
      | true => exact absurd rfl (h3 _ (he.1 hq) _ (by simp))
theorem ids_at (l : List Ord) (k : Nat) (hk : k < l.length) : at_ (ids l) k = (ordAt l k).id := by unfold at_ ids ordAt; simp [List.getD_eq_getElem?_getD, hk]
theorem idsT_at (l : List Trk) (k : Nat) (hk : k < l.length) : at_ (idsT l) k = (trkAt l k).id := by unfold at_ idsT trkAt; simp [List.getD_eq_getElem?_getD, hk]
theorem dup2_dupB (l : List Int) : dup2 l l.length = dupB l := by
  have h := dup2_iff l l.length (Nat.le_refl _)
  rw [List.take_length, ← dupB_false] at h
  cases h1 : dup2 l l.length <;> cases h2 : dupB l <;> simp_all

set_option maxHeartbeats 16000000 in
theorem rw7_any (x : Wd) (q : Wp) (w : World) (h : Lies w x q) (hn1 : 1 ≤ x.n) (hn2 : x.n ≤ 16) :
    Calls Try.prog 28 #[.agg (wcells x.n q)] w fun e w' => e = .returned (.int .i64 (worldE x.n x.O x.R)) ∧ Below w.heap.size w w' := by
  have HLI := Lib.hid h
  obtain ⟨E, hE⟩ : ∃ E, worldE x.n x.O x.R = E := ⟨_, rfl⟩
  have HE := Lib.hid hE
  rw [hE]
  clear hE h
  have HOR := Lib.hid (fun (o : Ord) (w : World) => rorder_any o x.n w hn1 hn2)
  have HF := Lib.hid (FBox.new w x.n (.slice q.aD q.lD q.cD) (.slice q.aT q.lT q.cT) (.slice q.aO q.lO q.cO) (.slice q.aR q.lR q.cR) 40)
  have HB0 := Lib.hid (below_new w (.cells #[.int .i64 x.n, .slice q.aD q.lD q.cD, .slice q.aT q.lT q.cT, .slice q.aO q.lO q.cO, .slice q.aR q.lR q.cR] 40))
  unfold wcells
  by_cases h12 : 12 < q.lO
  · have F := Lib.hid (show (4 : Int) = E by rw [← HE.out]; unfold worldE; rw [if_pos (.inl (by rw [HLI.out.lO]; exact h12))])
    go_enter Try.func28, Try.ntmps28
    go_wp2_with fail
    go_ret
    exact ⟨ret_i64 F.out, HB0.out⟩
  by_cases h6 : 6 < q.lR
  · have F := Lib.hid (show (4 : Int) = E by rw [← HE.out]; unfold worldE; rw [if_pos (.inr (by rw [HLI.out.lR]; exact h6))])
    have d1 : decide (12 < (q.lO : Int)) = false := decide_eq_false (by omega)
    go_enter Try.func28, Try.ntmps28
    go_wp2_with fail
    go_ret
    exact ⟨ret_i64 F.out, HB0.out⟩
  have d1 : decide (12 < (q.lO : Int)) = false := decide_eq_false (by omega)
  have d2 : decide (6 < (q.lR : Int)) = false := decide_eq_false (by omega)
  have HE2 := Lib.hid (show E = if ordersE x.O x.n ≠ 0 ∨ trucksE x.R ≠ 0 then 1 else if dupB (ids x.O) || dupB (idsT x.R) then 6 else 0 by
    rw [← HE.out]; unfold worldE; rw [if_neg (by rw [HLI.out.lO, HLI.out.lR]; omega)])
  go_enter Try.func28, Try.ntmps28
  go_wp2_with fail
  obtain ⟨w0, hw0⟩ : ∃ W, w.alloc (.cells #[.int .i64 x.n, .slice q.aD q.lD q.cD, .slice q.aT q.lT q.cT, .slice q.aO q.lO q.cO, .slice q.aR q.lR q.cR] 40) = W := ⟨_, rfl⟩
  rw [hw0] at HF HB0 ⊢
  clear hw0
  have HBR := Lib.hid (Below.refl w0.heap.size w0)
  go_loopw [4, 3] (fun i tw wr => ∃ k : Nat, k ≤ q.lO ∧ i = .int .i64 k ∧ tw = .bool (dup2 (ids x.O) k) ∧ (∀ j, j < k → ordE (ordAt x.O j) x.n = 0) ∧ Below w0.heap.size w0 wr) (fun i tw wr => q.lO - (intOf i).toNat)
  case atStart => exact ⟨0, by omega, rfl, rfl, fun j hj => by omega, HBR.out⟩
  case round =>
    obtain ⟨k, hk, rfl, rfl, hO, hb⟩ := hrel
    have HO := Lib.hid hO; have HB := Lib.hid hb
    clear hO hb
    obtain ⟨tk, htk⟩ : ∃ t, dup2 (ids x.O) k = t := ⟨_, rfl⟩
    have HTK := Lib.hid htk
    rw [htk]
    clear htk
    obtain ⟨b0, b1, b2, b3, b4⟩ := HF.out.on HB.out
    by_cases hlt : k < q.lO
    · obtain ⟨b, off, ha, hc⟩ := ((HLI.out.below HB0.out).below HB.out).O (by rw [HLI.out.lO]; omega)
      have hkl : k < x.O.length := by rw [HLI.out.lO]; exact hlt
      obtain ⟨c0, c1, c2, c3, c4, c5, c6, c7⟩ := ordCells_at (hc k hkl)
      rw [ha] at b3
      have HKL := Lib.hid hkl
      obtain ⟨o, ho⟩ : ∃ o, ordAt x.O k = o := ⟨_, rfl⟩
      rw [ho] at c0 c1 c2 c3 c4 c5 c6 c7
      have HOO := Lib.hid ho
      have HC := Lib.hid (show ∀ m, m < x.O.length → wr.cell? ⟨b, off + m * 8, none⟩ = some (.int .i64 (ordAt x.O m).id) from fun m hm => hc m hm 0 _ rfl)
      have B3 := Lib.hid b3
      have C0 := Lib.hid c0
      have BRD := Lib.hid (Below.refl wr.heap.size wr).drew
      clear hc ho hkl ha
      go_wp2_with fail
      go_region_held_law (fun w' => (w'.cell? ⟨w.heap.size, 0, none⟩ = some (.int .i64 x.n) ∧ w'.cell? ⟨w.heap.size, 3, none⟩ = some (.slice (some ⟨b, off, none⟩) q.lO q.cO)) ∧ (w'.cell? ⟨b, off + k * 8, none⟩ = some (.int .i64 o.id) ∧ w'.cell? ⟨b, off + k * 8 + 1, none⟩ = some (.int .i64 o.owner) ∧ w'.cell? ⟨b, off + k * 8 + 2, none⟩ = some (.int .i64 o.node) ∧ w'.cell? ⟨b, off + k * 8 + 3, none⟩ = some (.int .i64 o.weight) ∧ w'.cell? ⟨b, off + k * 8 + 4, none⟩ = some (.int .i64 o.volume) ∧ w'.cell? ⟨b, off + k * 8 + 5, none⟩ = some (.int .i64 o.frm) ∧ w'.cell? ⟨b, off + k * 8 + 6, none⟩ = some (.int .i64 o.to) ∧ w'.cell? ⟨b, off + k * 8 + 7, none⟩ = some (.int .i64 o.service)))
        (first | exact ⟨⟨b0, b3⟩, ⟨c0, c1, c2, c3, c4, c5, c6, c7⟩⟩ | exact HS1.out | go_keep)
        (first | (go_at_call 24; refine (HOR.out o _).mono ?_; rintro _ w1 ⟨rfl, h1⟩; have H1 := Lib.hid (below_on BRD.out h1); have HS1 := Lib.hid (show ((w1.cell? ⟨w.heap.size, 0, none⟩ = some (.int .i64 x.n) ∧ w1.cell? ⟨w.heap.size, 3, none⟩ = some (.slice (some ⟨b, off, none⟩) q.lO q.cO)) ∧ (w1.cell? ⟨b, off + k * 8, none⟩ = some (.int .i64 o.id) ∧ w1.cell? ⟨b, off + k * 8 + 1, none⟩ = some (.int .i64 o.owner) ∧ w1.cell? ⟨b, off + k * 8 + 2, none⟩ = some (.int .i64 o.node) ∧ w1.cell? ⟨b, off + k * 8 + 3, none⟩ = some (.int .i64 o.weight) ∧ w1.cell? ⟨b, off + k * 8 + 4, none⟩ = some (.int .i64 o.volume) ∧ w1.cell? ⟨b, off + k * 8 + 5, none⟩ = some (.int .i64 o.frm) ∧ w1.cell? ⟨b, off + k * 8 + 6, none⟩ = some (.int .i64 o.to) ∧ w1.cell? ⟨b, off + k * 8 + 7, none⟩ = some (.int .i64 o.service))) from ⟨⟨cell_on H1.out b0, cell_on H1.out b3⟩, ⟨cell_on H1.out c0, cell_on H1.out c1, cell_on H1.out c2, cell_on H1.out c3, cell_on H1.out c4, cell_on H1.out c5, cell_on H1.out c6, cell_on H1.out c7⟩⟩); clear h1))
      by_cases h0 : ordE o x.n = 0
      · rw [h0]
        have HK1 := Lib.hid (show ∀ j, j < k + 1 → ordE (ordAt x.O j) x.n = 0 from fun j hj => by
          by_cases e : j = k
          · subst e; rw [HOO.out]; exact h0
          · exact HO.out j (by omega))
        have HB1 := Lib.hid (below_on HB.out H1.out)
        clear h0 b0 b1 b2 b3 b4 c0 c1 c2 c3 c4 c5 c6 c7
        have HCW := Lib.hid (show ∀ m, m < x.O.length → w1.cell? ⟨b, off + m * 8, none⟩ = some (.int .i64 (ordAt x.O m).id) from fun m hm => cell_on H1.out (HC.out m hm))
        have B3W := Lib.hid (cell_on H1.out B3.out)
        rename World => wo
        have HQR := Lib.hid (Below.refl wo.heap.size wo)
        go_wp2_with fail
        go_loopw [5, 3] (fun i tw wr => ∃ m : Nat, m ≤ k ∧ i = .int .i64 m ∧ tw = .bool (tk || eqUp (ids x.O) k m) ∧ Below wo.heap.size wo wr) (fun i tw wr => k - (intOf i).toNat)
        case atStart => exact ⟨0, by omega, rfl, by rw [eqUp_zero, Bool.or_false], HQR.out⟩
        case round =>
          obtain ⟨m, hm, rfl, rfl, hb2⟩ := hrel
          have HBM := Lib.hid hb2; clear hb2
          obtain ⟨t, ht⟩ : ∃ t, (tk || eqUp (ids x.O) k m) = t := ⟨_, rfl⟩
          have HT := Lib.hid ht
          rw [ht]
          clear ht
          by_cases hmk : m < k
          · have cm := cell_on HBM.out (HCW.out m (by have := HKL.out; omega))
            have ck := cell_on HBM.out (HCW.out k HKL.out)
            have bb := cell_on HBM.out B3W.out
            have HEQ := Lib.hid (show (at_ (ids x.O) m == at_ (ids x.O) k) = ((ordAt x.O m).id == (ordAt x.O k).id) by
              rw [ids_at _ _ (by have := HKL.out; omega), ids_at _ _ HKL.out])
            obtain ⟨im, him⟩ : ∃ i, (ordAt x.O m).id = i := ⟨_, rfl⟩
            obtain ⟨ik, hik⟩ : ∃ i, (ordAt x.O k).id = i := ⟨_, rfl⟩
            rw [him, hik] at HEQ
            rw [him] at cm
            rw [hik] at ck
            have hmq : m < q.lO := by omega
            clear him hik
            cases t with
            | true =>
              go_wp2_with fail
              go_quiet (fail)
              go_wp2_with fail
              go_roundw
              case rel => exact ⟨m + 1, by omega, by go_num, by rw [eqUp_succ, ← Bool.or_assoc, HT.out, Bool.true_or], below_drewN HBM.out _⟩
              case measure => simp [intOf]; omega
            | false =>
              cases he : (im == ik) with
              | true =>
                go_wp2_with fail
                go_quiet (fail)
                go_wp2_with fail
                go_roundw
                case rel => exact ⟨m + 1, by omega, by go_num, by rw [eqUp_succ, ← Bool.or_assoc, HT.out, HEQ.out, he, Bool.false_or], below_drewN HBM.out _⟩
                case measure => simp [intOf]; omega
              | false =>
                go_wp2_with fail
                go_quiet (fail)
                go_wp2_with fail
                go_roundw
                case rel => exact ⟨m + 1, by omega, by go_num, by rw [eqUp_succ, ← Bool.or_assoc, HT.out, HEQ.out, he, Bool.false_or], below_drewN HBM.out _⟩
                case measure => simp [intOf]; omega
          · obtain rfl : m = k := by omega
            go_wp2_with fail
            go_roundw
            case rel => exact ⟨m + 1, by omega, by go_num, by show _ = Value.bool (dup2 (ids x.O) m || eqUp (ids x.O) m m); rw [HTK.out, HT.out], HK1.out, below_on HB1.out HBM.out⟩
            case measure => simp [intOf]; omega
      · have h1b : (ordE o x.n != 0) = true := bne_iff_ne.2 h0
        have F := Lib.hid (show (1 : Int) = E by
          rw [HE2.out, if_pos]
          left
          intro hz
          refine h0 ?_
          rw [← HOO.out]
          unfold ordersE at hz
          have hall : (x.O.all fun o => ordE o x.n == 0) = true := by
            cases hb : (x.O.all fun o => ordE o x.n == 0) with
            | true => rfl
            | false => rw [hb] at hz; simp at hz
          have := List.all_eq_true.1 hall _ (show ordAt x.O k ∈ x.O by rw [ordAt_get _ _ HKL.out]; exact List.getElem_mem _)
          simpa using this)
        clear h0
        go_wp2_with fail
        go_ret
        exact ⟨ret_i64 F.out, below_on HB0.out (below_on HB.out H1.out)⟩
    · obtain rfl : k = q.lO := by omega
      have HOALL := Lib.hid (show ordersE x.O x.n = 0 by
        unfold ordersE
        rw [if_pos]
        rw [List.all_eq_true]
        intro o ho
        obtain ⟨j, hj, rfl⟩ := List.getElem_of_mem ho
        have := HO.out j (by rw [← HLI.out.lO]; exact hj)
        rw [ordAt_get _ _ hj] at this
        simpa using this)
      have HTO := Lib.hid (show dupB (ids x.O) = tk by
        rw [← dup2_dupB, ← HTK.out]; congr 1; unfold ids; rw [List.length_map]; exact HLI.out.lO)
      have HBX := Lib.hid HB.out
      clear HB HTK
      obtain ⟨TO, hTO⟩ : ∃ t, tk = t := ⟨_, rfl⟩
      subst hTO
      rename World => wx
      rename Bool => TO
      have HBR2 := Lib.hid (Below.refl wx.heap.size wx)
      go_wp2_with fail
      clear b0 b1 b2 b3 b4
      go_loopw [6, 3] (fun i tw wr => ∃ k : Nat, k ≤ q.lR ∧ i = .int .i64 k ∧ tw = .bool ((TO || dup2 (idsT x.R) k)) ∧ (∀ j, j < k → trkE (trkAt x.R j) = 0) ∧ Below wx.heap.size wx wr) (fun i tw wr => q.lR - (intOf i).toNat)
      case atStart => exact ⟨0, by omega, rfl, by simp [dup2], fun j hj => by omega, HBR2.out⟩
      case round =>
        obtain ⟨k, hk, rfl, rfl, hO, hb⟩ := hrel
        have HO := Lib.hid hO; have HB := Lib.hid hb
        clear hO hb
        obtain ⟨tk, htk⟩ : ∃ t, (TO || dup2 (idsT x.R) k) = t := ⟨_, rfl⟩
        have HTK := Lib.hid htk
        rw [htk]
        clear htk
        obtain ⟨b0, b1, b2, b3, b4⟩ := HF.out.on (below_on HBX.out HB.out)
        by_cases hlt : k < q.lR
        · obtain ⟨b, off, ha, hc⟩ := ((HLI.out.below HB0.out).below (below_on HBX.out HB.out)).R (by rw [HLI.out.lR]; omega)
          have hkl : k < x.R.length := by rw [HLI.out.lR]; exact hlt
          obtain ⟨c0, c1, c2, c3, c4, c5, c6⟩ := trkCells_at (hc k hkl)
          rw [ha] at b4
          have HKL := Lib.hid hkl
          obtain ⟨o, ho⟩ : ∃ o, trkAt x.R k = o := ⟨_, rfl⟩
          rw [ho] at c0 c1 c2 c3 c4 c5 c6
          have HOO := Lib.hid ho
          have HC := Lib.hid (show ∀ m, m < x.R.length → wr.cell? ⟨b, off + m * 7, none⟩ = some (.int .i64 (trkAt x.R m).id) from fun m hm => hc m hm 0 _ rfl)
          have B3 := Lib.hid b4
          have C0 := Lib.hid c0
          have BRD := Lib.hid (Below.refl wr.heap.size wr).drew
          clear hc ho hkl ha
          go_wp2_with fail
          skip
    
          refine (rtrk_any o _).mono ?_; rintro _ w1 ⟨rfl, h1⟩; have H1 := Lib.hid h1; clear h1
          by_cases h0 : trkE o = 0
          · rw [h0]
            have HK1 := Lib.hid (show ∀ j, j < k + 1 → trkE (trkAt x.R j) = 0 from fun j hj => by
              by_cases e : j = k
              · subst e; rw [HOO.out]; exact h0
              · exact HO.out j (by omega))
            have HB1 := Lib.hid (below_on HB.out H1.out)
            clear h0 b0 b1 b2 b3 b4 c0 c1 c2 c3 c4 c5 c6
            have HCW := Lib.hid (show ∀ m, m < x.R.length → w1.cell? ⟨b, off + m * 7, none⟩ = some (.int .i64 (trkAt x.R m).id) from fun m hm => cell_on H1.out (HC.out m hm))
            have B3W := Lib.hid (cell_on H1.out B3.out)
            rename World => wo
            have HQR := Lib.hid (Below.refl wo.heap.size wo)
            go_wp2_with fail
            go_loopw [7, 3] (fun i tw wr => ∃ m : Nat, m ≤ k ∧ i = .int .i64 m ∧ tw = .bool (tk || eqUp (idsT x.R) k m) ∧ Below wo.heap.size wo wr) (fun i tw wr => k - (intOf i).toNat)
            case atStart => exact ⟨0, by omega, rfl, by rw [eqUp_zero, Bool.or_false], HQR.out⟩
            case round =>
              obtain ⟨m, hm, rfl, rfl, hb2⟩ := hrel
              have HBM := Lib.hid hb2; clear hb2
              obtain ⟨t, ht⟩ : ∃ t, (tk || eqUp (idsT x.R) k m) = t := ⟨_, rfl⟩
              have HT := Lib.hid ht
              rw [ht]
              clear ht
              by_cases hmk : m < k
              · have cm := cell_on HBM.out (HCW.out m (by have := HKL.out; omega))
                have ck := cell_on HBM.out (HCW.out k HKL.out)
                have bb := cell_on HBM.out B3W.out
                have HEQ := Lib.hid (show (at_ (idsT x.R) m == at_ (idsT x.R) k) = ((trkAt x.R m).id == (trkAt x.R k).id) by
                  rw [idsT_at _ _ (by have := HKL.out; omega), idsT_at _ _ HKL.out])
                obtain ⟨im, him⟩ : ∃ i, (trkAt x.R m).id = i := ⟨_, rfl⟩
                obtain ⟨ik, hik⟩ : ∃ i, (trkAt x.R k).id = i := ⟨_, rfl⟩
                rw [him, hik] at HEQ
                rw [him] at cm
                rw [hik] at ck
                have hmq : m < q.lR := by omega
                clear him hik
                cases t with
                | true =>
                  go_wp2_with fail
                  go_quiet (fail)
                  go_wp2_with fail
                  go_roundw
                  case rel => exact ⟨m + 1, by omega, by go_num, by rw [eqUp_succ, ← Bool.or_assoc, HT.out, Bool.true_or], below_drewN HBM.out _⟩
                  case measure => simp [intOf]; omega
                | false =>
                  cases he : (im == ik) with
                  | true =>
                    go_wp2_with fail
                    go_quiet (fail)
                    go_wp2_with fail
                    go_roundw
                    case rel => exact ⟨m + 1, by omega, by go_num, by rw [eqUp_succ, ← Bool.or_assoc, HT.out, HEQ.out, he, Bool.false_or], below_drewN HBM.out _⟩
                    case measure => simp [intOf]; omega
                  | false =>
                    go_wp2_with fail
                    go_quiet (fail)
                    go_wp2_with fail
                    go_roundw
                    case rel => exact ⟨m + 1, by omega, by go_num, by rw [eqUp_succ, ← Bool.or_assoc, HT.out, HEQ.out, he, Bool.false_or], below_drewN HBM.out _⟩
                    case measure => simp [intOf]; omega
              · obtain rfl : m = k := by omega
                go_wp2_with fail
                go_roundw
                case rel => exact ⟨m + 1, by omega, by go_num, by show _ = Value.bool (TO || (dup2 (idsT x.R) m || eqUp (idsT x.R) m m)); rw [← Bool.or_assoc, HTK.out, HT.out], HK1.out, below_on HB1.out HBM.out⟩
                case measure => simp [intOf]; omega
          · have h1b : (trkE o != 0) = true := bne_iff_ne.2 h0
            have F := Lib.hid (show (1 : Int) = E by
              rw [HE2.out, if_pos]
              right
              intro hz
              refine h0 ?_
              rw [← HOO.out]
              unfold trucksE at hz
              have hall : (x.R.all fun o => trkE o == 0) = true := by
                cases hb : (x.R.all fun o => trkE o == 0) with
                | true => rfl
                | false => rw [hb] at hz; simp at hz
              have := List.all_eq_true.1 hall _ (show trkAt x.R k ∈ x.R by rw [trkAt_get _ _ HKL.out]; exact List.getElem_mem _)
              simpa using this)
            clear h0
            go_wp2_with fail
            go_ret
            exact ⟨ret_i64 F.out, below_on HB0.out (below_on HBX.out (below_on HB.out H1.out))⟩
        · obtain rfl : k = q.lR := by omega
          have HTT := Lib.hid (show (dupB (ids x.O) || dupB (idsT x.R)) = tk by
            rw [HTO.out, ← dup2_dupB, ← HTK.out]; congr 2; unfold idsT; rw [List.length_map]; exact HLI.out.lR)
          have HTALL := Lib.hid (show trucksE x.R = 0 by
            unfold trucksE
            rw [if_pos]
            rw [List.all_eq_true]
            intro o ho
            obtain ⟨j, hj, rfl⟩ := List.getElem_of_mem ho
            have := HO.out j (by rw [← HLI.out.lR]; exact hj)
            rw [trkAt_get _ _ hj] at this
            simpa using this)
          cases tk with
          | true =>
            have F := Lib.hid (show (6 : Int) = E by rw [HE2.out, HOALL.out, HTALL.out, HTT.out, if_neg (by simp)]; rfl)
            go_wp2_with fail
            go_ret
            exact ⟨ret_i64 F.out, below_on HB0.out (below_on HBX.out HB.out)⟩
          | false =>
            have F := Lib.hid (show (0 : Int) = E by rw [HE2.out, HOALL.out, HTALL.out, HTT.out, if_neg (by simp)]; rfl)
            go_wp2_with fail
            go_ret
            exact ⟨ret_i64 F.out, below_on HB0.out (below_on HBX.out HB.out)⟩

set_option maxHeartbeats 4000000 in
theorem r8world_any (x : Wd) (q : Wp) (w : World) (h : Lies w x q) :
    Calls Try.prog 42 #[.agg (wcells x.n q)] w fun e w' => e = .returned (.int .i64 (rworldE x)) ∧ Below w.heap.size w w' := by
  have HF := Lib.hid (FBox.new w x.n (.slice q.aD q.lD q.cD) (.slice q.aT q.lT q.cT) (.slice q.aO q.lO q.cO) (.slice q.aR q.lR q.cR) 40)
  have HB0 := Lib.hid (below_new w (.cells #[.int .i64 x.n, .slice q.aD q.lD q.cD, .slice q.aT q.lT q.cT, .slice q.aO q.lO q.cO, .slice q.aR q.lR q.cR] 40))
  have HC := Lib.hid (rcheck_any x.n q.aD q.aT x.D x.T q.lD q.lT q.cD q.cT (w.alloc (.cells #[.int .i64 x.n, .slice q.aD q.lD q.cD, .slice q.aT q.lT q.cT, .slice q.aO q.lO q.cO, .slice q.aR q.lR q.cR] 40)) h.lD h.lT (h.D.alloc _) (h.T.alloc _))
  have HW : Hid (errC x.n x.D x.T = 0 → ∀ w1, Below w.heap.size w w1 → Calls Try.prog 28 #[.agg #[.int .i64 x.n, .slice q.aD q.lD q.cD, .slice q.aT q.lT q.cT, .slice q.aO q.lO q.cO, .slice q.aR q.lR q.cR]] w1 fun e w' => e = .returned (.int .i64 (worldE x.n x.O x.R)) ∧ Below w1.heap.size w1 w') := fun he w1 hw1 => by
    have hv : validB x.n x.D x.T = true := by
      unfold errC at he
      cases hv : validB x.n x.D x.T with
      | true => rfl
      | false => rw [hv] at he; simp at he
    obtain ⟨v1, v2, _⟩ := validB_iff.1 hv
    exact rw7_any x q w1 (h.below hw1) v1 v2
  obtain ⟨E, hE⟩ : ∃ E, rworldE x = E := ⟨_, rfl⟩
  have HE := Lib.hid (show E = if errC x.n x.D x.T = 0 then worldE x.n x.O x.R else errC x.n x.D x.T from hE.symm)
  rw [hE]
  clear hE h
  have he01 : errC x.n x.D x.T = 0 ∨ errC x.n x.D x.T = 1 := by unfold errC; cases validB x.n x.D x.T <;> simp
  unfold wcells
  rcases he01 with he | he
  · rw [he, if_pos rfl] at HE
    rw [he] at HC
    have HWW := Lib.hid (HW.out he)
    clear HW he
    go_enter Try.func42, Try.ntmps42
    go_wp2_with fail
    refine HC.out.mono ?_
    rintro _ w1 ⟨rfl, hw1⟩
    have H1 := Lib.hid (below_on HB0.out hw1)
    obtain ⟨b0, b1, b2, b3, b4⟩ := HF.out.on hw1
    clear hw1
    go_wp2_with fail
    refine (HWW.out _ H1.out).mono ?_
    rintro _ w2 ⟨rfl, hw2⟩
    have H2 := Lib.hid (below_on H1.out hw2)
    clear hw2
    go_wp2_with fail
    go_ret
    exact ⟨ret_i64 HE.out.symm, H2.out⟩
  · rw [he, if_neg (by decide)] at HE
    rw [he] at HC
    clear HW he
    go_enter Try.func42, Try.ntmps42
    go_wp2_with fail
    refine HC.out.mono ?_
    rintro _ w1 ⟨rfl, hw1⟩
    have H1 := Lib.hid (below_on HB0.out hw1)
    clear hw1
    go_wp2_with fail
    go_ret
    exact ⟨ret_i64 HE.out.symm, H1.out⟩
end Go.Proofs.Ytakiciemkecgfaa.Route

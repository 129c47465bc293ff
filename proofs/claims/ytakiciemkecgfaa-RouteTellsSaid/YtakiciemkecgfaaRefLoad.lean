/-
  The walks of the reference's Sum and Carries (layer 7): the same as the program's.
-/
import Derived.Test.YtakiciemkecgfaaLoadCarries
import Derived.Test.YtakiciemkecgfaaRefSum
import Derived.Test.YtakiciemkecgfaaRefFind
namespace Go.Proofs.Ytakiciemkecgfaa.Append
open Go Go.Proofs Go.RowKit
set_option linter.unusedVariables false
variable {P : Program}

/-- append of one element onto one of two owned slices, at the list of a region's operations -/
theorem wpList_append_two (w : World) {ops : Array Oper} {rest : List Oper} {o : Oper} {a : Act} {Q : Exit → Act → World → Prop} (hgd : o.guard = none) (s x : Operand) (t : TypeId)
    (ho : o.op = .call { callee := .builtin .append, args := #[s, x], argTypes := #[t, t] })
    (base : Nat) (e : TypeId) (i : TypeInfo) (z : Value) (size bytes : Nat) (ht : P.underlying t = some (.slice e)) (hi : P.info? e = some i) (hz : i.zero = some z)
    (hsize : i.size = size) (hby : i.bytes = bytes) (hzs : z.cells.size = size) (hsz : 0 < size) (e2 size2 : Nat)
    (v u : Value) (n m' : Nat) (xs us : List Value) (hs : a.eval s = v) (hown : w.ownsRow base e size v n xs) (hu : w.ownsRow base e2 size2 u m' us) (hap : Apart v u)
    (ad : Addr) (m c : Nat) (news : List Value) (hx : a.eval x = .slice (some ad) m c) (hl : news.length = m * size) (hnews : ∀ j q, news[j]? = some q → w.cell? (ad.add j) = some q) (h1 : ∀ q ∈ news, q.oneCell' = true)
    (hm : 0 < m) (h63 : n + m ≤ maxLen) (hbytes : (n + m) * bytes ≤ 140737488355328) (hbase : base ≤ w.heap.size) (N : Nat) (hN : n + m = N) (ys : List Value) (hys : xs ++ news = ys)
    (h : ∀ g cap w', w'.ownsRow base e size (.slice (some ⟨g, 0, none⟩) N cap) N ys → w'.ownsRow base e2 size2 u m' us → Apart (.slice (some ⟨g, 0, none⟩) N cap) u → Below base w w' →
      (∀ p : Addr, p.block < w.heap.size → v.ownBlock ≠ some p.block → w'.cell? p = w.cell? p) → wpList P ops Q rest (a.put o.dst (.slice (some ⟨g, 0, none⟩) N cap)) w') :
    wpList P ops Q (o :: rest) a w := by
  subst hN hys
  refine wpList_append_lies w hgd s x t ho base e i z size bytes ht hi hz hsize hby hzs hsz v n xs hs hown ad m c news hx hl hnews h1 hm h63 hbytes hbase _ rfl ?_
  intro g cap w' h2 h3 h4 h5
  refine h g cap w' h2 (hu.kept h3 hap.symm) ?_ ?_ ?_
  · right
    show some g ≠ u.ownBlock
    intro e1
    rcases h4 with h4 | h4
    · rcases hap with h6 | h6
      · rw [h6] at h4; cases h4
      · exact h6 (h4.trans e1)
    · have := (hu.lt g e1.symm).2
      omega
  · refine (Below.refl base w).grown h3 hbase (fun k hk => ?_)
    exact (hown.lt k hk).1
  · exact fun p hp hne => h3.cell_far p hp (fun e => hne e.symm)
end Go.Proofs.Ytakiciemkecgfaa.Append
namespace Go.Proofs.Ytakiciemkecgfaa.Load
open Go.RowKit Go.Proofs Go.Proofs.Ytakiciemkecgfaa.AreaMath Go.Proofs.Ytakiciemkecgfaa.Area Go.Proofs.Ytakiciemkecgfaa.Append
set_option maxRecDepth 100000
set_option linter.unusedVariables false

set_option maxHeartbeats 4000000 in
theorem rlsum_walk (a : Option Addr) (l : List Ord) (len cap : Nat) (w : World) (hl : l.length = len) (hr : ReadsO w a l) (hm : len ≤ 400) :
    Calls Try.prog 26 #[.slice a len cap] w fun e w' => e = .returned (.tuple #[.int .i64 (loadS l).1, .int .i64 (loadS l).2.1, .int .i64 (loadS l).2.2]) ∧ Below w.heap.size w w' := by
  have HR := Lib.hid hr; have HL := Lib.hid hl
  clear hr hl
  obtain ⟨i0, hi, hz0, hz1, hz2⟩ := info_parts info2
  have HI := Lib.hid hi; have HZ0 := Lib.hid hz0; have HZ1 := Lib.hid hz1; have HZ2 := Lib.hid hz2
  clear hi hz0 hz1 hz2
  have T00 : Hid (Two w ((w.alloc (.cells #[] 2)).alloc (.cells #[] 2)) (.slice (some ⟨w.heap.size, 0, none⟩) 0 0) (.slice (some ⟨w.heap.size + 1, 0, none⟩) 0 0) 0 0 [] []) := by
    have h1 := World.ownsRow_lit (base := w.heap.size) (e := 2) (size := 1) w #[] 0 (Nat.le_refl _) (by decide) rfl
    have h2 := World.ownsRow_lit (base := w.heap.size) (e := 2) (size := 1) (w.alloc (.cells #[] 2)) #[] 0 (by rw [World.size_alloc]; omega) (by decide) rfl
    rw [World.size_alloc] at h2
    exact ⟨h1.alloc _, h2, .inr (by show some w.heap.size ≠ some (w.heap.size + 1); intro h; have := Option.some.inj h; omega), below_on (below_new _ _) (below_new _ _)⟩
  go_enter Try.func26, Try.ntmps26
  go_wp2_with fail
  go_loopw [7, 5, 6] (fun i v5 v6 wr => ∃ k : Nat, k ≤ len ∧ i = .int .i64 k ∧ Two w wr v5 v6 k k ((weights l).take k) ((volumes l).take k)) (fun i v5 v6 wr => len - (intOf i).toNat)
  case atStart => exact ⟨0, by omega, rfl, T00.out⟩
  case round =>
    obtain ⟨k, hk, rfl, hT⟩ := hrel
    have HT := Lib.hid hT; clear hT
    by_cases hlt : k < len
    · have hkl : k < l.length := by rw [HL.out]; exact hlt
      obtain ⟨b, off, ha, hc⟩ := HR.out (by omega)
      subst ha
      obtain ⟨c0, c1, c2, c3, c4, c5, c6, c7⟩ := ordCells_at (hc k hkl)
      have N1 := Lib.hid (show (intsV ((weights l).take k)) ++ [.int .i64 (ordAt l k).weight] = intsV ((weights l).take (k + 1)) by
        unfold weights; rw [← take_map_snoc l Ord.weight k hkl]; simp [intsV])
      have N2 := Lib.hid (show (intsV ((volumes l).take k)) ++ [.int .i64 (ordAt l k).volume] = intsV ((volumes l).take (k + 1)) by
        unfold volumes; rw [← take_map_snoc l Ord.volume k hkl]; simp [intsV])
      obtain ⟨o, ho⟩ : ∃ o, ordAt l k = o := ⟨_, rfl⟩
      rw [ho] at c0 c1 c2 c3 c4 c5 c6 c7 N1 N2
      clear hc ho hkl
      have C4 := Lib.hid c4
      have d3 := cell_on HT.out.bel c3
      have TA := Lib.hid (HT.out.alloc (.cells #[.int .i64 o.weight] 2))
      have XA := Lib.hid (lit1_new wr o.weight)
      clear c0 c1 c2 c3 c4 c5 c6 c7
      go_wp2_with (first
        | (at_builtin; refine wpList_append_two _ rfl _ _ 22 rfl w.heap.size 2 i0 (.int .i64 0) 1 8 Try.underlying22 HI.out HZ0.out HZ1.out HZ2.out rfl (by decide) 2 1 u5 u6 k k _ _ rfl TA.out.own5 TA.out.own6 TA.out.ap ⟨wr.heap.size, 0, none⟩ 1 1 [.int .i64 o.weight] rfl rfl XA.out.news (intsV_one [o.weight]) (by omega) (by unfold maxLen; omega) (by omega) TA.out.bel.size (k + 1) rfl (intsV ((weights l).take (k + 1))) N1.out ?_; intro g1 p1 w2 q1 q2 q3 q4 q5; have T9 := Lib.hid (Two.mk q1 q2 q3 (TA.out.bel.trans q4)); have d4 := cell_on T9.out.bel C4.out; have T9a := Lib.hid (T9.out.alloc (.cells #[.int .i64 o.volume] 2)); have Y9a := Lib.hid (lit1_new w2 o.volume); clear q1 q2 q3 q4 q5)
        | (at_builtin; refine wpList_append_two _ rfl _ _ 22 rfl w.heap.size 2 i0 (.int .i64 0) 1 8 Try.underlying22 HI.out HZ0.out HZ1.out HZ2.out rfl (by decide) 2 1 u6 _ k (k + 1) _ _ rfl T9a.out.own6 T9a.out.own5 T9a.out.ap.symm ⟨w2.heap.size, 0, none⟩ 1 1 [.int .i64 o.volume] rfl rfl Y9a.out.news (intsV_one [o.volume]) (by omega) (by unfold maxLen; omega) (by omega) T9a.out.bel.size (k + 1) rfl (intsV ((volumes l).take (k + 1))) N2.out ?_; intro g2 p2 w3 q1 q2 q3 q4 q5; have T10 := Lib.hid (Two.mk q2 q1 (Apart.symm q3) (T9a.out.bel.trans q4)); clear q1 q2 q3 q4 q5))
      go_roundw
      case rel => exact ⟨k + 1, by omega, by go_num, T10.out⟩
      case measure => simp [intOf]; omega
    · obtain rfl : k = len := by omega
      have e1 : (weights l).take k = weights l := by rw [← HL.out]; exact take_all l Ord.weight
      have e2 : (volumes l).take k = volumes l := by rw [← HL.out]; exact take_all l Ord.volume
      have l1 : (weights l).length = k := by unfold weights; rw [List.length_map]; exact HL.out
      have l2 : (volumes l).length = k := by unfold volumes; rw [List.length_map]; exact HL.out
      have t5 := HT.out.own5
      have t6 := HT.out.own6
      rw [e1] at t5; rw [e2] at t6
      obtain ⟨a5, c5, rfl, r5⟩ := own_form t5 l1
      obtain ⟨a6, c6, rfl, r6⟩ := own_form t6 l2
      have S5 := Money.rsum_any a5 c5 (weights l) wr r5 (by omega)
      have S6 := Money.rsum_any a6 c6 (volumes l) wr r6 (by omega)
      rw [l1] at S5; rw [l2] at S6
      have HS5 := Lib.hid S5; have HS6 := Lib.hid S6
      have HB := Lib.hid HT.out.bel
      clear S5 S6 t5 t6 r5 r6 e1 e2 l1 l2 HT
      have F : Hid (loadS l = if (MoneyMath.sumP (weights l)).2 ≠ 0 then (0, 0, (MoneyMath.sumP (weights l)).2) else if (MoneyMath.sumP (volumes l)).2 ≠ 0 then (0, 0, (MoneyMath.sumP (volumes l)).2) else ((MoneyMath.sumP (weights l)).1, (MoneyMath.sumP (volumes l)).1, 0)) := rfl
      obtain ⟨p1, hp1⟩ : ∃ p, (MoneyMath.sumP (weights l)).1 = p := ⟨_, rfl⟩
      obtain ⟨p2, hp2⟩ : ∃ p, (MoneyMath.sumP (weights l)).2 = p := ⟨_, rfl⟩
      obtain ⟨q1, hq1⟩ : ∃ p, (MoneyMath.sumP (volumes l)).1 = p := ⟨_, rfl⟩
      obtain ⟨q2, hq2⟩ : ∃ p, (MoneyMath.sumP (volumes l)).2 = p := ⟨_, rfl⟩
      rw [hp1, hp2] at HS5; rw [hq1, hq2] at HS6; rw [hp1, hp2, hq1, hq2] at F
      clear hp1 hp2 hq1 hq2
      go_wp2_with fail
      refine HS5.out.mono ?_; rintro _ w1 ⟨rfl, rfl⟩
      by_cases h1 : p2 = 0
      · subst h1
        rw [if_neg (by simp)] at F
        go_wp2_with fail
        refine HS6.out.mono ?_; rintro _ w2 ⟨rfl, rfl⟩
        by_cases h2 : q2 = 0
        · subst h2
          rw [if_neg (by simp)] at F
          go_wp2_with fail
          go_ret3
          exact ⟨three_ret (by rw [F.out]) (by rw [F.out]) (by rw [F.out]), HB.out⟩
        · rw [if_pos h2] at F
          have hb2 : (q2 != 0) = true := bne_iff_ne.2 h2
          clear h2
          go_wp2_with fail
          go_ret3
          exact ⟨three_ret (by rw [F.out]) (by rw [F.out]) (by rw [F.out]), HB.out⟩
      · rw [if_pos h1] at F
        have hb1 : (p2 != 0) = true := bne_iff_ne.2 h1
        clear h1
        go_wp2_with fail
        refine HS6.out.mono ?_; rintro _ w2 ⟨rfl, rfl⟩
        go_wp2_with fail
        go_ret3
        exact ⟨three_ret (by rw [F.out]) (by rw [F.out]) (by rw [F.out]), HB.out⟩

set_option maxHeartbeats 2000000 in
theorem rcarries_any (t : Trk) (a : Option Addr) (l : List Ord) (len cap : Nat) (w : World) (hl : l.length = len) (hr : ReadsO w a l) (hm : len ≤ 400) :
    Calls Try.prog 32 #[.agg t.cells, .slice a len cap] w fun e w' => e = .returned (.int .i64 (carriesE t l)) ∧ Below w.heap.size w w' := by
  obtain ⟨tid, tw, tv, ts, te, tf, tr⟩ := t
  unfold Trk.cells carriesE
  dsimp only
  have HB : Hid (Below w.heap.size w (w.alloc (.cells #[.int .i64 tid, .int .i64 tw, .int .i64 tv, .int .i64 ts, .int .i64 te, .int .i64 tf, .int .i64 tr] 42))) := (Below.refl _ _).alloc (Nat.le_refl _) _
  have HS := Lib.hid (rlsum_walk a l len cap (w.alloc (.cells #[.int .i64 tid, .int .i64 tw, .int .i64 tv, .int .i64 ts, .int .i64 te, .int .i64 tf, .int .i64 tr] 42)) hl (hr.below HB.out) hm)
  have h1 := box_cell w #[.int .i64 tid, .int .i64 tw, .int .i64 tv, .int .i64 ts, .int .i64 te, .int .i64 tf, .int .i64 tr] 42 1 _ rfl
  have h2 := box_cell w #[.int .i64 tid, .int .i64 tw, .int .i64 tv, .int .i64 ts, .int .i64 te, .int .i64 tf, .int .i64 tr] 42 2 _ rfl
  clear hl hr
  obtain ⟨p, hp⟩ : ∃ p, (loadS l).1 = p := ⟨_, rfl⟩
  obtain ⟨q, hq⟩ : ∃ p, (loadS l).2.1 = p := ⟨_, rfl⟩
  obtain ⟨e, he⟩ : ∃ p, (loadS l).2.2 = p := ⟨_, rfl⟩
  rw [hp, hq, he] at HS ⊢
  clear hp hq he
  obtain ⟨R, hR⟩ : ∃ R, (if e ≠ 0 then e else if tw < p ∨ tv < q then 9 else 0) = R := ⟨_, rfl⟩
  rw [hR]
  have RR := Lib.hid hR
  clear hR
  go_enter Try.func32, Try.ntmps32
  go_wp2_with fail
  refine HS.out.mono ?_
  rintro _ w1 ⟨rfl, hw1⟩
  have g1 := cell_on hw1 h1
  have g2 := cell_on hw1 h2
  have H1 := Lib.hid (below_on HB.out hw1)
  clear hw1 h1 h2 HS
  by_cases h0 : e = 0
  · subst h0
    rcases (by omega : tw < p ∨ (p ≤ tw ∧ tv < q) ∨ (p ≤ tw ∧ q ≤ tv)) with h | ⟨h, h'⟩ | ⟨h, h'⟩
    · have F := Lib.hid (show (9 : Int) = R by rw [← RR.out, if_neg (by simp), if_pos (.inl h)])
      go_wp2_with fail
      go_ret
      exact ⟨ret_i64 F.out, H1.out⟩
    · have F := Lib.hid (show (9 : Int) = R by rw [← RR.out, if_neg (by simp), if_pos (.inr h')])
      go_wp2_with fail
      go_ret
      exact ⟨ret_i64 F.out, H1.out⟩
    · have F := Lib.hid (show (0 : Int) = R by rw [← RR.out, if_neg (by simp), if_neg (by omega)])
      go_wp2_with fail
      go_ret
      exact ⟨ret_i64 F.out, H1.out⟩
  · have F := Lib.hid (show e = R by rw [← RR.out, if_pos h0])
    have h0b : (e == 0) = false := beq_eq_false_iff_ne.2 h0
    clear h0
    go_wp2_with fail
    go_ret
    exact ⟨ret_i64 F.out, H1.out⟩
end Go.Proofs.Ytakiciemkecgfaa.Load

/-
  append of one element onto one of two owned slices: the other one stays, and they stay apart.
-/
import Derived.Test.YtakiciemkecgfaaAppend
import Derived.OwnWalk
namespace Go.Proofs.Ytakiciemkecgfaa.Append
open Go Go.Proofs Go.RowKit
set_option linter.unusedVariables false
variable {P : Program}

/-- two slices that the call owns, in different blocks -/
def Apart (v u : Value) : Prop := v.ownBlock = none ∨ v.ownBlock ≠ u.ownBlock
theorem Apart.symm {v u : Value} (h : Apart v u) : u.ownBlock = none ∨ u.ownBlock ≠ v.ownBlock := by
  rcases h with h | h
  · by_cases e : u.ownBlock = none
    · exact .inl e
    · exact .inr (by rw [h]; exact e)
  · exact .inr (Ne.symm h)

theorem step_append_two (w : World) {ops : Array Oper} {o : Oper} {a : Act} {K : Act → World → Prop} {Q : Exit → Act → World → Prop} {E : Prop} (hgd : o.guard = none) (s x : Operand) (t : TypeId)
    (ho : o.op = .call { callee := .builtin .append, args := #[s, x], argTypes := #[t, t] })
    (base : Nat) (e : TypeId) (i : TypeInfo) (z : Value) (size bytes : Nat) (ht : P.underlying t = some (.slice e)) (hi : P.info? e = some i) (hz : i.zero = some z)
    (hsize : i.size = size) (hby : i.bytes = bytes) (hzs : z.cells.size = size) (hsz : 0 < size)
    (v u : Value) (n m' : Nat) (xs us : List Value) (hs : a.eval s = v) (hown : w.ownsRow base e size v n xs) (hu : w.ownsRow base e size u m' us) (hap : Apart v u)
    (ad : Addr) (m c : Nat) (news : List Value) (hx : a.eval x = .slice (some ad) m c) (hl : news.length = m * size) (hnews : ∀ j q, news[j]? = some q → w.cell? (ad.add j) = some q) (h1 : ∀ q ∈ news, q.oneCell' = true)
    (hm : 0 < m) (h63 : n + m ≤ maxLen) (hbytes : (n + m) * bytes ≤ 140737488355328) (hbase : base ≤ w.heap.size) (N : Nat) (hN : n + m = N) (ys : List Value) (hys : xs ++ news = ys)
    (h : ∀ g cap w', w'.ownsRow base e size (.slice (some ⟨g, 0, none⟩) N cap) N ys → w'.ownsRow base e size u m' us → Apart (.slice (some ⟨g, 0, none⟩) N cap) u → Below base w w' →
      (∀ p : Addr, p.block < w.heap.size → v.ownBlock ≠ some p.block → w'.cell? p = w.cell? p) → K (a.put o.dst (.slice (some ⟨g, 0, none⟩) N cap)) w') :
    if Region.wanted o (yielded ops a.tmps) = true then Oper.wp P o a w K Q else E := by
  subst hN hys
  refine step_append_lies w hgd s x t ho base e i z size bytes ht hi hz hsize hby hzs hsz v n xs hs hown ad m c news hx hl hnews h1 hm h63 hbytes hbase _ rfl ?_
  intro g cap w' h2 h3 h4 h5
  refine h g cap w' h2 (hu.kept h3 hap.symm) ?_ ?_ ?_
  · right
    show some g ≠ u.ownBlock
    intro e1
    rcases h4 with h4 | h4
    · rcases hap with h6 | h6
      · rw [h6] at h4; cases h4
      · exact h6 (h4.trans e1)
    · have := (hu.lt g e1.symm).2
      omega
  · refine (Below.refl base w).grown h3 hbase (fun k hk => ?_)
    exact (hown.lt k hk).1
  · exact fun p hp hne => h3.cell_far p hp (fun e => hne e.symm)
end Go.Proofs.Ytakiciemkecgfaa.Append

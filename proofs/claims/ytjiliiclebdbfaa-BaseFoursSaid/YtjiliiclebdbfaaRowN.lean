/- A value of some cells appended to a row of the call's own; no program in sight. -/
import Derived.Test.YtjiliiclebdbfaaKit
import Derived.Test.YtjiliiclebdbfaaKitb
import Derived.Maps.AppendAt
import Derived.Deep.AppendLies
import Derived.RegionTactic
import Derived.OwnWalk
namespace Go.Proofs.Ytjiliiclebdbfaa
open Go.RowKit
set_option linter.unusedVariables false
section
variable {P : Program} {w : World} {base : Nat} {e : TypeId} {ops : Array Oper} {rest : List Oper} {o : Oper} {a : Act} {Q : Exit → Act → World → Prop}
theorem run_app_any (t ty : TypeId) (ht : P.underlying t = some (.slice e)) (size bytes : Nat) (z : Value) (hi : (P.info? e).map (fun i => (i.zero, i.size, i.bytes)) = some (some z, size, bytes))
    (hzs : z.cells.size = size) (hsz : 0 < size) {v : Value} {n : Nat} {xs : List Value} (hown : w.ownsRow base e size v n xs) {b c1 : Nat} {news : List Value} {U : TypeId} (hp : Pt w b news.toArray U) (hl : news.length = size)
    (h1 : ∀ u ∈ news, u.oneCell' = true) (hn : n < 4194304) (hby : bytes ≤ 1024) (hbase : base ≤ w.heap.size) :
    ∃ v' w', (Builtin.append_ #[t, t] ty #[v, .slice (some ⟨b, 0, none⟩) 1 c1]).run P w = .ok v' w' ∧ w'.ownsRow base e size v' (n + 1) (xs ++ news) ∧ w.grownBy w' v.ownBlock ∧ (v'.ownBlock = v.ownBlock ∨ v'.ownBlock = some w.heap.size) := by
  obtain ⟨i, hi', hz⟩ : ∃ i, P.info? e = some i ∧ (i.zero, i.size, i.bytes) = (some z, size, bytes) := by
    cases h : P.info? e with
    | none => rw [h] at hi; cases hi
    | some i => exact ⟨i, rfl, by rw [h] at hi; injection hi⟩
  injection hz with hz0 hz1
  injection hz1 with hz1 hz2
  obtain ⟨v', w', hrun, h2, h3, _, h5⟩ := run_append_own_at (P := P) (w := w) base t ty e i z size bytes ht hi' hz0 hz1 hz2 hzs hsz v n xs hown ⟨b, 0, none⟩ 1 c1 news (by omega)
    (fun j u hu => by
      have : w.cell? ⟨b, j, none⟩ = some u := by rw [hp.cell]; simpa using hu
      rw [← this]
      unfold Addr.add
      split
      · rename_i hj; simp_all
      · simp) h1 (by simp only [maxLen]; omega) (by
        have := Nat.mul_le_mul (show n + 1 ≤ 4194304 by omega) hby
        omega) hbase
  exact ⟨v', w', hrun, h2, h3, h5⟩
theorem app_any (hgd : Region.wanted o (yielded ops a.tmps) = true) (s x : Operand) (t : TypeId) (ho : o.op = .call { callee := .builtin .append, args := #[s, x], argTypes := #[t, t] })
    (ht : P.underlying t = some (.slice e)) (size bytes : Nat) (z : Value) (hi : (P.info? e).map (fun i => (i.zero, i.size, i.bytes)) = some (some z, size, bytes))
    (hzs : z.cells.size = size) (hsz : 0 < size) (hby : bytes ≤ 1024) {v : Value} {n : Nat} {xs : List Value} (hs : a.eval s = v) (hown : w.ownsRow base e size v n xs)
    {b c1 : Nat} {news : List Value} {U : TypeId} (hx : a.eval x = .slice (some ⟨b, 0, none⟩) 1 c1) (hp : Pt w b news.toArray U) (hl : news.length = size)
    (h1 : ∀ u ∈ news, u.oneCell' = true) (hn : n < 4194304) (hbase : base ≤ w.heap.size)
    (h : ∀ v' w', w'.ownsRow base e size v' (n + 1) (xs ++ news) → w.grownBy w' v.ownBlock → (v'.ownBlock = v.ownBlock ∨ v'.ownBlock = some w.heap.size) → wpList P ops Q rest (a.put o.dst v') w') : wpList P ops Q (o :: rest) a w :=
  wpList_wanted hgd fun _ hK => by
    obtain ⟨v', w', hrun, h2, h3, h4⟩ := run_app_any (P := P) (c1 := c1) t o.type ht size bytes z hi hzs hsz hown hp hl h1 hn hby hbase
    unfold Oper.wp execOp
    simp only [ho, resolve, invoke, builtin, Sem.run_bind, Sem.run_pure, Result.andThen_ok, List.map_toArray, List.map_cons, List.map_nil, hs, hx, hrun]
    exact hK _ _ (h v' w' h2 h3 h4)
theorem ownsRow_keepN {w' : World} {size : Nat} {v : Value} {n : Nat} {xs : List Value} (h : w.ownsRow base e size v n xs) (hs : ∀ g, v.ownBlock = some g → w'.heap[g]? = w.heap[g]?) : w'.ownsRow base e size v n xs := by
  obtain ⟨h1, h2⟩ := h
  refine ⟨h1, ?_⟩
  rcases h2 with h0 | ⟨g, cap, cur, rfl, h3, h4, h5⟩
  · exact .inl h0
  · exact .inr ⟨g, cap, cur, rfl, h3, (hs g rfl).trans h4, h5⟩
theorem ownsRow_read {size : Nat} {v : Value} {n : Nat} {xs : List Value} (h : w.ownsRow base e size v n xs) : ∃ A c, v = .slice A n c ∧ (A = none ∧ n = 0 ∧ xs = [] ∨ ∃ g, A = some ⟨g, 0, none⟩ ∧ base ≤ g ∧ g < w.heap.size ∧ n ≤ c ∧ ∀ j u, xs[j]? = some u → w.cell? ⟨g, j, none⟩ = some u) := by
  have hc := fun g hg => World.ownsRow.cells h (g := g) hg
  obtain ⟨h1, h2⟩ := h
  rcases h2 with ⟨rfl, h0⟩ | ⟨g, cap, cur, rfl, h3, h4, h5, h6, h7, h8⟩
  · subst h0
    exact ⟨_, _, rfl, .inl ⟨rfl, rfl, List.eq_nil_of_length_eq_zero (by omega)⟩⟩
  · refine ⟨_, _, rfl, .inr ⟨g, rfl, h3, (Array.getElem?_eq_some_iff.1 h4).1, h5, fun j u hu => ?_⟩⟩
    have := hc g rfl j u hu
    rw [← this]
    unfold Addr.add
    split
    · rename_i hj; simp_all
    · simp
end
end Go.Proofs.Ytjiliiclebdbfaa

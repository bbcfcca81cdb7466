/- A value of one cell appended to a row of the call's own; no program in sight. -/
import Derived.Test.YtmjdlofkjjofcaaKit
import Derived.Test.YtmjdlofkjjofcaaKitb
import Derived.Maps.AppendAt
import Derived.Deep.AppendLies
import Derived.RegionTactic
import Derived.OwnWalk
namespace Go.Proofs.Ytmjdlofkjjofcaa
open Go.RowKit
set_option linter.unusedVariables false
section
variable {P : Program} {w : World} {base : Nat} {e : TypeId} {ops : Array Oper} {rest : List Oper} {o : Oper} {a : Act} {Q : Exit → Act → World → Prop}
theorem run_app_one (t ty : TypeId) (ht : P.underlying t = some (.slice e)) (bytes : Nat) (z : Value) (hi : (P.info? e).map (fun i => (i.zero, i.size, i.bytes)) = some (some z, 1, bytes))
    (hzs : z.cells.size = 1) {v : Value} {n : Nat} {xs : List Value} (hown : w.ownsRow base e 1 v n xs) {b c1 : Nat} {x : Value} {U : TypeId} (hp : Pt w b #[x] U)
    (h1 : x.oneCell' = true) (hn : n < 4194304) (hby : bytes ≤ 1024) (hbase : base ≤ w.heap.size) :
    ∃ v' w', (Builtin.append_ #[t, t] ty #[v, .slice (some ⟨b, 0, none⟩) 1 c1]).run P w = .ok v' w' ∧ w'.ownsRow base e 1 v' (n + 1) (xs ++ [x]) ∧ w.grownBy w' v.ownBlock ∧ (v'.ownBlock = v.ownBlock ∨ v'.ownBlock = some w.heap.size) := by
  obtain ⟨i, hi', hz⟩ : ∃ i, P.info? e = some i ∧ (i.zero, i.size, i.bytes) = (some z, 1, bytes) := by
    cases h : P.info? e with
    | none => rw [h] at hi; cases hi
    | some i => exact ⟨i, rfl, by rw [h] at hi; injection hi⟩
  injection hz with hz0 hz1
  injection hz1 with hz1 hz2
  obtain ⟨v', w', hrun, h2, h3, _, h5⟩ := run_append_own_at (P := P) (w := w) base t ty e i z 1 bytes ht hi' hz0 hz1 hz2 hzs (by omega) v n xs hown ⟨b, 0, none⟩ 1 c1 [x] rfl
    (fun j u hu => by
      have : w.cell? ⟨b, j, none⟩ = some u := by rw [hp.cell]; simpa using hu
      rw [← this]
      unfold Addr.add
      split
      · rename_i hj; simp_all
      · simp) (by intro u hu; simp only [List.mem_singleton] at hu; subst hu; exact h1) (by simp only [maxLen]; omega) (by
        have := Nat.mul_le_mul (show n + 1 ≤ 4194304 by omega) hby
        omega) hbase
  exact ⟨v', w', hrun, h2, h3, h5⟩
theorem app_one (hgd : Region.wanted o (yielded ops a.tmps) = true) (s x : Operand) (t : TypeId) (ho : o.op = .call { callee := .builtin .append, args := #[s, x], argTypes := #[t, t] })
    (ht : P.underlying t = some (.slice e)) (bytes : Nat) (z : Value) (hi : (P.info? e).map (fun i => (i.zero, i.size, i.bytes)) = some (some z, 1, bytes))
    (hzs : z.cells.size = 1) (hby : bytes ≤ 1024) {v : Value} {n : Nat} {xs : List Value} (hs : a.eval s = v) (hown : w.ownsRow base e 1 v n xs)
    {b c1 : Nat} {y : Value} {U : TypeId} (hx : a.eval x = .slice (some ⟨b, 0, none⟩) 1 c1) (hp : Pt w b #[y] U)
    (h1 : y.oneCell' = true) (hn : n < 4194304) (hbase : base ≤ w.heap.size)
    (h : ∀ v' w', w'.ownsRow base e 1 v' (n + 1) (xs ++ [y]) → w.grownBy w' v.ownBlock → (v'.ownBlock = v.ownBlock ∨ v'.ownBlock = some w.heap.size) → wpList P ops Q rest (a.put o.dst v') w') : wpList P ops Q (o :: rest) a w :=
  wpList_wanted hgd fun _ hK => by
    obtain ⟨v', w', hrun, h2, h3, h4⟩ := run_app_one (P := P) (c1 := c1) t o.type ht bytes z hi hzs hown hp h1 hn hby hbase
    unfold Oper.wp execOp
    simp only [ho, resolve, invoke, builtin, Sem.run_bind, Sem.run_pure, Result.andThen_ok, List.map_toArray, List.map_cons, List.map_nil, hs, hx, hrun]
    exact hK _ _ (h v' w' h2 h3 h4)
theorem ownsRow_shape {v : Value} {n : Nat} {xs : List Value} (h : w.ownsRow base e 1 v n xs) (hn : 0 < n) : ∃ g c, v = .slice (some ⟨g, 0, none⟩) n c ∧ base ≤ g ∧ g < w.heap.size ∧ n ≤ c ∧ ∀ j u, xs[j]? = some u → w.cell? ⟨g, j, none⟩ = some u := by
  have hc := fun g hg => World.ownsRow.cells h (g := g) hg
  obtain ⟨h1, h2⟩ := h
  rcases h2 with ⟨_, h0⟩ | ⟨g, cap, cur, rfl, h3, h4, h5, h6, h7, h8⟩
  · omega
  · refine ⟨g, cap, rfl, h3, (Array.getElem?_eq_some_iff.1 h4).1, h5, fun j u hu => ?_⟩
    have := hc g rfl j u hu
    rw [← this]
    unfold Addr.add
    split
    · rename_i hj; simp_all
    · simp
theorem ownsRow_same {w' : World} {v : Value} {n : Nat} {xs : List Value} (h : w.ownsRow base e 1 v n xs) (hs : ∀ g, v.ownBlock = some g → w'.heap[g]? = w.heap[g]?) : w'.ownsRow base e 1 v n xs := by
  obtain ⟨h1, h2⟩ := h
  refine ⟨h1, ?_⟩
  rcases h2 with h0 | ⟨g, cap, cur, rfl, h3, h4, h5⟩
  · exact .inl h0
  · exact .inr ⟨g, cap, cur, rfl, h3, (hs g rfl).trans h4, h5⟩
end
end Go.Proofs.Ytmjdlofkjjofcaa

/- A struct appended to a row of the store's own; what stays then. No program in sight. -/
import Derived.Test.YtjiliiclebdbfaaKit
import Derived.Test.YtjiliiclebdbfaaKitb
import Derived.Test.YtjiliiclebdbfaaBytes
import Derived.Test.YtjiliiclebdbfaaOnly
import Derived.Maps.AppendAt
import Derived.Deep.AppendLies
import Derived.RegionTactic
import Derived.OwnWalk
namespace Go.Proofs.Ytjiliiclebdbfaa
open Go.RowKit
set_option linter.unusedVariables false

/-- All old blocks but three are as they were; the row lies where it lay, or in a new block. -/
structure Sto (S N T : Nat) (w : World) (N' : Nat) (w' : World) : Prop where
  os : w'.os = w.os
  tape : w'.tape = w.tape
  output : w'.output = w.output
  size : w.heap.size ≤ w'.heap.size
  row : N' = N ∨ w.heap.size ≤ N'
  block : ∀ b, b < w.heap.size → b ≠ S → b ≠ N → b ≠ T → w'.heap[b]? = w.heap[b]?
section
variable {S N T N' N'' : Nat} {w w' w'' : World}
theorem Sto.of (h : Below w.heap.size w w') : Sto S N T w N w' := ⟨h.os, h.tape, h.output, h.size, .inl rfl, fun b hb _ _ _ => h.block b hb⟩
theorem Sto.refl : Sto S N T w N w := .of (Below.refl _ _)
theorem Sto.trans (h : Sto S N T w N' w') (k : Sto S N' T w' N'' w'') : Sto S N T w N'' w'' :=
  ⟨k.os.trans h.os, k.tape.trans h.tape, k.output.trans h.output, Nat.le_trans h.size k.size,
    by rcases k.row with e | e
       · subst e; exact h.row
       · exact .inr (Nat.le_trans h.size e),
    fun b hb h1 h2 h3 => (k.block b (Nat.lt_of_lt_of_le hb h.size) h1 (by rcases h.row with e | e <;> omega) h3).trans (h.block b hb h1 h2 h3)⟩
theorem Sto.next (h : Sto S N T w N' w') (k : Below w'.heap.size w' w'') : Sto S N T w N' w'' := h.trans (.of k)
theorem Sto.drewN (h : Sto S N T w N' w') (n : Nat) : Sto S N T w N' (w'.drewN n) := ⟨h.os, h.tape, h.output, h.size, h.row, h.block⟩
theorem Sto.below {B : Nat} (h : Sto S N T w N' w') (hS : B ≤ S) (hN : B ≤ N) (hT : B ≤ T) (hB : B ≤ w.heap.size) : Below B w w' :=
  ⟨h.os, h.tape, h.output, h.size, fun b hb => h.block b (by omega) (by omega) (by omega) (by omega)⟩
theorem Sto.setS (h : Sto S N T w N' w') (o : Nat) (v : Value) : Sto S N T w N' (w'.setCell ⟨S, o, none⟩ v) :=
  ⟨h.os, h.tape, h.output, by rw [World.size_setCell]; exact h.size, h.row, fun b hb h1 h2 h3 => by
    rw [Below.heap_setCell _ _ _ _ h1]; exact h.block b hb h1 h2 h3⟩
theorem Sto.setT (h : Sto S N T w N' w') (o : Nat) (v : Value) : Sto S N T w N' (w'.setCell ⟨T, o, none⟩ v) :=
  ⟨h.os, h.tape, h.output, by rw [World.size_setCell]; exact h.size, h.row, fun b hb h1 h2 h3 => by
    rw [Below.heap_setCell _ _ _ _ h3]; exact h.block b hb h1 h2 h3⟩
theorem Pt.sto {b : Nat} {cs : Array Value} {U : TypeId} (h : Pt w b cs U) (k : Sto S N T w N' w') (h1 : b ≠ S) (h2 : b ≠ N) (h3 : b ≠ T) : Pt w' b cs U := (k.block b h.lt h1 h2 h3).trans h
end
section
variable {P : Program} {w : World} {base : Nat} {e : TypeId} {ops : Array Oper} {rest : List Oper} {o : Oper} {a : Act} {Q : Exit → Act → World → Prop}
theorem run_app_row (t ty : TypeId) (ht : P.underlying t = some (.slice e)) (size bytes : Nat) (z : Value) (hi : (P.info? e).map (fun i => (i.zero, i.size, i.bytes)) = some (some z, size, bytes))
    (hzs : z.cells.size = size) (hsz : 0 < size) {N n c : Nat} {xs : List Value} (hown : w.ownsRow base e size (.slice (some ⟨N, 0, none⟩) n c) n xs) {b c1 : Nat} {news : List Value} {U : TypeId} (hp : Pt w b news.toArray U) (hl : news.length = size)
    (h1 : ∀ u ∈ news, u.oneCell' = true) (hn : n < 4194304) (hby : bytes ≤ 1024) (hbase : base ≤ w.heap.size) :
    ∃ N' c' w', (Builtin.append_ #[t, t] ty #[.slice (some ⟨N, 0, none⟩) n c, .slice (some ⟨b, 0, none⟩) 1 c1]).run P w = .ok (.slice (some ⟨N', 0, none⟩) (n + 1 : Nat) c') w' ∧ w'.ownsRow base e size (.slice (some ⟨N', 0, none⟩) (n + 1 : Nat) c') (n + 1) (xs ++ news) ∧ w.grownBy w' (some N) ∧ (N' = N ∨ N' = w.heap.size) := by
  obtain ⟨i, hi', hz⟩ : ∃ i, P.info? e = some i ∧ (i.zero, i.size, i.bytes) = (some z, size, bytes) := by
    cases h : P.info? e with
    | none => rw [h] at hi; cases hi
    | some i => exact ⟨i, rfl, by rw [h] at hi; injection hi⟩
  injection hz with hz0 hz1
  injection hz1 with hz1 hz2
  obtain ⟨v', w', hrun, h2, h3, _, h5⟩ := run_append_own_at (P := P) (w := w) base t ty e i z size bytes ht hi' hz0 hz1 hz2 hzs hsz (.slice (some ⟨N, 0, none⟩) n c) n xs hown ⟨b, 0, none⟩ 1 c1 news (by omega)
    (fun j u hu => by
      have : w.cell? ⟨b, j, none⟩ = some u := by rw [hp.cell]; simpa using hu
      rw [← this]
      unfold Addr.add
      split
      · rename_i hj; simp_all
      · simp) h1 (by simp only [maxLen]; omega) (by
        have := Nat.mul_le_mul (show n + 1 ≤ 4194304 by omega) hby
        omega) hbase
  rcases h2.2 with ⟨rfl, h0⟩ | ⟨g, cap, cur, rfl, h6⟩
  · omega
  · refine ⟨g, cap, w', hrun, h2, h3, ?_⟩
    rcases h5 with h5 | h5
    · injection h5 with h5; exact .inl h5
    · injection h5 with h5; exact .inr h5
theorem app_row_op {K : Act → World → Prop} (s x : Operand) (t : TypeId) (ho : o.op = .call { callee := .builtin .append, args := #[s, x], argTypes := #[t, t] })
    (ht : P.underlying t = some (.slice e)) (size bytes : Nat) (z : Value) (hi : (P.info? e).map (fun i => (i.zero, i.size, i.bytes)) = some (some z, size, bytes))
    (hzs : z.cells.size = size) (hsz : 0 < size) (hby : bytes ≤ 1024) {N n c : Nat} {xs : List Value} (hs : a.eval s = .slice (some ⟨N, 0, none⟩) n c) (hown : w.ownsRow base e size (.slice (some ⟨N, 0, none⟩) n c) n xs)
    {b c1 : Nat} {news : List Value} {U : TypeId} (hx : a.eval x = .slice (some ⟨b, 0, none⟩) 1 c1) (hp : Pt w b news.toArray U) (hl : news.length = size)
    (h1 : ∀ u ∈ news, u.oneCell' = true) (hn : n < 4194304) (hbase : base ≤ w.heap.size)
    (h : ∀ N' c' w', w'.ownsRow base e size (.slice (some ⟨N', 0, none⟩) (n + 1 : Nat) c') (n + 1) (xs ++ news) → w.grownBy w' (some N) → (N' = N ∨ N' = w.heap.size) → K (a.put o.dst (.slice (some ⟨N', 0, none⟩) (n + 1 : Nat) c')) w') : o.wp P a w K Q := by
  obtain ⟨N', c', w', hrun, h2, h3, h4⟩ := run_app_row (P := P) (c1 := c1) t o.type ht size bytes z hi hzs hsz hown hp hl h1 hn hby hbase
  unfold Oper.wp execOp
  simp only [ho, resolve, invoke, builtin, Sem.run_bind, Sem.run_pure, Result.andThen_ok, List.map_toArray, List.map_cons, List.map_nil, hs, hx, hrun]
  exact h N' c' w' h2 h3 h4
theorem app_row (hgd : Region.wanted o (yielded ops a.tmps) = true) (s x : Operand) (t : TypeId) (ho : o.op = .call { callee := .builtin .append, args := #[s, x], argTypes := #[t, t] })
    (ht : P.underlying t = some (.slice e)) (size bytes : Nat) (z : Value) (hi : (P.info? e).map (fun i => (i.zero, i.size, i.bytes)) = some (some z, size, bytes))
    (hzs : z.cells.size = size) (hsz : 0 < size) (hby : bytes ≤ 1024) {N n c : Nat} {xs : List Value} (hs : a.eval s = .slice (some ⟨N, 0, none⟩) n c) (hown : w.ownsRow base e size (.slice (some ⟨N, 0, none⟩) n c) n xs)
    {b c1 : Nat} {news : List Value} {U : TypeId} (hx : a.eval x = .slice (some ⟨b, 0, none⟩) 1 c1) (hp : Pt w b news.toArray U) (hl : news.length = size)
    (h1 : ∀ u ∈ news, u.oneCell' = true) (hn : n < 4194304) (hbase : base ≤ w.heap.size)
    (h : ∀ N' c' w', w'.ownsRow base e size (.slice (some ⟨N', 0, none⟩) (n + 1 : Nat) c') (n + 1) (xs ++ news) → w.grownBy w' (some N) → (N' = N ∨ N' = w.heap.size) → wpList P ops Q rest (a.put o.dst (.slice (some ⟨N', 0, none⟩) (n + 1 : Nat) c')) w') : wpList P ops Q (o :: rest) a w :=
  wpList_wanted hgd fun _ hK => app_row_op s x t ho ht size bytes z hi hzs hsz hby hs hown hx hp hl h1 hn hbase fun N' c' w' h1 h2 h3 => hK _ _ (h N' c' w' h1 h2 h3)
/-- The same inside a region that draws. -/
theorem app_row_if {K : Act → World → Prop} {E : Prop} (hgd : o.guard = none) (s x : Operand) (t : TypeId) (ho : o.op = .call { callee := .builtin .append, args := #[s, x], argTypes := #[t, t] })
    (ht : P.underlying t = some (.slice e)) (size bytes : Nat) (z : Value) (hi : (P.info? e).map (fun i => (i.zero, i.size, i.bytes)) = some (some z, size, bytes))
    (hzs : z.cells.size = size) (hsz : 0 < size) (hby : bytes ≤ 1024) {N n c : Nat} {xs : List Value} (hs : a.eval s = .slice (some ⟨N, 0, none⟩) n c) (hown : w.ownsRow base e size (.slice (some ⟨N, 0, none⟩) n c) n xs)
    {b c1 : Nat} {news : List Value} {U : TypeId} (hx : a.eval x = .slice (some ⟨b, 0, none⟩) 1 c1) (hp : Pt w b news.toArray U) (hl : news.length = size)
    (h1 : ∀ u ∈ news, u.oneCell' = true) (hn : n < 4194304) (hbase : base ≤ w.heap.size)
    (h : ∀ N' c' w', w'.ownsRow base e size (.slice (some ⟨N', 0, none⟩) (n + 1 : Nat) c') (n + 1) (xs ++ news) → w.grownBy w' (some N) → (N' = N ∨ N' = w.heap.size) → K (a.put o.dst (.slice (some ⟨N', 0, none⟩) (n + 1 : Nat) c')) w') : if Region.wanted o (yielded ops a.tmps) = true then Oper.wp P o a w K Q else E := by
  rw [if_pos (show Region.wanted o (yielded ops a.tmps) = true by simp [Region.wanted, hgd])]
  exact app_row_op s x t ho ht size bytes z hi hzs hsz hby hs hown hx hp hl h1 hn hbase h
end
end Go.Proofs.Ytjiliiclebdbfaa

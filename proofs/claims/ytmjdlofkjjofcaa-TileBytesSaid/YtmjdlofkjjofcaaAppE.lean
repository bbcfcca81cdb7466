/- Bytes appended to a row of the call's own, also none; for regions that draw. -/
import Derived.Test.YtmjdlofkjjofcaaProg
import Derived.Test.YtmjdlofkjjofcaaKit
import Derived.Test.YtmjdlofkjjofcaaKitb
import Derived.Test.YtmjdlofkjjofcaaBytes
import Derived.Test.YtmjdlofkjjofcaaApp
import Derived.Test.YtmjdlofkjjofcaaAppS
import Derived.Deep.QuietTactic
import Derived.Deep.RegionWith
import Derived.Deep.DrawnRows
import Derived.Deep.RegionLaw
import Derived.Deep.AppendLies
import Derived.Deep.DeepCutAuto
namespace Go.Proofs.Ytmjdlofkjjofcaa
open Go.RowKit
set_option linter.unusedVariables false
set_option linter.unusedSimpArgs false
section
variable {P : Program} {w w' : World} {base : Nat} {e : TypeId} {A : Option Addr} {n c : Nat} {l : List UInt8} {ops : Array Oper} {rest : List Oper} {o : Oper} {a : Act} {Q : Exit → Act → World → Prop}
/-- Any bytes appended, none too. -/
theorem app_e_op {K : Act → World → Prop} (s x : Operand) (t : TypeId) (ho : o.op = .call { callee := .builtin .append, args := #[s, x], argTypes := #[t, t] })
    (ht : P.underlying t = some (.slice e)) (hi : (P.info? e).map (fun i => (i.zero, i.size, i.bytes)) = some (some (.int .u8 0), 1, 1))
    (l0 : List UInt8) (l' : List UInt8) {A0 : Option Addr} {n0 c0 : Nat} (hs : a.eval s = .slice A0 n0 c0) (hown : AppS w base e A0 n0 c0 l0) {B : Nat} (hx : a.eval x = .slice A n c) (hn : n = l.length) (hr : Bs w B A l) (hl' : l' = l0 ++ l) (hm : l'.length ≤ 140737488355328) (hbase : base ≤ w.heap.size)
    (h : ∀ A' c' w', AppS w' base e A' l'.length c' l' → Below base w w' → K (a.put o.dst (.slice A' l'.length c')) w') : o.wp P a w K Q := by
  by_cases hl : l = []
  · subst hl hn hl'
    rw [List.append_nil] at hm h
    obtain ⟨i, hi', hz⟩ : ∃ i, P.info? e = some i ∧ (i.zero, i.size, i.bytes) = (some (.int .u8 0), 1, 1) := by
      cases h : P.info? e with
      | none => rw [h] at hi; cases hi
      | some i => exact ⟨i, rfl, by rw [h] at hi; injection hi⟩
    have hcap := hown.cap (by omega)
    have hn0 := hown.1
    subst hn0
    have hrun : (Builtin.append_ #[t, t] o.type #[.slice A0 l0.length c0, .slice A ([] : List UInt8).length c]).run P w = .ok (.slice A0 l0.length c0) w := by
      cases A0 <;> cases A <;> simp [Builtin.append_, run_underlying ht, sizeOf, typeInfo, hi', Builtin.lenOf, Builtin.firstCells, hcap.1, storeCells, loadCells, loadCellsFrom]
    unfold Oper.wp execOp
    simp only [ho, resolve, invoke, builtin, Sem.run_bind, Sem.run_pure, Result.andThen_ok, List.map_toArray, List.map_cons, List.map_nil, hs, hx, hrun]
    exact h A0 c0 w hown (Below.refl _ _)
  · exact app_s_op s x t ho ht hi l0 l' hs hown hx hn hr hl hl' hm hbase fun A' c' w' h1 h2 => h A' c' w' (AppS.row h1 rfl) h2
theorem app_e_if {K : Act → World → Prop} (hgd : Region.wanted o (yielded ops a.tmps) = true) (s x : Operand) (t : TypeId) (ho : o.op = .call { callee := .builtin .append, args := #[s, x], argTypes := #[t, t] })
    (ht : P.underlying t = some (.slice e)) (hi : (P.info? e).map (fun i => (i.zero, i.size, i.bytes)) = some (some (.int .u8 0), 1, 1))
    (l0 : List UInt8) (l' : List UInt8) {A0 : Option Addr} {n0 c0 : Nat} (hs : a.eval s = .slice A0 n0 c0) (hown : AppS w base e A0 n0 c0 l0) {B : Nat} (hx : a.eval x = .slice A n c) (hn : n = l.length) (hr : Bs w B A l) (hl' : l' = l0 ++ l) (hm : l'.length ≤ 140737488355328) (hbase : base ≤ w.heap.size)
    (h : ∀ A' c' w', AppS w' base e A' l'.length c' l' → Below base w w' → K (a.put o.dst (.slice A' l'.length c')) w') : if Region.wanted o (yielded ops a.tmps) = true then o.wp P a w K Q else K (a.put o.dst undef) w := by
  rw [if_pos hgd]
  exact app_e_op s x t ho ht hi l0 l' hs hown hx hn hr hl' hm hbase h
end
end Go.Proofs.Ytmjdlofkjjofcaa

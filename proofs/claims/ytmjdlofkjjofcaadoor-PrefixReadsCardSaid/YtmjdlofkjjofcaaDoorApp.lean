/- Bytes appended to a row of the call's own; no program in sight. -/
import Derived.Test.YtmjdlofkjjofcaaDoorKit
import Derived.Test.YtmjdlofkjjofcaaDoorKitb
import Derived.Test.YtmjdlofkjjofcaaDoorBytes
import Derived.Maps.AppendAt
import Derived.Deep.AppendLies
import Derived.RegionTactic
import Derived.OwnWalk
namespace Go.Proofs.YtmjdlofkjjofcaaDoor
open Go.RowKit

def bv (l : List UInt8) : List Value := l.map fun u => .int .u8 u.toNat
theorem bv_len (l : List UInt8) : (bv l).length = l.length := by simp [bv]
theorem bv_app (l m : List UInt8) : bv (l ++ m) = bv l ++ bv m := by simp [bv]
theorem bv_get (l : List UInt8) (j : Nat) : (bv l)[j]? = (l[j]?).map fun u => .int .u8 u.toNat := by simp [bv]
theorem bv_one (l : List UInt8) : ∀ u ∈ bv l, u.oneCell' = true := by
  intro u hu
  obtain ⟨x, _, rfl⟩ := List.mem_map.1 hu
  rfl
/-- v is a slice over a block of its own, not below base, that holds the bytes l. -/
def Row (w : World) (base : Nat) (e : TypeId) (v : Value) (l : List UInt8) : Prop := w.ownsRow base e 1 v l.length (bv l)
section
variable {P : Program} {w : World} {base : Nat} {e : TypeId} {v : Value} {l : List UInt8}
theorem Row.bs (h : Row w base e v l) : ∃ A c, v = .slice A l.length c ∧ Bs w w.heap.size A l := by
  rcases h.2 with ⟨rfl, h0⟩ | ⟨g, cap, cur, rfl, _, hg, _⟩
  · have : l = [] := List.eq_nil_of_length_eq_zero h0
    subst this
    exact ⟨none, 0, rfl, Bs.nil_⟩
  · refine ⟨_, _, rfl, Or.inr ⟨g, 0, rfl, (Array.getElem?_eq_some_iff.1 hg).1, fun j u hu => ?_⟩⟩
    have := World.ownsRow.cells h (g := g) rfl j (.int .u8 u.toNat) (by rw [bv_get, hu]; rfl)
    rw [Nat.zero_add]
    rw [← this]
    unfold Addr.add
    split
    · rename_i hj; simp_all
    · simp
theorem Row.keep {w' : World} (h : Row w base e v l) (hb : Below w.heap.size w w') : Row w' base e v l := by
  refine ⟨h.1, ?_⟩
  rcases h.2 with h0 | ⟨g, cap, cur, hv, hg0, hg, hr⟩
  · exact Or.inl h0
  · exact Or.inr ⟨g, cap, cur, hv, hg0, (hb.block g (Array.getElem?_eq_some_iff.1 hg).1).trans hg, hr⟩
theorem run_app_bytes (t ty : TypeId) (ht : P.underlying t = some (.slice e)) (hi : (P.info? e).map (fun i => (i.zero, i.size, i.bytes)) = some (some (.int .u8 0), 1, 1))
    (l0 : List UInt8) (hown : Row w base e v l0) (A : Option Addr) (c B : Nat) (hr : Bs w B A l) (hm : l0.length + l.length ≤ 140737488355328) (hbase : base ≤ w.heap.size) :
    ∃ v' w', (Builtin.append_ #[t, t] ty #[v, .slice A l.length c]).run P w = .ok v' w' ∧ Row w' base e v' (l0 ++ l) ∧ w.grownBy w' v.ownBlock ∧ (v'.ownBlock = v.ownBlock ∨ v'.ownBlock = some w.heap.size) := by
  obtain ⟨i, hi', hz⟩ : ∃ i, P.info? e = some i ∧ (i.zero, i.size, i.bytes) = (some (.int .u8 0), 1, 1) := by
    cases h : P.info? e with
    | none => rw [h] at hi; cases hi
    | some i => exact ⟨i, rfl, by rw [h] at hi; injection hi⟩
  injection hz with hz0 hz1
  injection hz1 with hz1 hz2
  have hlen : (l0 ++ l).length = l0.length + l.length := List.length_append ..
  cases A with
  | none =>
    rcases hr with rfl | ⟨b, o, hA, _⟩
    · refine ⟨v, w, ?_, by rw [List.append_nil]; exact hown, World.grownBy.refl w _, Or.inl rfl⟩
      rcases hown.2 with ⟨rfl, h0⟩ | ⟨g, cap, cur, rfl, _, _, hnc, _⟩
      · simp [Builtin.append_, run_underlying ht, sizeOf, typeInfo, hi', Builtin.lenOf, Builtin.firstCells]
      · simp [Builtin.append_, run_underlying ht, sizeOf, typeInfo, hi', Builtin.lenOf, Builtin.firstCells, hnc, storeCells]
    · cases hA
  | some a =>
    obtain ⟨v', w', hrun, h2, h3, _, h5⟩ := run_append_own_at (P := P) (w := w) base t ty e i _ 1 1 ht hi' hz0 hz1 hz2 rfl (by omega) v l0.length (bv l0) hown a l.length c (bv l) (by rw [bv_len]; omega)
      (fun j u hu => by
        rw [bv_get] at hu
        rcases hr with rfl | ⟨b, o, hA, hb, hc⟩
        · simp at hu
        · injection hA with hA
          subst hA
          cases hx : l[j]? with
          | none => rw [hx] at hu; cases hu
          | some x =>
            rw [hx] at hu
            cases hu
            rw [← hc j x hx]
            unfold Addr.add
            split
            · rename_i hj; simp_all
            · simp) (bv_one l) (by simp only [maxLen]; omega) (by omega) hbase
    exact ⟨v', w', hrun, by unfold Row; rw [hlen, bv_app]; exact h2, h3, h5⟩
section
variable {ops : Array Oper} {rest : List Oper} {o : Oper} {a : Act} {Q : Exit → Act → World → Prop}
theorem app_bytes (hgd : Region.wanted o (yielded ops a.tmps) = true) (s x : Operand) (t : TypeId) (ho : o.op = .call { callee := .builtin .append, args := #[s, x], argTypes := #[t, t] })
    (ht : P.underlying t = some (.slice e)) (hi : (P.info? e).map (fun i => (i.zero, i.size, i.bytes)) = some (some (.int .u8 0), 1, 1))
    (l0 : List UInt8) (hs : a.eval s = v) (hown : Row w base e v l0) (A : Option Addr) (c B : Nat) (hx : a.eval x = .slice A l.length c) (hr : Bs w B A l) (hm : l0.length + l.length ≤ 140737488355328) (hbase : base ≤ w.heap.size)
    (h : ∀ v' w', Row w' base e v' (l0 ++ l) → w.grownBy w' v.ownBlock → (v'.ownBlock = v.ownBlock ∨ v'.ownBlock = some w.heap.size) → wpList P ops Q rest (a.put o.dst v') w') : wpList P ops Q (o :: rest) a w :=
  wpList_wanted hgd fun _ hK => by
    obtain ⟨v', w', hrun, h2, h3, h4⟩ := run_app_bytes (P := P) t o.type ht hi l0 hown A c B hr hm hbase
    unfold Oper.wp execOp
    simp only [ho, resolve, invoke, builtin, Sem.run_bind, Sem.run_pure, Result.andThen_ok, List.map_toArray, List.map_cons, List.map_nil, hs, hx, hrun]
    exact hK _ _ (h v' w' h2 h3 h4)
end
end
theorem Row.mk0 (W : World) (e : TypeId) : Row (W.alloc (.cells #[] e)) W.heap.size e (.slice (some ⟨W.heap.size, 0, none⟩) 0 0) [] :=
  ⟨rfl, Or.inr ⟨W.heap.size, 0, #[], rfl, Nat.le_refl _, heap_alloc_new W _, Nat.le_refl _, Nat.zero_le _, rfl, rfl⟩⟩
theorem Row.nil (W : World) (base : Nat) (e : TypeId) : Row W base e (.slice none 0 0) [] := ⟨rfl, Or.inl ⟨rfl, rfl⟩⟩
theorem Row.shape {w : World} {base : Nat} {e : TypeId} {v : Value} {l : List UInt8} (h : Row w base e v l) : ∃ A c, v = .slice A l.length c ∧ Bs w w.heap.size A l := h.bs
theorem grown_below {w w' : World} {r : Option Nat} {B : Nat} (h : w.grownBy w' r) (hr : ∀ k, r = some k → B ≤ k) (hB : B ≤ w.heap.size) : Below B w w' :=
  ⟨h.os, h.tape, h.output, h.size, fun k hk => h.block k (by omega) (fun e => by have := hr k e.symm; omega)⟩
section
variable {P : Program} {w : World} {base : Nat} {e : TypeId} {l : List UInt8} {ops : Array Oper} {rest : List Oper} {o : Oper} {a : Act} {Q : Exit → Act → World → Prop}
/-- Bytes appended: where the row lies then, and what stays. -/
theorem app_bytes2 (hgd : Region.wanted o (yielded ops a.tmps) = true) (s x : Operand) (t : TypeId) (ho : o.op = .call { callee := .builtin .append, args := #[s, x], argTypes := #[t, t] })
    (ht : P.underlying t = some (.slice e)) (hi : (P.info? e).map (fun i => (i.zero, i.size, i.bytes)) = some (some (.int .u8 0), 1, 1))
    (l0 : List UInt8) (l' : List UInt8) {A0 : Option Addr} {n0 c0 : Nat} (hs : a.eval s = .slice A0 n0 c0) (hown : Row w base e (.slice A0 n0 c0) l0) {A : Option Addr} {n c : Nat} {B : Nat} (hx : a.eval x = .slice A n c) (hn : n = l.length) (hr : Bs w B A l) (hl' : l' = l0 ++ l) (hm : l'.length ≤ 140737488355328) (hbase : base ≤ w.heap.size)
    (h : ∀ A' c' w', Row w' base e (.slice A' l'.length c') l' → Below base w w' → (∀ b, b < w.heap.size → (Value.slice A0 n0 c0).ownBlock ≠ some b → w'.heap[b]? = w.heap[b]?) → wpList P ops Q rest (a.put o.dst (.slice A' l'.length c')) w') : wpList P ops Q (o :: rest) a w := by
  subst hn hl'
  rw [List.length_append] at hm
  refine app_bytes hgd s x t ho ht hi l0 hs hown A c B hx hr hm hbase fun v' w' h1 h2 _ => ?_
  obtain ⟨A', c', rfl, _⟩ := h1.shape
  exact h A' c' w' h1 (grown_below h2 (fun k hk => (hown.lt k hk).1) hbase) fun b hb hne => h2.block b hb (fun e => hne e.symm)
theorem Row.bs' {A : Option Addr} {n c : Nat} (h : Row w base e (.slice A n c) l) : Bs w w.heap.size A l := by
  obtain ⟨A', c', h1, h2⟩ := h.shape
  injection h1 with h3 h4 h5
  subst h3
  exact h2
end
end Go.Proofs.YtmjdlofkjjofcaaDoor

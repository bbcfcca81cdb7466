/- Bytes appended to a row of the call's own, or to a slice that has no room; no program in sight. -/
import Derived.Test.YtmjdlofkjjofcaaDoorKit
import Derived.Test.YtmjdlofkjjofcaaDoorKitb
import Derived.Test.YtmjdlofkjjofcaaDoorBytes
import Derived.Test.YtmjdlofkjjofcaaDoorApp
import Derived.ArgAppend
namespace Go.Proofs.YtmjdlofkjjofcaaDoor
open Go.RowKit

/-- A slice that may be appended to: a row of the call's own, or one without room, that lies below base. -/
def AppS (w : World) (base : Nat) (e : TypeId) (A : Option Addr) (n c : Nat) (l : List UInt8) : Prop :=
  n = l.length ∧ (Row w base e (.slice A n c) l ∨ (c = n ∧ Bs w base A l))
section
variable {P : Program} {w w' : World} {base : Nat} {e : TypeId} {A : Option Addr} {n c : Nat} {l : List UInt8}
theorem AppS.keep (h : AppS w base e A n c l) (hb : Below w.heap.size w w') (hz : base ≤ w.heap.size) : AppS w' base e A n c l :=
  ⟨h.1, h.2.elim (fun r => .inl (r.keep hb)) fun r => .inr ⟨r.1, r.2.kept hb hz⟩⟩
theorem AppS.bs (h : AppS w base e A n c l) (hz : base ≤ w.heap.size) : Bs w w.heap.size A l :=
  h.2.elim (fun r => r.bs') fun r => r.2.more hz
theorem AppS.cap (h : AppS w base e A n c l) (hl : l.length ≤ 9223372036854775807) : l.length ≤ c ∧ c ≤ 9223372036854775807 := by
  obtain ⟨h1, h2 | h2⟩ := h
  · rcases h2.2 with ⟨hv, h0⟩ | ⟨g, cap, cur, hv, _, _, h5, h6, _⟩
    · injection hv with e1 e2 e3; omega
    · injection hv with e1 e2 e3; simp only [maxLen] at h6; omega
  · omega
theorem AppS.full (h : Bs w base A l) : AppS w base e A l.length l.length l := ⟨rfl, .inr ⟨rfl, h⟩⟩
theorem AppS.row (h : Row w base e (.slice A n c) l) (hn : n = l.length) : AppS w base e A n c l := ⟨hn, .inl h⟩
theorem Bs.cells (h : Bs w base A l) {a : Addr} (ha : A = some a) : ∀ j u, (bv l)[j]? = some u → w.cell? (a.add j) = some u := by
  intro j u hu
  rw [bv_get] at hu
  rcases h with rfl | ⟨b, o, hA, hb, hc⟩
  · simp at hu
  · rw [hA] at ha
    injection ha with ha
    subst ha
    cases hx : l[j]? with
    | none => rw [hx] at hu; cases hu
    | some x =>
      rw [hx] at hu
      cases hu
      rw [← hc j x hx]
      unfold Addr.add
      split
      · rename_i hj; simp_all
      · simp
theorem run_app_full (t ty : TypeId) (ht : P.underlying t = some (.slice e)) (hi : (P.info? e).map (fun i => (i.zero, i.size, i.bytes)) = some (some (.int .u8 0), 1, 1))
    (l0 : List UInt8) {A0 : Option Addr} {B0 : Nat} (h0 : Bs w B0 A0 l0) (hA0 : A0 = none → l0 = []) {B : Nat} (hr : Bs w B A l) (hl : l ≠ []) (hm : l0.length + l.length ≤ 140737488355328) :
    ∃ v' w', (Builtin.append_ #[t, t] ty #[.slice A0 l0.length l0.length, .slice A l.length c]).run P w = .ok v' w' ∧ Row w' w.heap.size e v' (l0 ++ l) ∧ w.grownBy w' none := by
  obtain ⟨i, hi', hz⟩ : ∃ i, P.info? e = some i ∧ (i.zero, i.size, i.bytes) = (some (.int .u8 0), 1, 1) := by
    cases h : P.info? e with
    | none => rw [h] at hi; cases hi
    | some i => exact ⟨i, rfl, by rw [h] at hi; injection hi⟩
  have hlen : (l0 ++ l).length = l0.length + l.length := List.length_append ..
  have hpos : 0 < l.length := List.length_pos_iff.2 hl
  cases A0 with
  | none =>
    have : l0 = [] := hA0 rfl
    subst this
    obtain ⟨v', w', h1, h2, h3, _⟩ := run_app_bytes (P := P) (w := w) t ty ht hi [] (Row.nil w w.heap.size e) A c B hr (by simpa using hm) (Nat.le_refl _)
    exact ⟨v', w', h1, h2, h3⟩
  | some b =>
    injection hz with hz0 hz1
    injection hz1 with hz1 hz2
    cases A with
    | none => rcases hr with h | ⟨_, _, h, _⟩; exact absurd h hl; cases h
    | some a =>
      obtain ⟨v', w', h1, h2, h3⟩ := run_append_arg_grows (P := P) (w := w) t ty e i _ 1 1 ht hi' hz0 hz1 hz2 rfl (by omega) b l0.length l0.length (bv l0) (by rw [bv_len]; omega) (h0.cells rfl)
        a l.length c (bv l) (by rw [bv_len]; omega) (hr.cells rfl) (by omega) (by simp only [maxLen]; omega) (by omega)
      exact ⟨v', w', h1, by unfold Row; rw [hlen, bv_app]; exact h2, h3⟩
section
variable {ops : Array Oper} {rest : List Oper} {o : Oper} {a : Act} {Q : Exit → Act → World → Prop}
theorem app_s_op {K : Act → World → Prop} (s x : Operand) (t : TypeId) (ho : o.op = .call { callee := .builtin .append, args := #[s, x], argTypes := #[t, t] })
    (ht : P.underlying t = some (.slice e)) (hi : (P.info? e).map (fun i => (i.zero, i.size, i.bytes)) = some (some (.int .u8 0), 1, 1))
    (l0 : List UInt8) (l' : List UInt8) {A0 : Option Addr} {n0 c0 : Nat} (hs : a.eval s = .slice A0 n0 c0) (hown : AppS w base e A0 n0 c0 l0) {B : Nat} (hx : a.eval x = .slice A n c) (hn : n = l.length) (hr : Bs w B A l) (hl : l ≠ []) (hl' : l' = l0 ++ l) (hm : l'.length ≤ 140737488355328) (hbase : base ≤ w.heap.size)
    (h : ∀ A' c' w', Row w' base e (.slice A' l'.length c') l' → Below base w w' → K (a.put o.dst (.slice A' l'.length c')) w') : o.wp P a w K Q := by
  obtain ⟨hn0, hrow | ⟨hc, hbs⟩⟩ := hown
  · subst hn hl'
    rw [List.length_append] at hm
    obtain ⟨v', w', hrun, h1, h2, _⟩ := run_app_bytes (P := P) t o.type ht hi l0 hrow A c B hr hm hbase
    obtain ⟨A', c', rfl, _⟩ := h1.shape
    unfold Oper.wp execOp
    simp only [ho, resolve, invoke, builtin, Sem.run_bind, Sem.run_pure, Result.andThen_ok, List.map_toArray, List.map_cons, List.map_nil, hs, hx, hrun]
    exact h A' c' w' h1 (grown_below h2 (fun k hk => (hrow.lt k hk).1) hbase)
  · subst hn hn0 hc hl'
    rw [List.length_append] at hm
    obtain ⟨v', w', hrun, h2, h3⟩ := run_app_full (P := P) (c := c) t o.type ht hi l0 hbs (fun hA => by rcases hbs with h | ⟨_, _, h, _⟩; exact h; rw [hA] at h; cases h) hr hl hm
    obtain ⟨A', c', rfl, _⟩ := h2.shape
    unfold Oper.wp execOp
    simp only [ho, resolve, invoke, builtin, Sem.run_bind, Sem.run_pure, Result.andThen_ok, List.map_toArray, List.map_cons, List.map_nil, hs, hx, hrun]
    refine h A' c' w' ?_ ⟨h3.os, h3.tape, h3.output, h3.size, fun k hk => h3.block k (by omega) (by simp)⟩
    obtain ⟨q1, q2⟩ := h2
    refine ⟨q1, q2.imp id ?_⟩
    rintro ⟨g, cap, cur, r1, r2, r3⟩
    exact ⟨g, cap, cur, r1, Nat.le_trans hbase r2, r3⟩
/-- One byte or more appended. -/
theorem app_s (hgd : Region.wanted o (yielded ops a.tmps) = true) (s x : Operand) (t : TypeId) (ho : o.op = .call { callee := .builtin .append, args := #[s, x], argTypes := #[t, t] })
    (ht : P.underlying t = some (.slice e)) (hi : (P.info? e).map (fun i => (i.zero, i.size, i.bytes)) = some (some (.int .u8 0), 1, 1))
    (l0 : List UInt8) (l' : List UInt8) {A0 : Option Addr} {n0 c0 : Nat} (hs : a.eval s = .slice A0 n0 c0) (hown : AppS w base e A0 n0 c0 l0) {B : Nat} (hx : a.eval x = .slice A n c) (hn : n = l.length) (hr : Bs w B A l) (hl : l ≠ []) (hl' : l' = l0 ++ l) (hm : l'.length ≤ 140737488355328) (hbase : base ≤ w.heap.size)
    (h : ∀ A' c' w', Row w' base e (.slice A' l'.length c') l' → Below base w w' → wpList P ops Q rest (a.put o.dst (.slice A' l'.length c')) w') : wpList P ops Q (o :: rest) a w :=
  wpList_wanted hgd fun _ hK => app_s_op s x t ho ht hi l0 l' hs hown hx hn hr hl hl' hm hbase fun A' c' w' h1 h2 => hK _ _ (h A' c' w' h1 h2)
/-- The same inside a region that draws. -/
theorem app_s_if {K : Act → World → Prop} (hgd : Region.wanted o (yielded ops a.tmps) = true) (s x : Operand) (t : TypeId) (ho : o.op = .call { callee := .builtin .append, args := #[s, x], argTypes := #[t, t] })
    (ht : P.underlying t = some (.slice e)) (hi : (P.info? e).map (fun i => (i.zero, i.size, i.bytes)) = some (some (.int .u8 0), 1, 1))
    (l0 : List UInt8) (l' : List UInt8) {A0 : Option Addr} {n0 c0 : Nat} (hs : a.eval s = .slice A0 n0 c0) (hown : AppS w base e A0 n0 c0 l0) {B : Nat} (hx : a.eval x = .slice A n c) (hn : n = l.length) (hr : Bs w B A l) (hl : l ≠ []) (hl' : l' = l0 ++ l) (hm : l'.length ≤ 140737488355328) (hbase : base ≤ w.heap.size)
    (h : ∀ A' c' w', Row w' base e (.slice A' l'.length c') l' → Below base w w' → K (a.put o.dst (.slice A' l'.length c')) w') : if Region.wanted o (yielded ops a.tmps) = true then o.wp P a w K Q else K (a.put o.dst undef) w := by
  rw [if_pos hgd]
  exact app_s_op s x t ho ht hi l0 l' hs hown hx hn hr hl hl' hm hbase h
end
/-- One byte in a new block. -/
theorem Bs.one (W : World) (u : UInt8) (T : TypeId) : Bs (W.alloc (.cells #[.int .u8 u.toNat] T)) (W.heap.size + 1) (some ⟨W.heap.size, 0, none⟩) [u] := by
  refine Or.inr ⟨_, _, rfl, Nat.lt_succ_self _, fun j x hx => ?_⟩
  have hj : j < 1 := (List.getElem?_eq_some_iff.1 hx).1
  obtain rfl : j = 0 := by omega
  injection hx with hx
  subst hx
  rw [(Pt.new W #[.int .u8 u.toNat] T).cell]
  rfl
theorem Bs.one' (W : World) (u : UInt8) (v : Int) (T : TypeId) (hv : v = u.toNat) : Bs (W.alloc (.cells #[.int .u8 v] T)) (W.heap.size + 1) (some ⟨W.heap.size, 0, none⟩) [u] := by
  subst hv; exact Bs.one W u T
end
end Go.Proofs.YtmjdlofkjjofcaaDoor

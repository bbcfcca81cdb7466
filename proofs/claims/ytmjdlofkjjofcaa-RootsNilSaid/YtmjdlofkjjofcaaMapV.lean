/- Maps by the values of their keys; no program in sight. -/
import Derived.Test.YtmjdlofkjjofcaaKit
import Derived.Test.YtmjdlofkjjofcaaKitb
import Derived.Maps.OwnSet
import Derived.Maps.OwnOps
import Derived.DeepKeys5
namespace Go.Proofs.Ytmjdlofkjjofcaa
open Go.RowKit
set_option linter.unusedVariables false
set_option linter.unusedSimpArgs false

abbrev hval : Value → Option (DataW Value × List MemPlace) := fun v => some (.held v, [])
abbrev MF := Value → Option Value
open Classical in
/-- A map, one key told anew. -/
noncomputable def MF.put (g : MF) (key v : Value) : MF := fun x => if x = key then some v else g x
open Classical in
noncomputable def MF.del (g : MF) (key : Value) : MF := fun x => if x = key then none else g x
theorem MF.put_same (g : MF) (key v : Value) : g.put key v key = some v := by unfold MF.put; simp
theorem MF.put_other (g : MF) {key x : Value} (v : Value) (h : x ≠ key) : g.put key v x = g x := by unfold MF.put; simp [h]
theorem MF.del_same (g : MF) (key : Value) : g.del key key = none := by unfold MF.del; simp
theorem MF.del_other (g : MF) {key x : Value} (h : x ≠ key) : g.del key x = g x := by unfold MF.del; simp [h]
/-- Block b is a map of s entries (at most n have ever been laid), told by g. -/
def MapV (w : World) (P : Program) (k : TypeId) (b n s : Nat) (g : MF) : Prop :=
  ∃ D : DataW Value, w.ownsMap P k hval b n D ∧ Maps.size D = s ∧ ∀ key kl, keyOf P k key = some kl → (g key = none ∧ Maps.has D kl = false) ∨ ∃ v, g key = some v ∧ Maps.has D kl = true ∧ ∀ z, D.atKey kl z = .held v
section
variable {w w' : World} {P : Program} {k e t : TypeId} {b n s : Nat} {g : MF}
theorem MapV.made (w : World) (P : Program) (k : TypeId) : MapV (w.alloc (.map #[] 0)) P k w.heap.size 0 0 (fun _ => none) :=
  ⟨.map [], World.ownsMap_made w P k hval, rfl, fun _ _ _ => .inl ⟨rfl, rfl⟩⟩
theorem MapV.lt (h : MapV w P k b n s g) : b < w.heap.size := by obtain ⟨D, h, _⟩ := h; exact h.lt
theorem MapV.same (h : MapV w P k b n s g) (hs : w'.heap[b]? = w.heap[b]?) : MapV w' P k b n s g := by
  obtain ⟨D, ⟨es, clock, hb, F, hl, hD⟩, h2⟩ := h
  exact ⟨D, ⟨es, clock, hs.trans hb, F, hl, hD⟩, h2⟩
theorem MapV.keep (h : MapV w P k b n s g) (hb : Below w.heap.size w w') : MapV w' P k b n s g := h.same (hb.block b h.lt)
theorem MapV.more (h : MapV w P k b n s g) {n' : Nat} (hn : n ≤ n') : MapV w P k b n' s g := by
  obtain ⟨D, h1, h2⟩ := h
  exact ⟨D, h1.mono hn, h2⟩
theorem MapV.set (h : MapV w P k b n s g) {a : Addr} (ha : b ≠ a.block) (u : Value) : MapV (w.setCell a u) P k b n s g := by
  obtain ⟨D, h1, h2⟩ := h
  exact ⟨D, h1.setCell ha u, h2⟩
theorem MapV.le (h : MapV w P k b n s g) : s ≤ n := by
  obtain ⟨D, h1, rfl, _⟩ := h
  exact h1.size_le
theorem MapV.look_ok (h : MapV w P k b n s g) (K : Maps.Keyed P k) (ht : P.underlying t = some (.map k e)) {z : Value} (hz : (zeroValue e).run P w = .ok z w) {key : Value} {kl : Lit} (hkey : keyOf P k key = some kl) :
    (Instr.lookup t (.map (some b)) key true).run P w = .ok (.tuple #[(g key).getD z, .bool (g key).isSome]) w := by
  obtain ⟨D, h1, _, h3⟩ := h
  obtain ⟨v, ps, hrun, hv⟩ := h1.look_ok K ht hz (zd := .held z) (zp := []) rfl hkey
  rw [hrun]
  have hv' : DataW.held v = D.atKey kl (.held z) := by injection hv with hv; exact congrArg Prod.fst hv
  rcases h3 key kl hkey with ⟨e1, e2⟩ | ⟨u, e1, e2, e3⟩
  · rw [Maps.atKey_of_not_has e2] at hv'
    injection hv' with hv'
    rw [e1, e2, hv']
    rfl
  · rw [e3] at hv'
    injection hv' with hv'
    rw [e1, e2, hv']
    rfl
theorem MapV.look (h : MapV w P k b n s g) (K : Maps.Keyed P k) (ht : P.underlying t = some (.map k e)) {z : Value} (hz : (zeroValue e).run P w = .ok z w) {key : Value} {kl : Lit} (hkey : keyOf P k key = some kl) :
    (Instr.lookup t (.map (some b)) key false).run P w = .ok ((g key).getD z) w := by
  obtain ⟨D, h1, _, h3⟩ := h
  obtain ⟨v, ps, hrun, hv⟩ := h1.lookup K ht hz (zd := .held z) (zp := []) rfl hkey
  rw [hrun]
  have hv' : DataW.held v = D.atKey kl (.held z) := by injection hv with hv; exact congrArg Prod.fst hv
  rcases h3 key kl hkey with ⟨e1, e2⟩ | ⟨u, e1, e2, e3⟩
  · rw [Maps.atKey_of_not_has e2] at hv'
    injection hv' with hv'
    rw [e1, hv']
    rfl
  · rw [e3] at hv'
    injection hv' with hv'
    rw [e1, hv']
    rfl
theorem MapV.store (h : MapV w P k b n s g) (K : Maps.Keyed P k) (ht : P.underlying t = some (.map k e)) (hn : n < maxLen) {key val : Value} {kl : Lit} (hkey : keyOf P k key = some kl) :
    ∃ w', (Instr.mapUpdate t (.map (some b)) key val).run P w = .ok () w' ∧ MapV w' P k b (n + 1) (if (g key).isSome then s else s + 1) (g.put key val) ∧ w.mapTurned w' b := by
  obtain ⟨D, h1, h2, h3⟩ := h
  obtain ⟨w', hrun, h4, h5⟩ := h1.store K ht hn hkey (val := val) (d := .held val) (ps := []) rfl
  have hk := K.key hkey
  refine ⟨w', hrun, ⟨_, h4, ?_, fun x xl hx => ?_⟩, h5⟩
  · rw [Maps.size_put (h1.tidy K), h2]
    rcases h3 key kl hkey with ⟨e1, e2⟩ | ⟨u, e1, e2, e3⟩
    · rw [e1, e2]; rfl
    · rw [e1, e2]; rfl
  · by_cases hxk : x = key
    · subst hxk
      rw [hkey] at hx
      injection hx with hx
      subst hx
      exact .inr ⟨val, MF.put_same _ _ _, Maps.has_put_same h1.isMap hk _, fun z => Maps.atKey_put_same h1.isMap hk _ z⟩
    · have hne : xl ≠ kl := fun e => hxk (K.inj hx (by rw [e]; exact hkey))
      rw [MF.put_other _ _ hxk, Maps.has_put_other hne]
      rcases h3 x xl hx with h | ⟨u, e1, e2, e3⟩
      · exact .inl h
      · exact .inr ⟨u, e1, e2, fun z => by rw [Maps.atKey_put_other hne]; exact e3 z⟩
theorem MapV.drop (h : MapV w P k b n s g) (K : Maps.Keyed P k) (ht : P.underlying t = some (.map k e)) {key : Value} {kl : Lit} (hkey : keyOf P k key = some kl) (ty : TypeId) :
    ∃ w', (Builtin.delete_ #[t, k] ty #[.map (some b), key]).run P w = .ok (.tuple #[]) w' ∧ MapV w' P k b n (if (g key).isSome then s - 1 else s) (g.del key) ∧ w.mapTurned w' b := by
  obtain ⟨D, h1, h2, h3⟩ := h
  obtain ⟨w', hrun, h4, h5⟩ := h1.drop K ht hkey ty
  refine ⟨w', hrun, ⟨_, h4, ?_, fun x xl hx => ?_⟩, h5⟩
  · have := Maps.size_del (k := kl) (h1.tidy K)
    rw [h2] at this
    rcases h3 key kl hkey with ⟨e1, e2⟩ | ⟨u, e1, e2, e3⟩
    · rw [e2] at this; rw [e1]; simpa using this
    · rw [e2] at this; rw [e1]; simp at this ⊢; omega
  · by_cases hxk : x = key
    · subst hxk
      rw [hkey] at hx
      injection hx with hx
      subst hx
      exact .inl ⟨MF.del_same _ _, Maps.has_del_same⟩
    · have hne : xl ≠ kl := fun e => hxk (K.inj hx (by rw [e]; exact hkey))
      rw [MF.del_other _ hxk, Maps.has_del_other hne]
      rcases h3 x xl hx with h | ⟨u, e1, e2, e3⟩
      · exact .inl h
      · exact .inr ⟨u, e1, e2, fun z => by rw [Maps.atKey_del_other hne]; exact e3 z⟩
theorem MapV.len (h : MapV w P k b n s g) (ht : P.underlying t = some (.map k e)) (ty : TypeId) : (Builtin.len_ #[t] ty #[.map (some b)]).run P w = .ok (.int .i64 s) w := by
  obtain ⟨D, h1, rfl, _⟩ := h
  exact h1.len ht ty
end
/-! at the operations -/
section
variable {P : Program} {w : World} {k e t : TypeId} {b n s : Nat} {g : MF} {ops : Array Oper} {rest : List Oper} {o : Oper} {a : Act} {Q : Exit → Act → World → Prop}
theorem map_put (hgd : Region.wanted o (yielded ops a.tmps) = true) (m x v : Operand) (t : TypeId) (hop : o.op = Op.mapUpdate t m x v) (K : Maps.Keyed P k) (ht : P.underlying t = some (.map k e))
    (hm : a.eval m = .map (some b)) (h : MapV w P k b n s g) (hn : n < maxLen) {key val : Value} {kl : Lit} (hx : a.eval x = key) (hv : a.eval v = val) (hkey : keyOf P k key = some kl)
    (hK : ∀ w', MapV w' P k b (n + 1) (if (g key).isSome then s else s + 1) (g.put key val) → w.mapTurned w' b → wpList P ops Q rest (a.put o.dst undef) w') : wpList P ops Q (o :: rest) a w :=
  wpList_wanted hgd fun _ hK' => by
    obtain ⟨w', hrun, r1, r2⟩ := h.store K ht hn hkey (val := val)
    unfold Oper.wp
    simp [execOp, hop, hm, hx, hv, hrun, Result.andThen]
    exact hK' _ _ (hK w' r1 r2)
theorem map_ins (hgd : Region.wanted o (yielded ops a.tmps) = true) (m x v : Operand) (t : TypeId) (hop : o.op = Op.insert t m x v) (K : Maps.Keyed P k) (ht : P.underlying t = some (.map k e))
    (hm : a.eval m = .map (some b)) (h : MapV w P k b n s g) (hn : n < maxLen) {key val : Value} {kl : Lit} (hx : a.eval x = key) (hv : a.eval v = val) (hkey : keyOf P k key = some kl)
    (hK : ∀ w', MapV w' P k b (n + 1) (if (g key).isSome then s else s + 1) (g.put key val) → w.mapTurned w' b → wpList P ops Q rest (a.put o.dst undef) w') : wpList P ops Q (o :: rest) a w :=
  wpList_wanted hgd fun _ hK' => by
    obtain ⟨w', hrun, r1, r2⟩ := h.store K ht hn hkey (val := val)
    unfold Oper.wp
    simp [execOp, hop, hm, hx, hv, hrun, Result.andThen]
    exact hK' _ _ (hK w' r1 r2)
/-- len, inside a region that draws. -/
theorem map_len_if {K' : Act → World → Prop} {E : Prop} (hgd : o.guard = none) (m : Operand) (t : TypeId) (hop : o.op = Op.call { callee := Callee.builtin Builtin.len, args := #[m], argTypes := #[t] }) (ht : P.underlying t = some (.map k e))
    (hm : a.eval m = .map (some b)) (h : MapV w P k b n s g) (hK : K' (a.put o.dst (.int .i64 s)) w) : if Region.wanted o (yielded ops a.tmps) = true then Oper.wp P o a w K' Q else E := by
  rw [if_pos (show Region.wanted o (yielded ops a.tmps) = true by simp [Region.wanted, hgd])]
  unfold Oper.wp
  simp [execOp, hop, resolve, invoke, builtin, hm, h.len ht o.type, Result.andThen]
  exact hK
theorem map_del (hgd : Region.wanted o (yielded ops a.tmps) = true) (m x : Operand) (t : TypeId) (hop : o.op = Op.call { callee := Callee.builtin Builtin.delete, args := #[m, x], argTypes := #[t, k] }) (K : Maps.Keyed P k) (ht : P.underlying t = some (.map k e))
    (hm : a.eval m = .map (some b)) (h : MapV w P k b n s g) {key : Value} {kl : Lit} (hx : a.eval x = key) (hkey : keyOf P k key = some kl)
    (hK : ∀ w', MapV w' P k b n (if (g key).isSome then s - 1 else s) (g.del key) → w.mapTurned w' b → wpList P ops Q rest (a.put o.dst (.tuple #[])) w') : wpList P ops Q (o :: rest) a w :=
  wpList_wanted hgd fun _ hK' => by
    obtain ⟨w', hrun, r1, r2⟩ := h.drop K ht hkey o.type
    unfold Oper.wp
    simp [execOp, hop, resolve, invoke, builtin, hm, hx, hrun, Result.andThen]
    exact hK' _ _ (hK w' r1 r2)
end
/-- What a write into a map leaves alone. -/
theorem turned_below {w w' : World} {b B : Nat} (h : w.mapTurned w' b) (hb : B ≤ b) (hB : B ≤ w.heap.size) : Below B w w' := by
  have hg := h.grown
  exact ⟨hg.os, hg.tape, hg.output, hg.size, fun c hc => hg.block c (by omega) (fun e => by injection e with e; omega)⟩
theorem turned_other {w w' : World} {b : Nat} (h : w.mapTurned w' b) {c : Nat} (hc : c < w.heap.size) (hne : c ≠ b) : w'.heap[c]? = w.heap[c]? :=
  h.grown.block c hc (fun e => by injection e with e; exact hne e)
theorem Pt.turned {w w' : World} {b c : Nat} {cs : Array Value} {T : TypeId} (p : Pt w c cs T) (h : w.mapTurned w' b) (hne : c ≠ b) : Pt w' c cs T := (turned_other h p.lt hne).trans p
end Go.Proofs.Ytmjdlofkjjofcaa

/- The store as one word: where it lies is hidden; what a call on it leaves alone. -/
import Derived.Test.YtjiliiclebdbfaaEmpty
namespace Go.Proofs.Ytjiliiclebdbfaa
open Go.RowKit
set_option linter.unusedVariables false
set_option linter.unusedSimpArgs false

/-- Block b is one of those of the store at S. -/
def Foot (w : World) (S b : Nat) : Prop := b = S ∨ (∃ n c, w.cell? ⟨S, 0, none⟩ = some (.slice (some ⟨b, 0, none⟩) n c)) ∨ (∃ n c, w.cell? ⟨S, 1, none⟩ = some (.slice (some ⟨b, 0, none⟩) n c))
/-- All old blocks but some are as they were; what these are may grow by new blocks alone. -/
structure FrG (F : World → Nat → Prop) (w w' : World) : Prop where
  os : w'.os = w.os
  tape : w'.tape = w.tape
  output : w'.output = w.output
  size : w.heap.size ≤ w'.heap.size
  block : ∀ b, b < w.heap.size → ¬ F w b → w'.heap[b]? = w.heap[b]?
  foot : ∀ b, F w' b → F w b ∨ w.heap.size ≤ b
theorem FrG.trans {F : World → Nat → Prop} {w w' w'' : World} (h : FrG F w w') (k : FrG F w' w'') : FrG F w w'' :=
  ⟨k.os.trans h.os, k.tape.trans h.tape, k.output.trans h.output, Nat.le_trans h.size k.size,
    fun b hb hf => (k.block b (Nat.lt_of_lt_of_le hb h.size) (fun hf' => (h.foot b hf').elim hf (fun e => by omega))).trans (h.block b hb hf),
    fun b hb => (k.foot b hb).elim (h.foot b) (fun e => .inr (Nat.le_trans h.size e))⟩
theorem FrG.below {F : World → Nat → Prop} {w w' : World} {base : Nat} (k : FrG F w w') (hb : base ≤ w.heap.size) (hf : ∀ b, F w b → base ≤ b) : Below base w w' :=
  ⟨k.os, k.tape, k.output, k.size, fun b hb' => k.block b (by omega) (fun h => by have := hf b h; omega)⟩
theorem FrG.nf {F : World → Nat → Prop} {w w' : World} (k : FrG F w w') {b : Nat} (hb : b < w.heap.size) (hf : ¬ F w b) : ¬ F w' b := fun h => (k.foot b h).elim hf (fun e => by omega)
theorem Pt.frg {F : World → Nat → Prop} {w w' : World} {b : Nat} {cs : Array Value} {U : TypeId} (p : Pt w b cs U) (k : FrG F w w') (hf : ¬ F w b) : Pt w' b cs U := (k.block b p.lt hf).trans p
theorem FrG.drewN {F : World → Nat → Prop} (hF : ∀ w n b, F (World.drewN w n) b → F w b) {w w' : World} (h : FrG F w w') (n : Nat) : FrG F w (w'.drewN n) := ⟨h.os, h.tape, h.output, h.size, h.block, fun b hb => h.foot b (hF _ _ _ hb)⟩
/-- All old blocks but the store's are as they were. -/
abbrev Fr (S : Nat) (w w' : World) : Prop := FrG (fun w b => Foot w S b) w w'
/-- The store at S has the squares ns, and room for most. -/
def St (base : Nat) (w : World) (S : Nat) (ns : List Nd) (most : Nat) : Prop := ∃ N T tb, Sok base w S N T ns tb most
section
variable {base S N N' T : Nat} {w w' w'' : World} {ns ns' : List Nd} {tb tb' : List Nat} {most : Nat} {k : K4}
theorem Sok.ne (h : Sok base w S N T ns tb most) : S ≠ T ∧ S ≠ N ∧ T ≠ N ∧ N < w.heap.size ∧ base ≤ N := h.lies.ne (by have := h.ok.two; intro e; subst e; simp at this)
theorem Sok.foot (h : Sok base w S N T ns tb most) (b : Nat) : Foot w S b ↔ b = S ∨ b = N ∨ b = T := by
  obtain ⟨cn, c0, c1, _⟩ := h.lies.cellS
  unfold Foot
  rw [c0, c1]
  constructor
  · rintro (h | ⟨_, _, h⟩ | ⟨_, _, h⟩)
    · exact .inl h
    · injection h with h; injection h with h; injection h with h; injection h with h; exact .inr (.inl h.symm)
    · injection h with h; injection h with h; injection h with h; injection h with h; exact .inr (.inr h.symm)
  · rintro (h | rfl | rfl)
    · exact .inl h
    · exact .inr (.inl ⟨_, _, rfl⟩)
    · exact .inr (.inr ⟨_, _, rfl⟩)
theorem Fr.of (h : Below w.heap.size w w') (hS : S < w.heap.size) : Fr S w w' :=
  ⟨h.os, h.tape, h.output, h.size, fun b hb _ => h.block b hb, fun b hb => by
    unfold Foot at hb ⊢
    rw [h.cell (p := ⟨S, 0, none⟩) hS, h.cell (p := ⟨S, 1, none⟩) hS] at hb
    exact .inl hb⟩
theorem Fr.of_sto (h : Sok base w S N T ns tb most) (h' : Sok base w' S N' T ns' tb' most) (k : Sto S N T w N' w') : Fr S w w' :=
  ⟨k.os, k.tape, k.output, k.size, fun b hb hf => by
    rw [h.foot] at hf
    exact k.block b hb (fun e => hf (.inl e)) (fun e => hf (.inr (.inl e))) (fun e => hf (.inr (.inr e))), fun b hb => by
    rw [h'.foot] at hb
    rw [h.foot]
    rcases hb with e | e | e
    · exact .inl (.inl e)
    · rcases k.row with e' | e'
      · exact .inl (.inr (.inl (e.trans e')))
      · exact .inr (by omega)
    · exact .inl (.inr (.inr e))⟩
theorem St.lt (h : St base w S ns most) : S < w.heap.size ∧ base ≤ S ∧ base ≤ w.heap.size := by
  obtain ⟨N, T, tb, h⟩ := h
  have h1 := h.lies.lt
  obtain ⟨_, _, _, _, h2, h3, _⟩ := h.lies
  omega
theorem St.two (h : St base w S ns most) : 2 ≤ ns.length ∧ ns.length ≤ most ∧ most ≤ 2097152 := by
  obtain ⟨N, T, tb, h⟩ := h
  exact h.two
theorem St.ok (h : St base w S ns most) : StOk ns := by
  obtain ⟨N, T, tb, h⟩ := h
  exact h.ok
theorem St.dist (h : St base w S ns most) : ∀ (i j : Nat) (nd md : Nd), 2 ≤ i → 2 ≤ j → ns[i]? = some nd → ns[j]? = some md → nd.k = md.k → i = j := by
  obtain ⟨N, T, tb, h⟩ := h
  exact h.tab.dist
theorem St.below (h : St base w S ns most) (b : Below w.heap.size w w') : St base w' S ns most := by
  obtain ⟨N, T, tb, h⟩ := h
  exact ⟨N, T, tb, h.below b⟩
theorem St.foot (h : St base w S ns most) {b : Nat} (hb : Foot w S b) : base ≤ b ∧ b < w.heap.size := by
  obtain ⟨N, T, tb, h⟩ := h
  have h0 := h.ne
  have h1 := h.lies.lt
  rw [h.foot] at hb
  obtain ⟨_, _, _, _, h2, h3, _⟩ := h.lies
  rcases hb with e | e | e <;> omega
theorem Fr.low (k : Fr S w w') (h : St base w S ns most) : Below base w w' := k.below (by have := h.lt; omega) (fun b hb => (h.foot hb).1)
/-- A block of another type is none of the store's. -/
theorem St.not_foot (h : St base w S ns most) {b : Nat} {cs : Array Value} {U : TypeId} (p : Pt w b cs U) (h1 : U ≠ 126) (h2 : U ≠ 123) (h3 : U ≠ 31) : ¬ Foot w S b := by
  obtain ⟨N, T, tb, h⟩ := h
  intro hf
  rw [h.foot] at hf
  obtain ⟨cn, p1, p2, p3, _⟩ := h.lies
  unfold Pt at p p1 p3
  rcases hf with rfl | rfl | rfl
  · rw [p1] at p; injection p with p; injection p with _ p; exact h1 p.symm
  · rcases p2.2 with ⟨hv, _⟩ | ⟨g, cap, cur, hv, _, hg, _⟩
    · cases hv
    · injection hv with e1; injection e1 with e1; injection e1 with e1; subst e1
      rw [hg] at p; injection p with p; injection p with _ p; exact h2 p.symm
  · rw [p3] at p; injection p with p; injection p with _ p; exact h3 p.symm
theorem Pt.fr {b : Nat} {cs : Array Value} {U : TypeId} (p : Pt w b cs U) (k : Fr S w w') (h : St base w S ns most) (h1 : U ≠ 126) (h2 : U ≠ 123) (h3 : U ≠ 31) : Pt w' b cs U :=
  (k.block b p.lt (h.not_foot p h1 h2 h3)).trans p
theorem Fr.next (h : Fr S w w') (k : Below w'.heap.size w' w'') (hS : S < w.heap.size) : Fr S w w'' := FrG.trans h (Fr.of k (Nat.lt_of_lt_of_le hS h.size))
/-- errV stays closed in a walk: whether it is none. -/
theorem neq_errV (er : Nat) (w : World) : (binOp .neq 27 (errV er) .nilIface).run Try.prog w = .ok (.bool (decide (er ≠ 0))) w := by
  by_cases h : er = 0
  · subst h
    exact neq_nil_nil w Try.underlying27
  · rw [show errV er = .iface 60 (.int .i64 er) from if_neg h, decide_eq_true h]
    exact neq_iface_nil w _ Try.underlying27
theorem eql_errV (er : Nat) (w : World) : (binOp .eql 27 (errV er) .nilIface).run Try.prog w = .ok (.bool (decide (er = 0))) w := by
  by_cases h : er = 0
  · subst h
    exact eql_nil_nil w Try.underlying27
  · rw [show errV er = .iface 60 (.int .i64 er) from if_neg h, decide_eq_false h]
    exact eql_iface_nil w _ Try.underlying27
theorem eqGuard_errV (op : BinOp) (t : TypeId) (x : Operand) (c : Value) (er : Nat) : eqGuard op t x (.const c) (errV er) .nilIface = pure () := by
  unfold errV
  split
  · cases op <;> first | rfl | simp [eqGuard]
  · cases op <;> first | rfl | simp [eqGuard]
theorem make_st (h : St base w S ns most) (a b c d : Nat) (ha : a < 4294967296) (hb : b < 4294967296) (hc : c < 4294967296) (hd : d < 4294967296) :
    Calls Try.prog 31 #[.pointer (some ⟨S, 0, none⟩), .agg #[.int .u32 a, .int .u32 b, .int .u32 c, .int .u32 d]] w fun e w' => e = .returned (.tuple #[.int .u32 ((makeN ns most ⟨a, b, c, d⟩).1 : Nat), errV (makeN ns most ⟨a, b, c, d⟩).2.1]) ∧ St base w' S (makeN ns most ⟨a, b, c, d⟩).2.2 most ∧ Fr S w w' := by
  obtain ⟨N, T, tb, h⟩ := h
  have := make_any h (k := ⟨a, b, c, d⟩) ⟨ha, hb, hc, hd⟩
  unfold kAgg at this
  refine this.mono fun e w' ⟨N', tb', h1, h2, _, h3⟩ => ⟨h1, ⟨N', T, tb', h2⟩, Fr.of_sto h h2 h3⟩
theorem empty_st (h : St base w S ns most) (l : Int) :
    Calls Try.prog 32 #[.pointer (some ⟨S, 0, none⟩), .int .i64 l] w fun e w' => e = .returned (.tuple #[.int .u32 ((emptyN ns most l).1 : Nat), errV (emptyN ns most l).2.1]) ∧ St base w' S (emptyN ns most l).2.2 most ∧ Fr S w w' := by
  obtain ⟨N, T, tb, h⟩ := h
  refine (empty_any h l).mono fun e w' ⟨N', tb', h1, h2, _, h3⟩ => ⟨h1, ⟨N', T, tb', h2⟩, Fr.of_sto h h2 h3⟩
theorem len_st (h : St base w S ns most) : Calls Try.prog 33 #[.pointer (some ⟨S, 0, none⟩)] w fun e w' => e = .returned (.int .i64 ns.length) ∧ w = w' := by
  obtain ⟨N, T, tb, h⟩ := h
  exact sLen_any h.lies
theorem room_st (h : St base w S ns most) : Calls Try.prog 34 #[.pointer (some ⟨S, 0, none⟩)] w fun e w' => e = .returned (.int .i64 ((most : Int) - ns.length)) ∧ ∃ q, w' = w.drewN q := by
  obtain ⟨N, T, tb, h⟩ := h
  exact sRoom_any h.lies
theorem mark_st (h : St base w S ns most) : Calls Try.prog 36 #[.pointer (some ⟨S, 0, none⟩)] w fun e w' => e = .returned (.int .i64 ns.length) ∧ w = w' := by
  obtain ⟨N, T, tb, h⟩ := h
  exact sMark_any h.lies
theorem is_st (h : St base w S ns most) (x : Nat) (hx : x < 4294967296) : Calls Try.prog 35 #[.pointer (some ⟨S, 0, none⟩), .int .u32 x] w fun e w' => e = .returned (.bool (decide (x < ns.length))) ∧ w = w' := by
  obtain ⟨N, T, tb, h⟩ := h
  exact sIs_any h.lies x hx _ rfl
theorem level_st (h : St base w S ns most) (x : Nat) (hx : x < 4294967296) : Calls Try.prog 17 #[.pointer (some ⟨S, 0, none⟩), .int .u32 x] w fun e w' => e = .returned (.int .i64 (lvlN ns x)) ∧ w = w' := by
  obtain ⟨N, T, tb, h⟩ := h
  exact sLevel_any h.lies x hx
theorem count_st (h : St base w S ns most) (x : Nat) (hx : x < 4294967296) : Calls Try.prog 18 #[.pointer (some ⟨S, 0, none⟩), .int .u32 x] w fun e w' => e = .returned (.int .u64 (aliveOf ns x)) ∧ w = w' := by
  obtain ⟨N, T, tb, h⟩ := h
  exact sCount_any h.lies x hx
/-- The four of a square; of one that has none four zeros. -/
def ofK (ns : List Nd) (x : Nat) : K4 := if 1 ≤ lvlN ns x then kidsOf ns x else ⟨0, 0, 0, 0⟩
theorem of_st (h : St base w S ns most) (x : Nat) (hx : x < 4294967296) : Calls Try.prog 28 #[.pointer (some ⟨S, 0, none⟩), .int .u32 x] w fun e w' => e = .returned (.tuple #[.agg #[.int .u32 (ofK ns x).a, .int .u32 (ofK ns x).b, .int .u32 (ofK ns x).c, .int .u32 (ofK ns x).d], .bool (decide (1 ≤ lvlN ns x))]) ∧ Below w.heap.size w w' := by
  obtain ⟨N, T, tb, h⟩ := h
  refine (sOf_any h.lies x hx _ rfl).mono fun e w' ⟨h1, h2⟩ => ⟨?_, h2⟩
  rw [h1]
  unfold ofK
  by_cases hl : 1 ≤ lvlN ns x
  · simp [hl]
  · simp [hl]
end
end Go.Proofs.Ytjiliiclebdbfaa

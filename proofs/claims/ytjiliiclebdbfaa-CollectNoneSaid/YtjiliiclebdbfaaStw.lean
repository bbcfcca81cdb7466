/- Writes beside the store leave it as it is; no program in sight. -/
import Derived.Test.YtjiliiclebdbfaaSt
namespace Go.Proofs.Ytjiliiclebdbfaa
open Go.RowKit
set_option linter.unusedVariables false
section
variable {base S : Nat} {w w' : World} {ns : List Nd} {most : Nat}
theorem below_c {w W W' : World} (h : Below w.heap.size w W) (k : Below W.heap.size W W') : Below w.heap.size w W' := h.trans (k.mono h.size)
theorem below_a {w W : World} (h : Below w.heap.size w W) (O : Obj) : Below w.heap.size w (W.alloc O) := h.alloc h.size O
theorem below_d {w W : World} (h : Below w.heap.size w W) : Below w.heap.size w W.drew := below_dn h 1
theorem Foot.same (hS : w'.heap[S]? = w.heap[S]?) (b : Nat) : Foot w' S b ↔ Foot w S b := by
  unfold Foot
  rw [World.cell?_of_block (a := ⟨S, 0, none⟩) hS, World.cell?_of_block (a := ⟨S, 1, none⟩) hS]
theorem St.same (h : St base w S ns most) (hs : ∀ b, Foot w S b → w'.heap[b]? = w.heap[b]?) : St base w' S ns most := by
  obtain ⟨N, T, tb, h⟩ := h
  have eS := hs S (.inl rfl)
  have eN := hs N (by rw [h.foot]; exact .inr (.inl rfl))
  have eT := hs T (by rw [h.foot]; exact .inr (.inr rfl))
  obtain ⟨⟨cn, h1, h2, h3, h4⟩, ht, ho⟩ := h
  refine ⟨N, T, tb, ⟨⟨cn, eS.trans h1, ⟨h2.1, ?_⟩, eT.trans h3, h4⟩, ht, ho⟩⟩
  rcases h2.2 with h0 | ⟨g, cap, cur, hv, hg0, hg, hr⟩
  · exact .inl h0
  · injection hv with e1 e2 e3
    injection e1 with e1
    injection e1 with e1
    subst e1
    exact .inr ⟨N, cap, cur, by rw [e3], hg0, eN.trans hg, hr⟩
theorem St.set (h : St base w S ns most) {b : Nat} (hf : ¬ Foot w S b) (o : Nat) (v : Value) : St base (w.setCell ⟨b, o, none⟩ v) S ns most :=
  h.same fun g hg => Below.heap_setCell _ _ _ _ (fun e => hf (by have e' : g = b := e; rw [← e']; exact hg))
theorem Fr.set (k : Fr S w w') {b : Nat} (hb : w.heap.size ≤ b) (hf : ¬ Foot w' S b) (o : Nat) (v : Value) : Fr S w (w'.setCell ⟨b, o, none⟩ v) :=
  ⟨k.os, k.tape, k.output, by rw [World.size_setCell]; exact k.size, fun g hg hn => by
    rw [Below.heap_setCell _ _ _ _ (show g ≠ b by omega)]; exact k.block g hg hn, fun g hg => by
    rw [Foot.same (Below.heap_setCell _ _ _ _ (fun e => hf (.inl (by have e' : S = b := e; exact e'.symm))))] at hg
    exact k.foot g hg⟩
/-- A write into a block of another type. -/
theorem St.setP (h : St base w S ns most) {b : Nat} {cs : Array Value} {U : TypeId} (p : Pt w b cs U) (h1 : U ≠ 126) (h2 : U ≠ 123) (h3 : U ≠ 31) (o : Nat) (v : Value) : St base (w.setCell ⟨b, o, none⟩ v) S ns most :=
  h.set (h.not_foot p h1 h2 h3) o v
theorem Fr.setP (k : Fr S w w') (h : St base w' S ns most) {b : Nat} {cs : Array Value} {U : TypeId} (p : Pt w' b cs U) (h1 : U ≠ 126) (h2 : U ≠ 123) (h3 : U ≠ 31) (hb : w.heap.size ≤ b) (o : Nat) (v : Value) : Fr S w (w'.setCell ⟨b, o, none⟩ v) :=
  Fr.set k hb (h.not_foot p h1 h2 h3) o v
/-- Two things at once, under one name: what a call on squares leaves. -/
structure Left (base S most : Nat) (ns : List Nd) (w w' : World) : Prop where
  st : St base w' S ns most
  fr : Fr S w w'
theorem Left.set (h : Left base S most ns w w') {b : Nat} {cs : Array Value} {U : TypeId} (p : Pt w' b cs U) (h1 : U ≠ 126) (h2 : U ≠ 123) (h3 : U ≠ 31) (hb : w.heap.size ≤ b) (o : Nat) (v : Value) : Left base S most ns w (w'.setCell ⟨b, o, none⟩ v) :=
  ⟨h.1.setP p h1 h2 h3 o v, Fr.setP h.2 h.1 p h1 h2 h3 hb o v⟩
theorem Left.next {w'' : World} (h : Left base S most ns w w') (b : Below w'.heap.size w' w'') : Left base S most ns w w'' :=
  ⟨h.1.below b, FrG.trans h.2 (Fr.of b (by have := h.1.lt; omega))⟩
theorem Left.alloc (h : Left base S most ns w w') (O : Obj) : Left base S most ns w (w'.alloc O) := h.next ((Below.refl _ _).alloc (Nat.le_refl _) O)
theorem Left.drewN (h : Left base S most ns w w') (n : Nat) : Left base S most ns w (w'.drewN n) := h.next ⟨rfl, rfl, rfl, Nat.le_refl _, fun _ _ => rfl⟩
theorem Left.drew (h : Left base S most ns w w') : Left base S most ns w w'.drew := h.next ⟨rfl, rfl, rfl, Nat.le_refl _, fun _ _ => rfl⟩
theorem Left.of (h : St base w S ns most) (b : Below w.heap.size w w') : Left base S most ns w w' := ⟨h.below b, Fr.of b h.lt.1⟩
theorem Left.call {ns' : List Nd} {w'' : World} (h : Left base S most ns w w') (k : Left base S most ns' w' w'') : Left base S most ns' w w'' := ⟨k.1, FrG.trans h.2 k.2⟩
theorem Pt.left {ns' : List Nd} {b : Nat} {cs : Array Value} {U : TypeId} (p : Pt w b cs U) (h : St base w S ns' most) (k : Left base S most ns w w') (h1 : U ≠ 126) (h2 : U ≠ 123) (h3 : U ≠ 31) : Pt w' b cs U := p.fr k.2 h h1 h2 h3
theorem Left.low {ns' : List Nd} (k : Left base S most ns w w') (h : St base w S ns' most) : Below base w w' := Fr.low k.2 h
theorem Left.set2 (h : Left base S most ns w w') {b : Nat} {cs : Array Value} {U : TypeId} (p : Pt w' b cs U) (h1 : U ≠ 126) (h2 : U ≠ 123) (h3 : U ≠ 31) (hb : w.heap.size ≤ b) (o : Nat) (v : Value) (o' : Nat) (v' : Value) : Left base S most ns w ((w'.setCell ⟨b, o, none⟩ v).setCell ⟨b, o', none⟩ v') :=
  (h.set p h1 h2 h3 hb o v).set (p.set o v) h1 h2 h3 hb o' v'
theorem Left.set4 (h : Left base S most ns w w') {b : Nat} {cs : Array Value} {U : TypeId} (p : Pt w' b cs U) (h1 : U ≠ 126) (h2 : U ≠ 123) (h3 : U ≠ 31) (hb : w.heap.size ≤ b) (o1 o2 o3 o4 : Nat) (v1 v2 v3 v4 : Value) : Left base S most ns w ((((w'.setCell ⟨b, o1, none⟩ v1).setCell ⟨b, o2, none⟩ v2).setCell ⟨b, o3, none⟩ v3).setCell ⟨b, o4, none⟩ v4) :=
  (h.set2 p h1 h2 h3 hb o1 v1 o2 v2).set2 ((p.set o1 v1).set o2 v2) h1 h2 h3 hb o3 v3 o4 v4
theorem make_l (h : St base w S ns most) (a b c d : Nat) (ha : a < 4294967296) (hb : b < 4294967296) (hc : c < 4294967296) (hd : d < 4294967296) :
    Calls Try.prog 31 #[.pointer (some ⟨S, 0, none⟩), .agg #[.int .u32 a, .int .u32 b, .int .u32 c, .int .u32 d]] w fun e w' => e = .returned (.tuple #[.int .u32 ((makeN ns most ⟨a, b, c, d⟩).1 : Nat), errV (makeN ns most ⟨a, b, c, d⟩).2.1]) ∧ Left base S most (makeN ns most ⟨a, b, c, d⟩).2.2 w w' := (make_st h a b c d ha hb hc hd).mono fun _ _ h => ⟨h.1, h.2.1, h.2.2⟩
theorem empty_l (h : St base w S ns most) (l : Int) :
    Calls Try.prog 32 #[.pointer (some ⟨S, 0, none⟩), .int .i64 l] w fun e w' => e = .returned (.tuple #[.int .u32 ((emptyN ns most l).1 : Nat), errV (emptyN ns most l).2.1]) ∧ Left base S most (emptyN ns most l).2.2 w w' := (empty_st h l).mono fun _ _ h => ⟨h.1, h.2.1, h.2.2⟩
end
end Go.Proofs.Ytjiliiclebdbfaa

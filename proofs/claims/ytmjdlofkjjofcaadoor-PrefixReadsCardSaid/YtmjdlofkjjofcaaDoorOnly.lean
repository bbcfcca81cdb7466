/- A call that writes into one old block alone; no program in sight. -/
import Derived.Test.YtmjdlofkjjofcaaDoorKit
import Derived.Test.YtmjdlofkjjofcaaDoorKitb
import Derived.Test.YtmjdlofkjjofcaaDoorBytes
namespace Go.Proofs.YtmjdlofkjjofcaaDoor
open Go.RowKit

/-- All old blocks but P are as they were. -/
structure Only (P : Nat) (w w' : World) : Prop where
  os : w'.os = w.os
  tape : w'.tape = w.tape
  output : w'.output = w.output
  size : w.heap.size ≤ w'.heap.size
  block : ∀ b, b < w.heap.size → b ≠ P → w'.heap[b]? = w.heap[b]?
section
variable {P B : Nat} {w w' w'' : World}
theorem Only.refl (P : Nat) (w : World) : Only P w w := ⟨rfl, rfl, rfl, Nat.le_refl _, fun _ _ _ => rfl⟩
theorem Only.trans (h : Only P w w') (k : Only P w' w'') : Only P w w'' :=
  ⟨k.os.trans h.os, k.tape.trans h.tape, k.output.trans h.output, Nat.le_trans h.size k.size, fun b hb hP => (k.block b (Nat.lt_of_lt_of_le hb h.size) hP).trans (h.block b hb hP)⟩
theorem Only.of (h : Below w.heap.size w w') : Only P w w' := ⟨h.os, h.tape, h.output, h.size, fun b hb _ => h.block b hb⟩
theorem Only.next (h : Only P w w') (k : Below w'.heap.size w' w'') : Only P w w'' := h.trans (.of k)
theorem Only.below (h : Only P w w') (hP : B ≤ P) (hB : B ≤ w.heap.size) : Below B w w' := ⟨h.os, h.tape, h.output, h.size, fun b hb => h.block b (by omega) (by omega)⟩
theorem Only.setCell (h : Only P w w') (o : Nat) (v : Value) : Only P w (w'.setCell ⟨P, o, none⟩ v) :=
  ⟨h.os, h.tape, h.output, by rw [World.size_setCell]; exact h.size, fun b hb hP => by
    rw [Below.heap_setCell _ _ _ _ hP]
    exact h.block b hb hP⟩
theorem Only.alloc (h : Only P w w') (O : Obj) : Only P w (w'.alloc O) := h.next ((Below.refl _ _).alloc (Nat.le_refl _) O)
theorem Only.drewN (h : Only P w w') (n : Nat) : Only P w (w'.drewN n) := ⟨h.os, h.tape, h.output, h.size, h.block⟩
theorem Only.drew (h : Only P w w') : Only P w w'.drew := ⟨h.os, h.tape, h.output, h.size, h.block⟩
theorem Pt.only {b : Nat} {cs : Array Value} {T : TypeId} (h : Pt w b cs T) (k : Only P w w') (hP : b ≠ P) : Pt w' b cs T := (k.block b h.lt hP).trans h
theorem Only.cell (k : Only P w w') {a : Addr} (hb : a.block < w.heap.size) (hP : a.block ≠ P) : w'.cell? a = w.cell? a := World.cell?_of_block (k.block _ hb hP)
/-- A callee that leaves the world alone, in a quiet region. -/
theorem quiet_mine {p : Program} {f : FuncId} {args : Array Value} {w : World} {n : Nat} {v : Value}
    (h : Calls p f args (w.drewN n) fun e w' => e = .returned v ∧ w.drewN n = w') : Calls p f args (w.drewN n) fun e w'' => e = .returned v ∧ ∃ m, w'' = w.drewN m :=
  h.mono fun _ _ h => ⟨h.1, n, h.2.symm⟩
/-- The bytes lie in another block than a block of which a cell is no byte. -/
theorem Bs.only {A : Option Addr} {l : List UInt8} {cs : Array Value} {T : TypeId} (h : Bs w w.heap.size A l) (hp : Pt w P cs T) (hcs : ∀ (i : Nat) (n : Int), cs[i]? ≠ some (Value.int .u8 n)) (k : Only P w w') : Bs w' w'.heap.size A l := by
  rcases h with h | ⟨b, o, e, hb, hc⟩
  · exact Or.inl h
  · by_cases hl : l = []
    · exact Or.inl hl
    · have hne : b ≠ P := by
        intro e
        subst e
        obtain ⟨x, t, rfl⟩ := List.exists_cons_of_ne_nil hl
        have := hc 0 x rfl
        rw [hp.cell] at this
        exact hcs _ _ this
      exact Or.inr ⟨b, o, e, Nat.lt_of_lt_of_le hb k.size, fun j u hu => (k.cell hb hne).trans (hc j u hu)⟩
end
end Go.Proofs.YtmjdlofkjjofcaaDoor

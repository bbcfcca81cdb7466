/- Slices of bytes that are read; no program in sight. -/
import Derived.Test.YtmjdlofkjjofcaaDoorKit
namespace Go.Proofs.YtmjdlofkjjofcaaDoor
open Go.RowKit

/-- The address A, below block B, holds the bytes l; without an address there are none. -/
def Bs (w : World) (B : Nat) (A : Option Addr) (l : List UInt8) : Prop :=
  l = [] ∨ ∃ b o, A = some ⟨b, o, none⟩ ∧ b < B ∧ ∀ j u, l[j]? = some u → w.cell? ⟨b, o + j, none⟩ = some (.int .u8 u.toNat)
section
variable {w w' : World} {B B' : Nat} {A : Option Addr} {l : List UInt8}
theorem Bs.nil_ : Bs w B A [] := Or.inl rfl
theorem Bs.at_ (h : Bs w B A l) {k : Nat} (hk : k < l.length) : ∃ b o, A = some ⟨b, o, none⟩ ∧ w.cell? ⟨b, o + k, none⟩ = some (.int .u8 ((l.getD k 0).toNat)) := by
  rcases h with rfl | ⟨b, o, e, _, hc⟩
  · simp at hk
  · exact ⟨b, o, e, by rw [List.getD_eq_getElem?_getD, List.getElem?_eq_getElem hk]; exact hc k _ (List.getElem?_eq_getElem hk)⟩
theorem Bs.more (h : Bs w B A l) (hB : B ≤ B') : Bs w B' A l := by
  rcases h with h | ⟨b, o, e, hb, hc⟩
  · exact Or.inl h
  · exact Or.inr ⟨b, o, e, by omega, hc⟩
theorem Bs.keep (h : Bs w B A l) (hk : ∀ p : Addr, p.block < B → w'.cell? p = w.cell? p) : Bs w' B A l := by
  rcases h with h | ⟨b, o, e, hb, hc⟩
  · exact Or.inl h
  · exact Or.inr ⟨b, o, e, hb, fun j u hu => (hk _ hb).trans (hc j u hu)⟩
theorem Bs.below (h : Bs w B A l) (hb : Below B w w') : Bs w' B A l := h.keep fun _ hp => hb.cell hp
theorem Bs.kept {Z : Nat} (h : Bs w B A l) (hb : Below Z w w') (hz : B ≤ Z) : Bs w' B A l := h.below (hb.mono hz)
/-- The first k of them. -/
theorem Bs.take (h : Bs w B A l) (k : Nat) : Bs w B A (l.take k) := by
  rcases h with h | ⟨b, o, e, hb, hc⟩
  · subst h; exact Or.inl (by simp)
  · refine Or.inr ⟨b, o, e, hb, fun j u hu => hc j u ?_⟩
    rw [List.getElem?_take] at hu
    split at hu
    · exact hu
    · cases hu
/-- Those behind the first k, as the model cuts. -/
theorem Bs.drop (h : Bs w B A l) {k cap : Nat} (hc : l.length ≤ cap) : Bs w B (if cap = k then A else A.map (·.add k)) (l.drop k) := by
  rcases h with h | ⟨b, o, e, hb, hc'⟩
  · subst h; exact Or.inl (by simp)
  · by_cases hk : l.length ≤ k
    · exact Or.inl (List.drop_eq_nil_of_le hk)
    · rw [if_neg (by omega)]
      subst e
      refine Or.inr ⟨b, o + k, by simp [Addr.add], hb, fun j u hu => ?_⟩
      rw [List.getElem?_drop] at hu
      rw [Nat.add_assoc]
      exact hc' _ u hu
end
theorem bs_at {w W : World} {A : Option Addr} {l : List UInt8} (h : Bs w w.heap.size A l) (b : Below w.heap.size w W) : Bs W W.heap.size A l := (h.below b).more b.size
theorem b_next {w W W' : World} (b : Below w.heap.size w W) (c : Below W.heap.size W W') : Below w.heap.size w W' := b.trans (c.mono b.size)
end Go.Proofs.YtmjdlofkjjofcaaDoor

/- A row of bytes of the call's own: a byte read, and written; no program in sight. -/
import Derived.Test.YtmjdlofkjjofcaaDoorApp
namespace Go.Proofs.YtmjdlofkjjofcaaDoor
open Go.RowKit
set_option linter.unusedVariables false
section
variable {w : World} {base : Nat} {e : TypeId} {A : Option Addr} {n c : Nat} {l : List UInt8}
theorem Row.block (h : Row w base e (.slice A n c) l) (hl : 0 < l.length) : ∃ g cur, A = some ⟨g, 0, none⟩ ∧ n = l.length ∧ base ≤ g ∧ n ≤ c ∧ w.heap[g]? = some (.cells cur e (0, 0)) ∧ cur.size = c ∧ cur.toList.take n = bv l := by
  obtain ⟨h1, h2⟩ := h
  rcases h2 with ⟨_, h0⟩ | ⟨g, cap, cur, hv, h3, h4, h5, h6, h7, h8⟩
  · omega
  · injection hv with e1 e2 e3
    subst e1 e2 e3
    exact ⟨g, cur, rfl, rfl, h3, h5, h4, by omega, by simpa using h8⟩
theorem Row.cell {g : Nat} (h : Row w base e (.slice (some ⟨g, 0, none⟩) n c) l) {q : Nat} (hq : q < l.length) : w.cell? ⟨g, q, none⟩ = some (.int .u8 (l.getD q 0).toNat) := by
  have := World.ownsRow.cells h (g := g) rfl q (.int .u8 (l.getD q 0).toNat) (by rw [bv_get, List.getElem?_eq_getElem hq, List.getD_eq_getElem?_getD, List.getElem?_eq_getElem hq]; rfl)
  rw [show (⟨g, 0, none⟩ : Addr).add q = ⟨g, q, none⟩ by unfold Addr.add; split <;> simp_all] at this
  exact this
theorem Row.free {g : Nat} (h : Row w base e (.slice (some ⟨g, 0, none⟩) n c) l) (q : Nat) : w.frozen? ⟨g, q, none⟩ = false := by
  rcases h.2 with ⟨hv, _⟩ | ⟨g', cap, cur, hv, h3, h4, _⟩
  · cases hv
  · injection hv with e1 e2 e3
    injection e1 with e1
    injection e1 with e1
    subst e1
    simp [World.frozen?, h4]
theorem Row.set {g : Nat} (h : Row w base e (.slice (some ⟨g, 0, none⟩) n c) l) {q : Nat} (hq : q < l.length) (m : UInt8) : Row (w.setCell ⟨g, q, none⟩ (.int .u8 m.toNat)) base e (.slice (some ⟨g, 0, none⟩) n c) (l.set q m) := by
  obtain ⟨h1, h2⟩ := h
  refine ⟨by simp [bv_len], ?_⟩
  rcases h2 with ⟨hv, _⟩ | ⟨g', cap, cur, hv, h3, h4, h5, h6, h7, h8⟩
  · cases hv
  · injection hv with e1 e2 e3
    injection e1 with e1
    injection e1 with e1
    subst e1 e2 e3
    have hs : (w.setCell ⟨g, q, none⟩ (.int .u8 m.toNat)).heap[g]? = some (.cells (cur.setIfInBounds q (.int .u8 m.toNat)) e (0, 0)) := by
      simp only [World.setCell, Array.getElem?_modify, if_true, h4, Option.map_some]
      rfl
    refine Or.inr ⟨g, c, _, by rw [List.length_set], h3, hs, by rw [List.length_set]; exact h5, h6, by simpa using h7, ?_⟩
    rw [List.length_set, Array.toList_setIfInBounds, List.take_set, h8]
    unfold bv
    rw [List.map_set]
theorem Row.len {A : Option Addr} (h : Row w base e (.slice A n c) l) : n = l.length := by
  rcases h.2 with ⟨hv, h0⟩ | ⟨g', cap, cur, hv, _⟩
  · injection hv with e1 e2 e3; omega
  · injection hv with e1 e2 e3
end
end Go.Proofs.YtmjdlofkjjofcaaDoor

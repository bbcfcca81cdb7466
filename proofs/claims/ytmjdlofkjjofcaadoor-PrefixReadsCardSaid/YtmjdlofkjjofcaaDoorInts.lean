/- Slices of whole numbers that come in; no program in sight. -/
import Derived.Test.YtmjdlofkjjofcaaDoorKit
import Derived.Test.YtmjdlofkjjofcaaDoorBytes
import Derived.OpenShut
import Derived.ChangeSlices
import Derived.SizedLaws
import Derived.ProofKit
namespace Go.Proofs.YtmjdlofkjjofcaaDoor
open Go.ChangeShapes Go.WideShapes Go.RowKit

/-- The address A, below block B, holds the numbers l of kind k; without an address there are none. -/
def Is (k : IntKind) (w : World) (B : Nat) (A : Option Addr) (l : List Int) : Prop :=
  l = [] ∨ ∃ b o, A = some ⟨b, o, none⟩ ∧ b < B ∧ ∀ j u, l[j]? = some u → w.cell? ⟨b, o + j, none⟩ = some (.int k u)
section
variable {k : IntKind} {w w' : World} {B B' : Nat} {A : Option Addr} {l : List Int}
theorem Is.at_ (h : Is k w B A l) {j : Nat} (hj : j < l.length) : ∃ b o, A = some ⟨b, o, none⟩ ∧ w.cell? ⟨b, o + j, none⟩ = some (.int k (l.getD j 0)) := by
  rcases h with rfl | ⟨b, o, e, _, hc⟩
  · simp at hj
  · exact ⟨b, o, e, by rw [List.getD_eq_getElem?_getD, List.getElem?_eq_getElem hj]; exact hc j _ (List.getElem?_eq_getElem hj)⟩
theorem Is.more (h : Is k w B A l) (hB : B ≤ B') : Is k w B' A l := by
  rcases h with h | ⟨b, o, e, hb, hc⟩
  · exact Or.inl h
  · exact Or.inr ⟨b, o, e, by omega, hc⟩
theorem Is.keep (h : Is k w B A l) (hk : ∀ p : Addr, p.block < B → w'.cell? p = w.cell? p) : Is k w' B A l := by
  rcases h with h | ⟨b, o, e, hb, hc⟩
  · exact Or.inl h
  · exact Or.inr ⟨b, o, e, hb, fun j u hu => (hk _ hb).trans (hc j u hu)⟩
theorem Is.below (h : Is k w B A l) (hb : Below B w w') : Is k w' B A l := h.keep fun _ hp => hb.cell hp
theorem Is.bs (h : Is .u8 w B A l) (m : List UInt8) (hm : l = m.map fun u => (u.toNat : Int)) : Bs w B A m := by
  subst hm
  rcases h with h | ⟨b, o, e, hb, hc⟩
  · exact Or.inl (by simpa using h)
  · refine Or.inr ⟨b, o, e, hb, fun j u hu => hc j u.toNat ?_⟩
    rw [List.getElem?_map, hu]
    rfl
end
theorem Is.new (W : World) (k : IntKind) (zs : List Int) (cs : Array Value) (T : TypeId) (hcs : cs = (zs.map (Value.int k)).toArray) : Is k (W.alloc (.cells cs T)) (W.alloc (.cells cs T)).heap.size (some ⟨W.heap.size, 0, none⟩) zs := by
  subst hcs
  refine Or.inr ⟨_, _, rfl, by simp, fun j u hu => ?_⟩
  rw [(Pt.new W _ T).cell, Nat.zero_add]
  simp [hu]
theorem slice_val {P : Program} {W : World} {base : Nat} {t e : TypeId} {v : Value} (ht : P.underlying t = some (.slice e)) (hv : Value.okWide P W .any base t v) : ∃ A n c, v = .slice A n c := by
  unfold Value.okWide Cell.okWide at hv
  rw [ht] at hv
  cases v <;> simp [Cell.ok, ht] at hv
  exact ⟨_, _, _, rfl⟩
theorem cell_lt {w : World} {a : Addr} {v : Value} (h : w.cell? a = some v) : a.block < w.heap.size := by
  unfold World.cell? at h
  split at h
  · rename_i h1
    exact (Array.getElem?_eq_some_iff.1 h1).1
  · cases h
/-- A slice of whole numbers that came in. -/
theorem open_ints_arg {H : Type} {enc : TypeId × Value → H} {P : Program} {W : World} {base : Nat} {t e : TypeId} {k : IntKind} {v : Value} {d : DataW H} {ps : List MemPlace} {ts : List TypeId} {ds : List (DataW H)} (j : Nat) (by_ : Nat)
    (ht : P.underlying t = some (.slice e)) (he : P.underlying e = some (.int k)) (hc : P.cellsOf e = 1) (hby : P.bytesOf e = by_) (hv : Value.okWide P W .any base t v) (h : DataW.Trod enc P W 0 (fun _ => true) true t v d ps)
    (hsz : (DataW.weightsEach P ts ds).all (· ≤ reachBytes) = true) (hj : ts[j]? = some t) (hd : ds[j]? = some d) :
    ∃ A c zs, v = .slice A zs.length c ∧ Is k W W.heap.size A zs ∧ (∀ n ∈ zs, (Lit.int k n).wf = true) ∧ zs.length ≤ c ∧ c * by_ ≤ 140737488351232 := by
  obtain ⟨A, n, c, rfl⟩ := slice_val ht hv
  obtain ⟨m, hm⟩ := h
  rcases open_ints ht he hc hm with ⟨h1, _⟩ | ⟨a, len, cap, zs, h1, h2, h3, h4, h5, h6, h7, h8⟩
  · simp only [Value.cells, List.cons.injEq, and_true] at h1
    injection h1 with e1 e2 e3
    subst e1 e2 e3
    exact ⟨none, 0, [], rfl, Or.inl rfl, by simp, by simp, by simp⟩
  · simp only [Value.cells, List.cons.injEq, and_true] at h1
    injection h1 with e1 e2 e3
    subst e1 e2 e3
    simp only [if_true] at h5
    injection h6 with h6 _
    subst h6
    have hl : (zs.take n).length = n := by rw [List.length_take]; omega
    refine ⟨some a, c, zs.take n, by rw [hl], ?_, fun x hx => h8 x (List.mem_of_mem_take hx), by omega, ?_⟩
    · by_cases hn : n = 0
      · exact Or.inl (by subst hn; simp)
      · have h0 := h7 0 (by omega)
        have hs := World.cell?_spot h0
        obtain ⟨b, o, s⟩ := a
        have hs0 : s = none := by
          simpa [Addr.add] using hs
        subst hs0
        have hb := cell_lt h0
        rw [add_plain] at hb
        refine Or.inr ⟨b, o, rfl, hb, fun i u hu => ?_⟩
        have hi : i < zs.length := by
          have := (List.getElem?_eq_some_iff.1 hu).1
          rw [hl] at this
          omega
        have := h7 i hi
        rw [add_plain] at this
        rw [this]
        rw [List.getElem?_take] at hu
        split at hu
        · rw [List.getD_eq_getElem?_getD, hu]; rfl
        · cases hu
    · have := sized_slice hsz hj hd ht
      rw [hby] at this
      have e : (lits k (zs.take n) : List (DataW H)).length + (lits k (zs.drop n) : List (DataW H)).length = c := by
        simp [lits]
        omega
      rw [e] at this
      exact this
/-- Whole numbers of one byte, as bytes. -/
theorem as_bytes (zs : List Int) (h : ∀ n ∈ zs, (Lit.int .u8 n).wf = true) : ∃ m : List UInt8, zs = m.map fun u => (u.toNat : Int) := by
  refine ⟨zs.map fun n => UInt8.ofNat n.toNat, ?_⟩
  rw [List.map_map]
  apply List.ext_getElem (by simp)
  intro i h1 h2
  have := h zs[i] (List.getElem_mem h1)
  have e1 : IntKind.u8.min = 0 := rfl
  have e2 : IntKind.u8.max = 255 := rfl
  simp only [Lit.wf, Bool.and_eq_true, decide_eq_true_eq] at this
  simp
  omega
theorem open_bytes_arg {H : Type} {enc : TypeId × Value → H} {P : Program} {W : World} {base : Nat} {t e : TypeId} {v : Value} {d : DataW H} {ps : List MemPlace} {ts : List TypeId} {ds : List (DataW H)} (j : Nat)
    (ht : P.underlying t = some (.slice e)) (he : P.underlying e = some (.int .u8)) (hc : P.cellsOf e = 1) (hby : P.bytesOf e = 1) (hv : Value.okWide P W .any base t v) (h : DataW.Trod enc P W 0 (fun _ => true) true t v d ps)
    (hsz : (DataW.weightsEach P ts ds).all (· ≤ reachBytes) = true) (hj : ts[j]? = some t) (hd : ds[j]? = some d) :
    ∃ A c, ∃ l : List UInt8, v = .slice A l.length c ∧ Bs W W.heap.size A l ∧ l.length ≤ c ∧ c ≤ 140737488351232 := by
  obtain ⟨A, c, zs, rfl, h1, h2, h3, h4⟩ := open_ints_arg j 1 ht he hc hby hv h hsz hj hd
  obtain ⟨m, rfl⟩ := as_bytes zs h2
  exact ⟨A, c, m, by rw [List.length_map], h1.bs m rfl, by rw [List.length_map] at h3; exact h3, by omega⟩
end Go.Proofs.YtmjdlofkjjofcaaDoor

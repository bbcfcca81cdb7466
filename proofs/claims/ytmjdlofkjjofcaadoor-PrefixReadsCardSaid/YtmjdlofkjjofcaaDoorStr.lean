/- Bytes as a string; no program in sight. -/
import Derived.Test.YtmjdlofkjjofcaaDoorKit
import Derived.Test.YtmjdlofkjjofcaaDoorKitb
import Derived.Test.YtmjdlofkjjofcaaDoorBytes
import Derived.Lib.BufferRead
namespace Go.Proofs.YtmjdlofkjjofcaaDoor
open Go.RowKit
section
variable {P : Program} {ops : Array Oper} {rest : List Oper} {o : Oper} {a : Act} {w : World} {Q : Exit → Act → World → Prop}
theorem run_str (src dst e : TypeId) (hs : P.underlying src = some (.slice e)) (he : P.underlying e = some (.int .u8)) (hd : P.underlying dst = some .string) {A : Option Addr} {n c B : Nat} {l : List UInt8} (hn : n = l.length) (h : Bs w B A l) :
    (convert src dst (.slice A n c)).run P w = .ok (.string ⟨l.toArray⟩) w := by
  subst hn
  rcases h with rfl | ⟨b, o, rfl, hb, hc⟩
  · cases A with
    | none => exact Lib.run_convert_nil_bytes w src dst e c hs he hd
    | some a => exact run_convert_bytes_back w src dst e a c [] hs he hd (fun j hj => by simp at hj)
  · refine run_convert_bytes_back w src dst e _ c l hs he hd (fun j hj => ?_)
    have := hc j l[j] (List.getElem?_eq_getElem hj)
    rw [← this]
    unfold Addr.add
    split <;> simp_all
/-- 'string(b)'. -/
theorem str_bytes (hgd : Region.wanted o (yielded ops a.tmps) = true) (x : Operand) (src dst e : TypeId) (ho : o.op = .convert src dst x) (hs : P.underlying src = some (.slice e)) (he : P.underlying e = some (.int .u8)) (hd : P.underlying dst = some .string)
    {A : Option Addr} {n c B : Nat} {l : List UInt8} (hx : a.eval x = .slice A n c) (hn : n = l.length) (h : Bs w B A l)
    (k : wpList P ops Q rest (a.put o.dst (.string ⟨l.toArray⟩)) w) : wpList P ops Q (o :: rest) a w :=
  wpList_run hgd (by unfold execOp; simp [ho, hx, run_str src dst e hs he hd hn h]) k
end
/-- The slice A holds the bytes l in W; for regions that draw their order. -/
def Holds (W : World) (A : Option Addr) (l : List UInt8) : Prop := Bs W W.heap.size A l
theorem Holds.keep {W W' : World} {A : Option Addr} {l : List UInt8} (h : Holds W A l) (b : Below W.heap.size W W') : Holds W' A l := bs_at h b
theorem Holds.alloc {W : World} {A : Option Addr} {l : List UInt8} (h : Holds W A l) (O : Obj) : Holds (W.alloc O) A l := bs_at h ((Below.refl _ _).alloc (Nat.le_refl _) O)
theorem Holds.drewN {W : World} {A : Option Addr} {l : List UInt8} (h : Holds W A l) (n : Nat) : Holds (W.drewN n) A l := bs_at h (below_dn (Below.refl _ _) n)
set_option linter.unusedVariables false
theorem conv_holds (P : Program) (src dst e : TypeId) (hs : P.underlying src = some (.slice e)) (he : P.underlying e = some (.int .u8)) (hd : P.underlying dst = some .string) (A : Option Addr) (n c : Nat) (l : List UInt8) (hn : n = l.length) :
    ∀ W, Holds W A l → (convert src dst (.slice A n c)).run P W = .ok (.string ⟨l.toArray⟩) W := fun W h => run_str src dst e hs he hd hn h
theorem conv_below (P : Program) (src dst e : TypeId) (hs : P.underlying src = some (.slice e)) (he : P.underlying e = some (.int .u8)) (hd : P.underlying dst = some .string) (A : Option Addr) (n c : Nat) (l : List UInt8) (hn : n = l.length) {w0 : World} (h : Bs w0 w0.heap.size A l) :
    ∀ W, Below w0.heap.size w0 W → (convert src dst (.slice A n c)).run P W = .ok (.string ⟨l.toArray⟩) W := fun W b => run_str src dst e hs he hd hn (bs_at h b)
section
variable (W W' : World) (v : Value) (T : TypeId) (O : Obj)
theorem cellA : (W.alloc (.cells #[v] T)).cell? ⟨W.heap.size, 0, none⟩ = some v := by rw [(Pt.new W #[v] T).cell]; rfl
theorem cellAd : (W.alloc (.cells #[v] T)).drew.cell? ⟨W.heap.size, 0, none⟩ = some v := cellA W v T
theorem cellB : ((W.alloc (.cells #[v] T)).alloc O).cell? ⟨W.heap.size, 0, none⟩ = some v := by rw [((Pt.new W #[v] T).alloc O).cell]; rfl
theorem cellBd : ((W.alloc (.cells #[v] T)).alloc O).drew.cell? ⟨W.heap.size, 0, none⟩ = some v := cellB W v T O
theorem cellC : ((W.alloc O).alloc (.cells #[v] T)).cell? ⟨W.heap.size + 1, 0, none⟩ = some v := by
  have h := (Pt.new (W.alloc O) #[v] T).cell 0
  rw [World.size_alloc] at h
  rw [h]; rfl
theorem cellCd : ((W.alloc O).alloc (.cells #[v] T)).drew.cell? ⟨W.heap.size + 1, 0, none⟩ = some v := cellC W v T O
theorem cellK {W W' : World} {v : Value} {a : Addr} (b : Below W.heap.size W W') (h : W.cell? a = some v) (hl : a.block < W.heap.size) : W'.cell? a = some v := (b.cell hl).trans h
end
end Go.Proofs.YtmjdlofkjjofcaaDoor

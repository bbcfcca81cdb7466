/- Bytes as a string; no program in sight. -/
import Derived.Test.YtmleopbelmibcaaKit
import Derived.Test.YtmleopbelmibcaaKitb
import Derived.Test.YtmleopbelmibcaaBytes
import Derived.Lib.BufferRead
namespace Go.Proofs.Ytmleopbelmibcaa
open Go.RowKit
section
variable {P : Program} {ops : Array Oper} {rest : List Oper} {o : Oper} {a : Act} {w : World} {Q : Exit → Act → World → Prop}
theorem run_str (src dst e : TypeId) (hs : P.underlying src = some (.slice e)) (he : P.underlying e = some (.int .u8)) (hd : P.underlying dst = some .string) {A : Option Addr} {n c B : Nat} {l : List UInt8} (hn : n = l.length) (h : Bs w B A l) :
    (convert src dst (.slice A n c)).run P w = .ok (.string ⟨l.toArray⟩) w := by
  subst hn
  rcases h with rfl | ⟨b, o, rfl, hb, hc⟩
  · cases A with
    | none => exact Lib.run_convert_nil_bytes w src dst e c hs he hd
    | some a => exact run_convert_bytes_back w src dst e a c [] hs he hd (fun j hj => by simp at hj)
  · refine run_convert_bytes_back w src dst e _ c l hs he hd (fun j hj => ?_)
    have := hc j l[j] (List.getElem?_eq_getElem hj)
    rw [← this]
    unfold Addr.add
    split <;> simp_all
/-- 'string(b)'. -/
theorem str_bytes (hgd : Region.wanted o (yielded ops a.tmps) = true) (x : Operand) (src dst e : TypeId) (ho : o.op = .convert src dst x) (hs : P.underlying src = some (.slice e)) (he : P.underlying e = some (.int .u8)) (hd : P.underlying dst = some .string)
    {A : Option Addr} {n c B : Nat} {l : List UInt8} (hx : a.eval x = .slice A n c) (hn : n = l.length) (h : Bs w B A l)
    (k : wpList P ops Q rest (a.put o.dst (.string ⟨l.toArray⟩)) w) : wpList P ops Q (o :: rest) a w :=
  wpList_run hgd (by unfold execOp; simp [ho, hx, run_str src dst e hs he hd hn h]) k
end
end Go.Proofs.Ytmleopbelmibcaa

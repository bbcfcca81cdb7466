/- errors.As at a number and at a fault, of errors as package fault makes them; fault.Code. -/
import Derived.Test.YtmjdlofkjjofcaaDoorProg
import Derived.Test.YtmjdlofkjjofcaaDoorKit
import Derived.Test.YtmjdlofkjjofcaaDoorOnly
import Derived.Test.YtmjdlofkjjofcaaDoorErr
import Derived.Test.YtmjdlofkjjofcaaDoorFault
import Derived.LaidEql
import Derived.Stop.Asserts
import Derived.RowKitTokens
import Derived.Deep.LoopGhost
namespace Go.Proofs.YtmjdlofkjjofcaaDoor
open Go.RowKit Go.Extern.Stop Go.Stop Go.Extern
set_option linter.unusedVariables false
set_option linter.unusedSimpArgs false

/-- package errors' own variable: the handle of the type 'error'. -/
def HT (w : World) : Prop := w.cell? ⟨0, 0, none⟩ = some (.iface 147 (.agg #[.pointer (some ⟨5, 39, none⟩)]))
theorem HT.pos {w : World} (h : HT w) : 0 < w.heap.size := by
  rcases Nat.lt_or_ge 0 w.heap.size with h0 | h0
  · exact h0
  · unfold HT at h
    simp [World.cell?, Array.getElem?_eq_none h0] at h
theorem HT.keep {w w' : World} (h : HT w) (k : Below w.heap.size w w') : HT w' := (k.cell (p := ⟨0, 0, none⟩) h.pos).trans h
theorem HT.only {w w' : World} {P : Nat} (h : HT w) (hP : P ≠ 0) (k : Only P w w') : HT w' := (k.cell (a := ⟨0, 0, none⟩) h.pos (Ne.symm hP)).trans h
theorem HT.alloc {w : World} (h : HT w) (o : Obj) : HT (w.alloc o) := h.keep ((Below.refl _ _).alloc (Nat.le_refl _) o)
abbrev hdl (t : Nat) : Value := .agg #[.pointer (some ⟨5, t, none⟩)]
theorem rlm (z : Sem Value) (f : TypeId → Addr → Nat → Nat → Sem Value) (v : Value) :
    ReflectliteValue.method z f #[v] = (do match ← ReflectliteValue.parts v with | none => z | some (t, a, fl) => f t a fl (fl % 32)) := rfl
theorem rls (v x : Value) : ReflectliteValue.set #[v, x] = (do
    let (some (dst, a, fl), some (src, b, _)) := (← ReflectliteValue.parts v, ← ReflectliteValue.parts x)
      | unsupported (.noEntry "extern/(internal/reflectlite.Value).Set.zeroValue")
    if fl / ReflectliteValue.flagAddr % 2 == 0 then unsupported (.noEntry "extern/(internal/reflectlite.Value).Set.unaddressable")
    let val ← loadVar src b
    if ← Rtype.directlyAssignable dst src then storeVar dst a val
    else if ← Rtype.implements dst src then
      if (← Rtype.kind src) == 20 then
        match val with
        | .nilIface => unsupported (.noEntry "extern/reflectlite: a nil value of one interface type handed on as a value of another")
        | _ => storeVar dst a val
      else storeVar dst a (.iface src val)
    else panicString ("reflectlite.Set: value of type " ++ (← Rtype.spelt src) ++ " is not assignable to type " ++ (← Rtype.spelt dst))
    pure (.tuple #[])) := rfl
theorem m_kind (h : Value) (w : World) : (Go.method 115 147 (.agg #[h]) "Kind").run Tryd.prog w = .ok (162, h) w := by kernel_rfl
theorem m_elem (h : Value) (w : World) : (Go.method 115 147 (.agg #[h]) "Elem").run Tryd.prog w = .ok (173, .agg #[h]) w := by kernel_rfl
theorem m_impl (h : Value) (w : World) : (Go.method 115 147 (.agg #[h]) "Implements").run Tryd.prog w = .ok (174, .agg #[h]) w := by kernel_rfl
theorem m_assign (h : Value) (w : World) : (Go.method 115 147 (.agg #[h]) "AssignableTo").run Tryd.prog w = .ok (171, .agg #[h]) w := by kernel_rfl

/-! at the target *api.Errno -/
theorem valueOf_pN (t : Addr) (w : World) : (callFunc 65 #[.iface 106 (.pointer (some t))]).run Tryd.prog w
    = .ok (.value (.agg #[.pointer (some ⟨5, 106, none⟩), .pointer (some ⟨w.heap.size, 0, none⟩), .int .u64 150])) (w.alloc (.cells #[.pointer (some t)] 106)) := by kernel_rfl
theorem type_pN (a : Addr) (w : World) : (callFunc 66 #[.agg #[.pointer (some ⟨5, 106, none⟩), .pointer (some a), .int .u64 150]]).run Tryd.prog w = .ok (.value (.iface 147 (hdl 106))) w := by kernel_rfl
theorem kind_pN (w : World) : (callFunc 162 #[.pointer (some ⟨5, 106, none⟩)]).run Tryd.prog w = .ok (.value (.int .u8 22)) w := by kernel_rfl
theorem kind_eN (w : World) : (callFunc 162 #[.pointer (some ⟨5, 49, none⟩)]).run Tryd.prog w = .ok (.value (.int .u8 2)) w := by kernel_rfl
theorem elem_pN (w : World) : (callFunc 173 #[hdl 106]).run Tryd.prog w = .ok (.value (.iface 147 (hdl 49))) w := by kernel_rfl
theorem impl_eN (w : World) : (callFunc 174 #[hdl 49, .iface 147 (hdl 39)]).run Tryd.prog w = .ok (.value (.bool true)) w := by kernel_rfl
theorem typeOf_eN (v : Value) (w : World) : (callFunc 72 #[.iface 49 v]).run Tryd.prog w = .ok (.value (.iface 147 (hdl 49))) w := by kernel_rfl
theorem assign_eN (w : World) : (callFunc 171 #[hdl 49, .iface 147 (hdl 49)]).run Tryd.prog w = .ok (.value (.bool true)) w := by kernel_rfl
theorem assign_oN (w : World) : (callFunc 171 #[hdl 52, .iface 147 (hdl 49)]).run Tryd.prog w = .ok (.value (.bool false)) w := by kernel_rfl
theorem valueOf_eN (n : Int) (w : World) : (callFunc 65 #[.iface 49 (Value.int .i64 n)]).run Tryd.prog w
    = .ok (.value (.agg #[.pointer (some ⟨5, 49, none⟩), .pointer (some ⟨w.heap.size, 0, none⟩), .int .u64 130])) (w.alloc (.cells #[Value.int .i64 n] 49)) := by kernel_rfl
theorem parts_pN (a : Addr) (w : World) : (ReflectliteValue.parts (.agg #[.pointer (some ⟨5, 106, none⟩), .pointer (some a), .int .u64 150])).run Tryd.prog w = .ok (some (106, a, 150)) w := by kernel_rfl
theorem parts_aN (a : Addr) (w : World) : (ReflectliteValue.parts (.agg #[.pointer (some ⟨5, 49, none⟩), .pointer (some a), .int .u64 386])).run Tryd.prog w = .ok (some (49, a, 386)) w := by kernel_rfl
theorem parts_eN (a : Addr) (w : World) : (ReflectliteValue.parts (.agg #[.pointer (some ⟨5, 49, none⟩), .pointer (some a), .int .u64 130])).run Tryd.prog w = .ok (some (49, a, 130)) w := by kernel_rfl
theorem elemOf_pN (w : World) : (Rtype.elem? 106).run Tryd.prog w = .ok (some 49) w := by kernel_rfl
theorem mk_eN (p : Addr) (w : World) : (ReflectliteValue.mk 49 p ReflectliteValue.flagAddr).run Tryd.prog w = .ok (.agg #[.pointer (some ⟨5, 49, none⟩), .pointer (some p), .int .u64 386]) w := by kernel_rfl
theorem direct_eN (w : World) : (Rtype.directlyAssignable 49 49).run Tryd.prog w = .ok true w := by kernel_rfl
theorem size_eN (w : World) : (sizeOf 49).run Tryd.prog w = .ok 1 w := by kernel_rfl
theorem isNil_pN (a p : Addr) (W : World) (ha : W.cell? a = some (.pointer (some p))) :
    (callFunc 67 #[.agg #[.pointer (some ⟨5, 106, none⟩), .pointer (some a), .int .u64 150]]).run Tryd.prog W = .ok (.value (.bool false)) W := by
  rw [@run_callFunc_extern Tryd.prog 67 _ (ReflectliteValue.method (ReflectliteValue.valueError "reflectlite.Value.IsNil" 0) ReflectliteValue.isNil) Tryd.func67 (by kernel_rfl) (by kernel_rfl) (by kernel_rfl) (by kernel_rfl), rlm]
  simp only [Sem.run_bind, parts_pN, Result.andThen]
  simp [ReflectliteValue.isNil, loadVar, isAgg, underlying, Tryd.underlying106, ha, Result.andThen]
theorem elemV_pN (a p : Addr) (W : World) (ha : W.cell? a = some (.pointer (some p))) :
    (callFunc 87 #[.agg #[.pointer (some ⟨5, 106, none⟩), .pointer (some a), .int .u64 150]]).run Tryd.prog W
      = .ok (.value (.agg #[.pointer (some ⟨5, 49, none⟩), .pointer (some p), .int .u64 386])) W := by
  rw [@run_callFunc_extern Tryd.prog 87 _ (ReflectliteValue.method (ReflectliteValue.valueError "reflectlite.Value.Elem" 0) ReflectliteValue.elem) Tryd.func87 (by kernel_rfl) (by kernel_rfl) (by kernel_rfl) (by kernel_rfl), rlm]
  simp only [Sem.run_bind, parts_pN, Result.andThen]
  simp [ReflectliteValue.elem, loadVar, isAgg, underlying, Tryd.underlying106, ha, Result.andThen, elemOf_pN, mk_eN]
theorem set_eN (ta b : Addr) (n : Int) (old : Value) (W : World) (hb : W.cell? b = some (Value.int .i64 n)) (ht : W.cell? ta = some old) (hf : W.frozen? ta = false) :
    (callFunc 88 #[.agg #[.pointer (some ⟨5, 49, none⟩), .pointer (some ta), .int .u64 386], .agg #[.pointer (some ⟨5, 49, none⟩), .pointer (some b), .int .u64 130]]).run Tryd.prog W
      = .ok (.value (.tuple #[])) (W.setCell ta (Value.int .i64 n)) := by
  rw [@run_callFunc_extern Tryd.prog 88 _ ReflectliteValue.set Tryd.func88 (by kernel_rfl) (by kernel_rfl) (by kernel_rfl) (by kernel_rfl), rls]
  simp only [Sem.run_bind, parts_aN, parts_eN, Result.andThen]
  simp [ReflectliteValue.flagAddr, loadVar, isAgg, underlying, Tryd.underlying49, hb, Result.andThen, direct_eN, storeVar, Value.cells, storeCells, Addr.add]
  rw [run_store Tryd.prog W ta _ _ (by rfl)]
  simp [ht, hf]
theorem ta_as_N (v : Value) (w : World) : (Instr.typeAssert (.iface 49 v) 39 151 true).run Tryd.prog w = .ok (.tuple #[.nilIface, .bool false]) w := by
  have h : (Tryd.prog.info? 49).map (fun i => (#[("As", 153)].toList.filter fun (x : String × TypeId) => !i.methods.any fun m => m.name == x.1 && m.sig == x.2).isEmpty) = some false := by kernel_rfl
  obtain ⟨i, h1, h2⟩ := Option.map_eq_some_iff.1 h
  exact assert_fails w Tryd.underlying151 h1 h2 (fun _ => by kernel_rfl)

/-! at the target **fault.Fault -/
theorem valueOf_pF (t : Addr) (w : World) : (callFunc 65 #[.iface 54 (.pointer (some t))]).run Tryd.prog w
    = .ok (.value (.agg #[.pointer (some ⟨5, 54, none⟩), .pointer (some ⟨w.heap.size, 0, none⟩), .int .u64 150])) (w.alloc (.cells #[.pointer (some t)] 54)) := by kernel_rfl
theorem type_pF (a : Addr) (w : World) : (callFunc 66 #[.agg #[.pointer (some ⟨5, 54, none⟩), .pointer (some a), .int .u64 150]]).run Tryd.prog w = .ok (.value (.iface 147 (hdl 54))) w := by kernel_rfl
theorem kind_pF (w : World) : (callFunc 162 #[.pointer (some ⟨5, 54, none⟩)]).run Tryd.prog w = .ok (.value (.int .u8 22)) w := by kernel_rfl
theorem kind_eF (w : World) : (callFunc 162 #[.pointer (some ⟨5, 52, none⟩)]).run Tryd.prog w = .ok (.value (.int .u8 22)) w := by kernel_rfl
theorem elem_pF (w : World) : (callFunc 173 #[hdl 54]).run Tryd.prog w = .ok (.value (.iface 147 (hdl 52))) w := by kernel_rfl
theorem impl_eF (w : World) : (callFunc 174 #[hdl 52, .iface 147 (hdl 39)]).run Tryd.prog w = .ok (.value (.bool true)) w := by kernel_rfl
theorem typeOf_eF (v : Value) (w : World) : (callFunc 72 #[.iface 52 v]).run Tryd.prog w = .ok (.value (.iface 147 (hdl 52))) w := by kernel_rfl
theorem assign_eF (w : World) : (callFunc 171 #[hdl 52, .iface 147 (hdl 52)]).run Tryd.prog w = .ok (.value (.bool true)) w := by kernel_rfl
theorem assign_oF (w : World) : (callFunc 171 #[hdl 49, .iface 147 (hdl 52)]).run Tryd.prog w = .ok (.value (.bool false)) w := by kernel_rfl
theorem valueOf_eF (e : Addr) (w : World) : (callFunc 65 #[.iface 52 (Value.pointer (some e))]).run Tryd.prog w
    = .ok (.value (.agg #[.pointer (some ⟨5, 52, none⟩), .pointer (some ⟨w.heap.size, 0, none⟩), .int .u64 150])) (w.alloc (.cells #[Value.pointer (some e)] 52)) := by kernel_rfl
theorem parts_pF (a : Addr) (w : World) : (ReflectliteValue.parts (.agg #[.pointer (some ⟨5, 54, none⟩), .pointer (some a), .int .u64 150])).run Tryd.prog w = .ok (some (54, a, 150)) w := by kernel_rfl
theorem parts_aF (a : Addr) (w : World) : (ReflectliteValue.parts (.agg #[.pointer (some ⟨5, 52, none⟩), .pointer (some a), .int .u64 406])).run Tryd.prog w = .ok (some (52, a, 406)) w := by kernel_rfl
theorem parts_eF (a : Addr) (w : World) : (ReflectliteValue.parts (.agg #[.pointer (some ⟨5, 52, none⟩), .pointer (some a), .int .u64 150])).run Tryd.prog w = .ok (some (52, a, 150)) w := by kernel_rfl
theorem elemOf_pF (w : World) : (Rtype.elem? 54).run Tryd.prog w = .ok (some 52) w := by kernel_rfl
theorem mk_eF (p : Addr) (w : World) : (ReflectliteValue.mk 52 p ReflectliteValue.flagAddr).run Tryd.prog w = .ok (.agg #[.pointer (some ⟨5, 52, none⟩), .pointer (some p), .int .u64 406]) w := by kernel_rfl
theorem direct_eF (w : World) : (Rtype.directlyAssignable 52 52).run Tryd.prog w = .ok true w := by kernel_rfl
theorem size_eF (w : World) : (sizeOf 52).run Tryd.prog w = .ok 1 w := by kernel_rfl
theorem isNil_pF (a p : Addr) (W : World) (ha : W.cell? a = some (.pointer (some p))) :
    (callFunc 67 #[.agg #[.pointer (some ⟨5, 54, none⟩), .pointer (some a), .int .u64 150]]).run Tryd.prog W = .ok (.value (.bool false)) W := by
  rw [@run_callFunc_extern Tryd.prog 67 _ (ReflectliteValue.method (ReflectliteValue.valueError "reflectlite.Value.IsNil" 0) ReflectliteValue.isNil) Tryd.func67 (by kernel_rfl) (by kernel_rfl) (by kernel_rfl) (by kernel_rfl), rlm]
  simp only [Sem.run_bind, parts_pF, Result.andThen]
  simp [ReflectliteValue.isNil, loadVar, isAgg, underlying, Tryd.underlying54, ha, Result.andThen]
theorem elemV_pF (a p : Addr) (W : World) (ha : W.cell? a = some (.pointer (some p))) :
    (callFunc 87 #[.agg #[.pointer (some ⟨5, 54, none⟩), .pointer (some a), .int .u64 150]]).run Tryd.prog W
      = .ok (.value (.agg #[.pointer (some ⟨5, 52, none⟩), .pointer (some p), .int .u64 406])) W := by
  rw [@run_callFunc_extern Tryd.prog 87 _ (ReflectliteValue.method (ReflectliteValue.valueError "reflectlite.Value.Elem" 0) ReflectliteValue.elem) Tryd.func87 (by kernel_rfl) (by kernel_rfl) (by kernel_rfl) (by kernel_rfl), rlm]
  simp only [Sem.run_bind, parts_pF, Result.andThen]
  simp [ReflectliteValue.elem, loadVar, isAgg, underlying, Tryd.underlying54, ha, Result.andThen, elemOf_pF, mk_eF]
theorem set_eF (ta b : Addr) (e : Addr) (old : Value) (W : World) (hb : W.cell? b = some (Value.pointer (some e))) (ht : W.cell? ta = some old) (hf : W.frozen? ta = false) :
    (callFunc 88 #[.agg #[.pointer (some ⟨5, 52, none⟩), .pointer (some ta), .int .u64 406], .agg #[.pointer (some ⟨5, 52, none⟩), .pointer (some b), .int .u64 150]]).run Tryd.prog W
      = .ok (.value (.tuple #[])) (W.setCell ta (Value.pointer (some e))) := by
  rw [@run_callFunc_extern Tryd.prog 88 _ ReflectliteValue.set Tryd.func88 (by kernel_rfl) (by kernel_rfl) (by kernel_rfl) (by kernel_rfl), rls]
  simp only [Sem.run_bind, parts_aF, parts_eF, Result.andThen]
  simp [ReflectliteValue.flagAddr, loadVar, isAgg, underlying, Tryd.underlying52, hb, Result.andThen, direct_eF, storeVar, Value.cells, storeCells, Addr.add]
  rw [run_store Tryd.prog W ta _ _ (by rfl)]
  simp [ht, hf]
theorem ta_as_F (v : Value) (w : World) : (Instr.typeAssert (.iface 52 v) 39 151 true).run Tryd.prog w = .ok (.tuple #[.nilIface, .bool false]) w := by
  have h : (Tryd.prog.info? 52).map (fun i => (#[("As", 153)].toList.filter fun (x : String × TypeId) => !i.methods.any fun m => m.name == x.1 && m.sig == x.2).isEmpty) = some false := by kernel_rfl
  obtain ⟨i, h1, h2⟩ := Option.map_eq_some_iff.1 h
  exact assert_fails w Tryd.underlying151 h1 h2 (fun _ => by kernel_rfl)
end Go.Proofs.YtmjdlofkjjofcaaDoor


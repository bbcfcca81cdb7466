/- errors.As at a number and at a fault; fault.Code. -/
import Derived.Test.YtmjdlofkjjofcaaDoorProg
import Derived.Test.YtmjdlofkjjofcaaDoorKit
import Derived.Test.YtmjdlofkjjofcaaDoorKitb
import Derived.Test.YtmjdlofkjjofcaaDoorOnly
import Derived.Test.YtmjdlofkjjofcaaDoorErr
import Derived.Test.YtmjdlofkjjofcaaDoorFault
import Derived.Test.YtmjdlofkjjofcaaDoorAs
import Derived.Test.YtmjdlofkjjofcaaDoorAsC
import Derived.Test.YtmjdlofkjjofcaaDoorAsD
import Derived.Deep.QuietTactic
import Derived.Deep.DeepCutAuto
namespace Go.Proofs.YtmjdlofkjjofcaaDoor
open Go.RowKit Go.Extern.Stop Go.Stop Go.Extern
set_option linter.unusedVariables false
set_option linter.unusedSimpArgs false

set_option maxHeartbeats 2000000 in
/-- errors.As at a fault's variable. -/
theorem as_flt (t : TypeId) (a : Value) (T : Nat) (old new : Value) (r : Bool) (w : World) (hg : HT w) (hT : Pt w T #[old] 52)
    (HS : ∀ w2, Pt w2 T #[old] 52 → Pt w2 w.heap.size #[.pointer (some ⟨T, 0, none⟩)] 54 → Calls Tryd.prog 68 #[.iface t a, .iface 54 (.pointer (some ⟨T, 0, none⟩)), .agg #[.pointer (some ⟨5, 54, none⟩), .pointer (some ⟨w.heap.size, 0, none⟩), .int .u64 150], .iface 147 (hdl 52)] w2
      fun e w' => e = .returned (.bool r) ∧ Pt w' T #[new] 52 ∧ Only T w2 w') :
    Calls Tryd.prog 27 #[.iface t a, .iface 54 (.pointer (some ⟨T, 0, none⟩))] w
      fun e w' => e = .returned (.bool r) ∧ Pt w' T #[new] 52 ∧ Only T w w' := by
  have hne : (binOp .eql 39 (.iface t a) .nilIface).run Tryd.prog w = .ok (.bool false) w := eql_iface_nil w a Tryd.underlying39
  have q1 := valueOf_pF ⟨T, 0, none⟩ w
  have q2 := type_pF
  have q3 := m_kind
  have q4 := kind_pF
  have q5 := m_elem
  have q6 := elem_pF
  have q7 := kind_eF
  have q8 := m_impl
  have q9 := impl_eF
  have qn : (binOp .eql 20 (.iface 54 (.pointer (some ⟨T, 0, none⟩))) .nilIface).run Tryd.prog w = .ok (.bool false) w := eql_iface_nil w _ Tryd.underlying20
  obtain ⟨w1, hw1⟩ : ∃ w1, w1 = w.alloc (.cells #[.pointer (some ⟨T, 0, none⟩)] 54) := ⟨_, rfl⟩
  obtain ⟨w2, hw2⟩ : ∃ w2, w2 = w1.alloc (.cells #[.pointer (some ⟨5, 54, none⟩), .pointer (some ⟨w.heap.size, 0, none⟩), .int .u64 150] 112) := ⟨_, rfl⟩
  have hb1 : Below w.heap.size w w1 := hw1 ▸ (Below.refl _ _).alloc (Nat.le_refl _) _
  have hb2 : Below w.heap.size w w2 := hw2 ▸ hb1.alloc hb1.size _
  have hV1 : Pt w1 w.heap.size #[.pointer (some ⟨T, 0, none⟩)] 54 := hw1 ▸ Pt.new _ _ _
  have hV2 : Pt w2 w.heap.size #[.pointer (some ⟨T, 0, none⟩)] 54 := hw2 ▸ hV1.alloc _
  have cB := (show Pt w2 w1.heap.size #[.pointer (some ⟨5, 54, none⟩), .pointer (some ⟨w.heap.size, 0, none⟩), .int .u64 150] 112 from hw2 ▸ Pt.new _ _ _).cell
  have hnil := isNil_pF ⟨w.heap.size, 0, none⟩ ⟨T, 0, none⟩ w2 (hV2.cell 0)
  have hgc : w2.cell? ⟨0, 0, none⟩ = some (.iface 147 (hdl 39)) := hg.keep hb2
  have HA := Lib.hid (HS w2 (hT.keep hb2) hV2)
  have HO := Lib.hid (show Only T w w2 from Only.of hb2)
  rw [← hw1] at q1
  clear hg hT hb1 hb2 hV1 hV2 HS
  have HW1 := Lib.hid hw1
  have HW2 := Lib.hid hw2
  clear hw1 hw2
  go_enter Tryd.func27, Tryd.ntmps27
  go_upto_region 6 with fail
  rw [← HW2.out]
  clear HW1 HW2 q1
  go_wp2_with ((go_at_call 68); (with_reducible refine (HA.out).mono ?_); rintro e w3 ⟨rfl, p3, o3⟩; have P3 := Lib.hid p3; have O3 := Lib.hid o3; clear p3 o3)
  go_ret
  exact ⟨rfl, P3.out, HO.out.trans O3.out⟩
/-- Of a number: it is no fault. -/
theorem as_fault_num (n : Int) (T : Nat) (old : Value) (w : World) (hg : HT w) (hT : Pt w T #[old] 52) :
    Calls Tryd.prog 27 #[.iface 49 (.int .i64 n), .iface 54 (.pointer (some ⟨T, 0, none⟩))] w
      fun e w' => e = .returned (.bool false) ∧ Pt w' T #[old] 52 ∧ Only T w w' :=
  as_flt _ _ T old old false w hg hT fun w2 h _ => eas_fn n T w.heap.size old w2 h
/-- Of a fault: this one. -/
theorem as_fault_ff (b : Addr) (T : Nat) (old : Value) (w : World) (hg : HT w) (hT : Pt w T #[old] 52) :
    Calls Tryd.prog 27 #[.iface 52 (.pointer (some b)), .iface 54 (.pointer (some ⟨T, 0, none⟩))] w
      fun e w' => e = .returned (.bool true) ∧ Pt w' T #[.pointer (some b)] 52 ∧ Only T w w' :=
  as_flt _ _ T old _ true w hg hT fun w2 h hV => eas_ff b T w.heap.size old w2 h hV
theorem as_nil (t : Value) (w : World) : Calls Tryd.prog 27 #[.nilIface, t] w fun e w' => e = .returned (.bool false) ∧ w = w' := by
  have qb := fun w => eql_nil_nil (P := Tryd.prog) w (ti := 39) Tryd.underlying39
  go_enter Tryd.func27, Tryd.ntmps27
  go_wp2_with fail
  go_ret
  exact ⟨rfl, rfl⟩
def codeE : Er → Int
  | .nil => 0
  | e => (numE e).getD 11
theorem codeE_ne {e : Er} (h : ¬ e = .nil) : codeE e = (numE e).getD 11 := by
  cases e with
  | nil => exact (h rfl).elim
  | num n => rfl
  | fault s p e => rfl
/-- fault.Code. -/
theorem code_any (e0 : Er) (v0 : Value) (w : World) (hg : HT w) (h0 : EV w e0 v0) :
    Calls Tryd.prog 25 #[v0] w fun e w' => e = .returned (.int .i64 (codeE e0)) ∧ Below w.heap.size w w' := by
  have qb := fun w => eql_nil_nil (P := Tryd.prog) w (ti := 39) Tryd.underlying39
  by_cases hnn : e0 = .nil
  · subst hnn
    cases h0
    have HB := Lib.hid (show Below w.heap.size w (w.alloc (.cells #[.int .i64 0] 49)) from (Below.refl _ _).alloc (Nat.le_refl _) _)
    go_enter Tryd.func25, Tryd.ntmps25
    go_wp2_with fail
    go_ret
    exact ⟨rfl, HB.out⟩
  · obtain ⟨t, a, rfl⟩ : ∃ t a, v0 = .iface t a := by
      rcases h0.val' with ⟨rfl, _⟩ | h
      · exact (hnn rfl).elim
      · exact h
    have qa : ∀ t a w, (binOp .eql 39 (.iface t a) .nilIface).run Tryd.prog w = .ok (.bool false) w := fun t a w => eql_iface_nil w a Tryd.underlying39
    have hc := Lib.hid (codeE_ne hnn)
    have HB := Lib.hid (show Below w.heap.size w (w.alloc (.cells #[.int .i64 0] 49)) from (Below.refl _ _).alloc (Nat.le_refl _) _)
    have HA := Lib.hid (as_num e0 _ w.heap.size 0 (w.alloc (.cells #[.int .i64 0] 49)) (hg.alloc _) (h0.keep HB.out) hnn (Pt.new _ _ _))
    clear hg h0 hnn
    cases hn : numE e0 with
    | none =>
      rw [hn] at HA hc
      clear hn
      go_enter Tryd.func25, Tryd.ntmps25
      go_wp2_with ((go_at_call 27); (with_reducible refine (HA.out).mono ?_); rintro e w3 ⟨rfl, p3, o3⟩; have P3 := Lib.hid p3; have O3 := Lib.hid o3; clear p3 o3)
      go_ret
      exact ⟨by rw [hc.out]; rfl, HB.out.trans (O3.out.below (Nat.le_refl _) HB.out.size)⟩
    | some n =>
      rw [hn] at HA hc
      clear hn
      go_enter Tryd.func25, Tryd.ntmps25
      go_wp2_with ((go_at_call 27); (with_reducible refine (HA.out).mono ?_); rintro e w3 ⟨rfl, p3, o3⟩; have P3 := Lib.hid p3; have O3 := Lib.hid o3; have cc := p3.cell 0; clear p3 o3)
      go_ret
      exact ⟨by rw [hc.out]; rfl, HB.out.trans (O3.out.below (Nat.le_refl _) HB.out.size)⟩
end Go.Proofs.YtmjdlofkjjofcaaDoor

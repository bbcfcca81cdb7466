/- errors.As at a number and at a fault; fault.Code. -/
import Derived.Test.YtmjdlofkjjofcaaDoorProg
import Derived.Test.YtmjdlofkjjofcaaDoorKit
import Derived.Test.YtmjdlofkjjofcaaDoorKitb
import Derived.Test.YtmjdlofkjjofcaaDoorOnly
import Derived.Test.YtmjdlofkjjofcaaDoorErr
import Derived.Test.YtmjdlofkjjofcaaDoorFault
import Derived.Test.YtmjdlofkjjofcaaDoorAs
import Derived.Test.YtmjdlofkjjofcaaDoorAsC
import Derived.Deep.QuietTactic
import Derived.Deep.DeepCutAuto
namespace Go.Proofs.YtmjdlofkjjofcaaDoor
open Go.RowKit Go.Extern.Stop Go.Stop Go.Extern
set_option linter.unusedVariables false
set_option linter.unusedSimpArgs false

set_option maxHeartbeats 2000000 in
/-- errors.As at a number's variable. -/
theorem as_num (e0 : Er) (v0 : Value) (T : Nat) (old : Int) (w : World) (hg : HT w) (h0 : EV w e0 v0) (hnn : ¬ e0 = .nil) (hT : Pt w T #[.int .i64 old] 49) :
    Calls Tryd.prog 27 #[v0, .iface 106 (.pointer (some ⟨T, 0, none⟩))] w
      fun e w' => e = .returned (.bool (numE e0).isSome) ∧ Pt w' T #[.int .i64 ((numE e0).getD old)] 49 ∧ Only T w w' := by
  obtain ⟨t, a, rfl⟩ : ∃ t a, v0 = .iface t a := by
    rcases h0.val' with ⟨rfl, _⟩ | h
    · exact (hnn rfl).elim
    · exact h
  have hne : (binOp .eql 39 (.iface t a) .nilIface).run Tryd.prog w = .ok (.bool false) w := eql_iface_nil w a Tryd.underlying39
  have q1 := valueOf_pN ⟨T, 0, none⟩ w
  have q2 := type_pN
  have q3 := m_kind
  have q4 := kind_pN
  have q5 := m_elem
  have q6 := elem_pN
  have q7 := kind_eN
  have q8 := m_impl
  have q9 := impl_eN
  have qn : (binOp .eql 20 (.iface 106 (.pointer (some ⟨T, 0, none⟩))) .nilIface).run Tryd.prog w = .ok (.bool false) w := eql_iface_nil w _ Tryd.underlying20
  obtain ⟨w1, hw1⟩ : ∃ w1, w1 = w.alloc (.cells #[.pointer (some ⟨T, 0, none⟩)] 106) := ⟨_, rfl⟩
  obtain ⟨w2, hw2⟩ : ∃ w2, w2 = w1.alloc (.cells #[.pointer (some ⟨5, 106, none⟩), .pointer (some ⟨w.heap.size, 0, none⟩), .int .u64 150] 112) := ⟨_, rfl⟩
  have hb1 : Below w.heap.size w w1 := hw1 ▸ (Below.refl _ _).alloc (Nat.le_refl _) _
  have hb2 : Below w.heap.size w w2 := hw2 ▸ hb1.alloc hb1.size _
  have hV1 : Pt w1 w.heap.size #[.pointer (some ⟨T, 0, none⟩)] 106 := hw1 ▸ Pt.new _ _ _
  have hV2 : Pt w2 w.heap.size #[.pointer (some ⟨T, 0, none⟩)] 106 := hw2 ▸ hV1.alloc _
  have cB := (show Pt w2 w1.heap.size #[.pointer (some ⟨5, 106, none⟩), .pointer (some ⟨w.heap.size, 0, none⟩), .int .u64 150] 112 from hw2 ▸ Pt.new _ _ _).cell
  have hnil := isNil_pN ⟨w.heap.size, 0, none⟩ ⟨T, 0, none⟩ w2 (hV2.cell 0)
  have hgc : w2.cell? ⟨0, 0, none⟩ = some (.iface 147 (hdl 39)) := hg.keep hb2
  have HA := Lib.hid (eas_num e0 _ T w.heap.size old w2 (h0.keep hb2) hnn (hT.keep hb2) hV2 (Nat.ne_of_lt hT.lt))
  have HO := Lib.hid (show Only T w w2 from Only.of hb2)
  rw [← hw1] at q1
  clear hg h0 hT hb1 hb2 hV1 hV2
  have HW1 := Lib.hid hw1
  have HW2 := Lib.hid hw2
  clear hw1 hw2
  go_enter Tryd.func27, Tryd.ntmps27
  go_upto_region 6 with fail
  rw [← HW2.out]
  clear HW1 HW2 q1
  go_wp2_with ((go_at_call 68); (with_reducible refine (HA.out).mono ?_); rintro e w3 ⟨rfl, p3, o3⟩; have P3 := Lib.hid p3; have O3 := Lib.hid o3; clear p3 o3)
  go_ret
  exact ⟨rfl, P3.out, HO.out.trans O3.out⟩
end Go.Proofs.YtmjdlofkjjofcaaDoor

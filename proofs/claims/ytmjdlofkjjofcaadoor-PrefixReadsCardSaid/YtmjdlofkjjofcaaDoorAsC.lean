/- errors.As at a number and at a fault; fault.Code. -/
import Derived.Test.YtmjdlofkjjofcaaDoorProg
import Derived.Test.YtmjdlofkjjofcaaDoorKit
import Derived.Test.YtmjdlofkjjofcaaDoorKitb
import Derived.Test.YtmjdlofkjjofcaaDoorOnly
import Derived.Test.YtmjdlofkjjofcaaDoorErr
import Derived.Test.YtmjdlofkjjofcaaDoorFault
import Derived.Test.YtmjdlofkjjofcaaDoorAs
namespace Go.Proofs.YtmjdlofkjjofcaaDoor
open Go.RowKit Go.Extern.Stop Go.Stop Go.Extern
set_option linter.unusedVariables false
set_option linter.unusedSimpArgs false

/-- The number of an error, as deep as it is. -/
def numE : Er → Option Int
  | .nil => none
  | .num n => some n
  | .fault _ _ e => numE e
theorem EV.val' {w : World} : ∀ {e : Er} {v : Value}, EV w e v → (e = .nil ∧ v = .nilIface) ∨ ∃ t a, v = .iface t a
  | .nil, _, h => .inl ⟨rfl, h⟩
  | .num _, _, h => .inr ⟨_, _, h⟩
  | .fault _ _ _, _, ⟨_, _, h, _⟩ => .inr ⟨_, _, h⟩

theorem only_set {T : Nat} {w : World} {o : Nat} {v : Value} {O O2 : Obj} : Only T w (((w.alloc O).alloc O2).setCell ⟨T, o, none⟩ v) := (((Only.refl T w).alloc O).alloc O2).setCell o v

set_option maxHeartbeats 2000000 in
/-- The loop of errors.As at a number's variable. -/
theorem eas_num (e0 : Er) (v0 : Value) (T V : Nat) (old : Int) (w : World) (h0 : EV w e0 v0) (hnn : ¬ e0 = .nil) (hT : Pt w T #[.int .i64 old] 49) (hV : Pt w V #[.pointer (some ⟨T, 0, none⟩)] 106) (hTV : T ≠ V) :
    Calls Tryd.prog 68 #[v0, .iface 106 (.pointer (some ⟨T, 0, none⟩)), .agg #[.pointer (some ⟨5, 106, none⟩), .pointer (some ⟨V, 0, none⟩), .int .u64 150], .iface 147 (hdl 49)] w
      fun e w' => e = .returned (.bool (numE e0).isSome) ∧ Pt w' T #[.int .i64 ((numE e0).getD old)] 49 ∧ Only T w w' := by
  have q1 := typeOf_eN
  have q2 := typeOf_eF
  have q3 := assign_eN
  have q4 := assign_oN
  have q5 := m_assign
  have q6 := valueOf_eN
  have q7 := fun v w => ta_as_N v w
  have q8 := fun v w => ta_as_F v w
  have q9 := ta_un_fault
  have qa : ∀ t a w, (binOp .eql 39 (.iface t a) .nilIface).run Tryd.prog w = .ok (.bool false) w := fun t a w => eql_iface_nil w a Tryd.underlying39
  have qb := fun w => eql_nil_nil (P := Tryd.prog) w (ti := 39) Tryd.underlying39
  obtain ⟨w0, hw0⟩ : ∃ w0, w0 = w.alloc (.cells #[.pointer (some ⟨5, 106, none⟩), .pointer (some ⟨V, 0, none⟩), .int .u64 150] 112) := ⟨_, rfl⟩
  have hb0 : Below w.heap.size w w0 := hw0 ▸ (Below.refl _ _).alloc (Nat.le_refl _) _
  have hBox : Pt w0 w.heap.size #[.pointer (some ⟨5, 106, none⟩), .pointer (some ⟨V, 0, none⟩), .int .u64 150] 112 := hw0 ▸ Pt.new _ _ _
  have hO0 : Only T w w0 := Only.of hb0
  have el := Lib.hid (elemV_pN ⟨V, 0, none⟩ ⟨T, 0, none⟩ w0 ((hV.keep hb0).cell 0))
  have HB := Lib.hid hBox
  have HO := Lib.hid hO0
  have HT0 := Lib.hid (hT.keep hb0)
  have HE := Lib.hid (h0.keep hb0)
  clear hBox hO0 hT hV hb0
  go_enter Tryd.func68, Tryd.ntmps68
  go_wp2_with fail
  rw [← hw0]
  clear hw0
  go_loopg [0] (depthE e0) (fun k v wr => ∃ e', k = depthE e' ∧ EV w0 e' v ∧ numE e' = numE e0 ∧ ¬ e' = .nil ∧ wr = w0)
  case atStart => exact ⟨e0, rfl, HE.out, rfl, hnn, rfl⟩
  case round =>
    obtain ⟨e', hk, hv, hi, hne, rfl⟩ := hrel
    have c1 := HB.out.cell
    have el1 := el.out
    cases e' with
    | nil => exact (hne rfl).elim
    | num m =>
      cases hv
      have hi' : numE e0 = some m := hi.symm
      have st := set_eN ⟨T, 0, none⟩ ⟨wr.heap.size, 0, none⟩ m (.int .i64 old) (wr.alloc (.cells #[.int .i64 m] 49)) ((Pt.new wr _ _).cell 0) ((HT0.out.alloc _).cell 0) ((HT0.out.alloc _).frozen 0)
      go_wp2_with fail
      go_ret
      refine ⟨ret_bool (by rw [hi']; rfl), ?_, ?_⟩
      · rw [hi']
        exact (HT0.out.alloc _).set 0 _
      · exact (HO.out.alloc _).setCell 0 _
    | fault s p e1 =>
      obtain ⟨b, v', rfl, hp, hv'⟩ := hv
      have hi' : numE e0 = numE e1 := hi.symm
      cases e1 with
      | nil =>
        cases hv'
        have hi2 : numE e0 = none := hi'
        go_wp2_with (go_at_call 31; refine (unwrap_any _ _ _ _ _ hp).mono ?_; rintro e w' ⟨rfl, rfl⟩)
        go_ret
        refine ⟨ret_bool (by rw [hi2]; rfl), ?_, HO.out⟩
        rw [hi2]
        exact HT0.out
      | num m =>
        cases hv'
        go_wp2_with (go_at_call 31; refine (unwrap_any _ _ _ _ _ hp).mono ?_; rintro e w' ⟨rfl, rfl⟩)
        go_roundg 0
        case measure => rw [hk]; simp [depthE]
        case rel => exact ⟨.num m, rfl, rfl, hi, by simp, rfl⟩
      | fault s2 p2 e2 =>
        obtain ⟨b2, v2, rfl, hp2, hv2⟩ := hv'
        go_wp2_with (go_at_call 31; refine (unwrap_any _ _ _ _ _ hp).mono ?_; rintro e w' ⟨rfl, rfl⟩)
        go_roundg (depthE e2 + 1)
        case measure => rw [hk]; simp [depthE]
        case rel => exact ⟨.fault s2 p2 e2, rfl, ⟨b2, v2, rfl, hp2, hv2⟩, hi, by simp, rfl⟩
set_option maxHeartbeats 2000000 in
theorem eas_fn (n : Int) (T V : Nat) (old : Value) (w : World) (hT : Pt w T #[old] 52) :
    Calls Tryd.prog 68 #[.iface 49 (.int .i64 n), .iface 54 (.pointer (some ⟨T, 0, none⟩)), .agg #[.pointer (some ⟨5, 54, none⟩), .pointer (some ⟨V, 0, none⟩), .int .u64 150], .iface 147 (hdl 52)] w
      fun e w' => e = .returned (.bool false) ∧ Pt w' T #[old] 52 ∧ Only T w w' := by
  have q1 := typeOf_eN
  have q4 := assign_oF
  have q5 := m_assign
  have q7 := fun v w => ta_as_N v w
  have r2 := ta_un_num
  have r3 := ta_uns_num
  obtain ⟨w0, hw0⟩ : ∃ w0, w0 = w.alloc (.cells #[.pointer (some ⟨5, 54, none⟩), .pointer (some ⟨V, 0, none⟩), .int .u64 150] 112) := ⟨_, rfl⟩
  have hb0 : Below w.heap.size w w0 := hw0 ▸ (Below.refl _ _).alloc (Nat.le_refl _) _
  have HO := Lib.hid (show Only T w w0 from Only.of hb0)
  have HT0 := Lib.hid (hT.keep hb0)
  clear hT hb0
  go_enter Tryd.func68, Tryd.ntmps68
  go_wp2_with fail
  rw [← hw0]
  clear hw0
  refine wp_loop_rounds 1 ?_
  rw [rounds_succ]
  go_wp2_with fail
  go_ret
  exact ⟨rfl, HT0.out, HO.out⟩
set_option maxHeartbeats 2000000 in
theorem eas_ff (b : Addr) (T V : Nat) (old : Value) (w : World) (hT : Pt w T #[old] 52) (hV : Pt w V #[.pointer (some ⟨T, 0, none⟩)] 54) :
    Calls Tryd.prog 68 #[.iface 52 (.pointer (some b)), .iface 54 (.pointer (some ⟨T, 0, none⟩)), .agg #[.pointer (some ⟨5, 54, none⟩), .pointer (some ⟨V, 0, none⟩), .int .u64 150], .iface 147 (hdl 52)] w
      fun e w' => e = .returned (.bool true) ∧ Pt w' T #[.pointer (some b)] 52 ∧ Only T w w' := by
  have q1 := typeOf_eF
  have q4 := assign_eF
  have q5 := m_assign
  have q6 := valueOf_eF
  obtain ⟨w0, hw0⟩ : ∃ w0, w0 = w.alloc (.cells #[.pointer (some ⟨5, 54, none⟩), .pointer (some ⟨V, 0, none⟩), .int .u64 150] 112) := ⟨_, rfl⟩
  have hb0 : Below w.heap.size w w0 := hw0 ▸ (Below.refl _ _).alloc (Nat.le_refl _) _
  have HO := Lib.hid (show Only T w w0 from Only.of hb0)
  have HT0 := Lib.hid (hT.keep hb0)
  have c1 := (show Pt w0 w.heap.size #[.pointer (some ⟨5, 54, none⟩), .pointer (some ⟨V, 0, none⟩), .int .u64 150] 112 from hw0 ▸ Pt.new _ _ _).cell
  have el1 := elemV_pF ⟨V, 0, none⟩ ⟨T, 0, none⟩ w0 ((hV.keep hb0).cell 0)
  have st := set_eF ⟨T, 0, none⟩ ⟨w0.heap.size, 0, none⟩ b old (w0.alloc (.cells #[.pointer (some b)] 52)) ((Pt.new w0 _ _).cell 0) ((HT0.out.alloc _).cell 0) ((HT0.out.alloc _).frozen 0)
  clear hT hV hb0
  go_enter Tryd.func68, Tryd.ntmps68
  go_wp2_with fail
  rw [← hw0]
  clear hw0
  refine wp_loop_rounds 1 ?_
  rw [rounds_succ]
  go_wp2_with fail
  go_ret
  exact ⟨rfl, (HT0.out.alloc _).set 0 _, (HO.out.alloc _).setCell 0 _⟩
end Go.Proofs.YtmjdlofkjjofcaaDoor

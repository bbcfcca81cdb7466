/- fault.Is at one number. -/
import Derived.Test.YtmjdlofkjjofcaaDoorProg
import Derived.Test.YtmjdlofkjjofcaaDoorKit
import Derived.Test.YtmjdlofkjjofcaaDoorErr
import Derived.Test.YtmjdlofkjjofcaaDoorFault
namespace Go.Proofs.YtmjdlofkjjofcaaDoor
open Go.RowKit

theorem is1 (e0 : Er) (v0 : Value) (n : Int) (W : World) (b : Nat) (hb : b = W.heap.size) (h0 : EV W e0 v0) (r : Bool) (hr : isB e0 [n] = r) :
    Calls Tryd.prog 37 #[v0, .slice (some ⟨b, 0, none⟩) 1 1] (W.alloc (.cells #[.int .i64 n] 49)) fun e w' => e = .returned (.bool r) ∧ (W.alloc (.cells #[.int .i64 n] 49)) = w' := by
  subst hr hb
  refine is_any e0 v0 [n] W.heap.size 1 _ (h0.keep ((Below.refl _ _).alloc (Nat.le_refl _) _)) rfl (by decide) fun i hi => ?_
  obtain rfl : i = 0 := by omega
  rw [(Pt.new W #[.int .i64 n] 49).cell]
  rfl
theorem is1_num (m n : Int) (W : World) (b : Nat) (hb : b = W.heap.size) (r : Bool) (hr : isB (.num m) [n] = r) :
    Calls Tryd.prog 37 #[.iface 49 (.int .i64 m), .slice (some ⟨b, 0, none⟩) 1 1] (W.alloc (.cells #[.int .i64 n] 49)) fun e w' => e = .returned (.bool r) ∧ (W.alloc (.cells #[.int .i64 n] 49)) = w' :=
  is1 (.num m) _ n W b hb rfl r hr
theorem is1_nil (n : Int) (W : World) (b : Nat) (hb : b = W.heap.size) (r : Bool) (hr : isB .nil [n] = r) :
    Calls Tryd.prog 37 #[.nilIface, .slice (some ⟨b, 0, none⟩) 1 1] (W.alloc (.cells #[.int .i64 n] 49)) fun e w' => e = .returned (.bool r) ∧ (W.alloc (.cells #[.int .i64 n] 49)) = w' :=
  is1 .nil _ n W b hb rfl r hr
end Go.Proofs.YtmjdlofkjjofcaaDoor

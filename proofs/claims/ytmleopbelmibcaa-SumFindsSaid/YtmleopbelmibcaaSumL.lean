/- The example of chapter 3. -/
import Derived.Test.YtmleopbelmibcaaProg
import Derived.Test.YtmleopbelmibcaaKit
import Derived.Test.YtmleopbelmibcaaBytes
import Derived.Test.YtmleopbelmibcaaSumV
import Derived.Test.YtmleopbelmibcaaSum
import Derived.Test.YtmleopbelmibcaaSumA
import Derived.Test.YtmleopbelmibcaaSumR
import Derived.KernelRfl
import Derived.Lib.SlBytesConst
import Derived.Laws.Rows
import Derived.Deep.QuietTactic
import Derived.BigQuiet
namespace Go.Proofs.Ytmleopbelmibcaa
open Go.RowKit
set_option linter.unusedVariables false
set_option linter.unusedSimpArgs false

def nine : List UInt8 := [49, 50, 51, 52, 53, 54, 55, 56, 57]
theorem nine_sum : (sumOf nine).toNat = 4236843288 := by decide +kernel
theorem no_sum : (onesV ^^^ onesV).toNat = 0 := by decide
theorem Bs.new9 (w w' : World) (T : TypeId) (fr : Nat × Nat) (h : w'.heap[w.heap.size]? = some (.cells #[.int .u8 49, .int .u8 50, .int .u8 51, .int .u8 52, .int .u8 53, .int .u8 54, .int .u8 55, .int .u8 56, .int .u8 57] T fr)) : Bs w' w'.heap.size (some ⟨w.heap.size, 0, none⟩) nine := by
  refine Or.inr ⟨_, _, rfl, (Array.getElem?_eq_some_iff.1 h).1, fun j u hu => ?_⟩
  rw [Nat.zero_add, cell_of_row w' w.heap.size j _ T fr h]
  have hj : j < 9 := by
    have := (List.getElem?_eq_some_iff.1 hu).1
    exact this
  obtain rfl | rfl | rfl | rfl | rfl | rfl | rfl | rfl | rfl : j = 0 ∨ j = 1 ∨ j = 2 ∨ j = 3 ∨ j = 4 ∨ j = 5 ∨ j = 6 ∨ j = 7 ∨ j = 8 := by omega
  all_goals (cases hu; rfl)

set_option maxRecDepth 20000 in
theorem lives3_any (w : World) : Calls Try.prog 27 #[] w fun e w' => e = .returned (.bool true) ∧ Below w.heap.size w w' := by
  have n1 := Lib.hid (show ((sumOf nine).toNat : Int) = 4236843288 from by rw [nine_sum]; rfl)
  have n2 := Lib.hid (show ((onesV ^^^ onesV).toNat : Int) = 0 from by rw [no_sum]; rfl)
  have kc := fun (w : World) (C : Array Value) (n c : Nat) => Lib.run_convert_bytes_const (P := Try.prog) w 40 5 C n c Try.underlying40 Try.underlying5
  go_enter Try.func27, Try.ntmps27
  go_wp2_with (first | (go_at_call 28; refine (of_any _ 9 nine _ (Bs.new9 w _ 5 (9, 10) (heap_alloc_new w _)) (by decide)).mono ?_; rintro e w1 ⟨rfl, b1⟩; rw [n1.out]) | (go_at_call 43; refine (new_any _).mono ?_; rintro e w2 ⟨rfl, b2⟩) | (go_at_call 48; refine (stSum_any onesV 0 _).mono ?_; rintro e w3 ⟨rfl, b3⟩; rw [n2.out]))
  go_ret
  have s0 := ((Below.refl w.heap.size w).alloc (Nat.le_refl _) (Obj.cells #[Value.int IntKind.u8 49, Value.int IntKind.u8 50, Value.int IntKind.u8 51, Value.int IntKind.u8 52, Value.int IntKind.u8 53, Value.int IntKind.u8 54, Value.int IntKind.u8 55, Value.int IntKind.u8 56, Value.int IntKind.u8 57] 5 (9, 10)))
  have s1 := s0.trans (b1.mono s0.size)
  have s2 := s1.trans (b2.mono s1.size)
  exact ⟨rfl, s2.trans (b3.mono s2.size)⟩
end Go.Proofs.Ytmleopbelmibcaa

/- The example of chapter 2; PrefixNil. -/
import Derived.Test.YtmjdlofkjjofcaaDoorProg
import Derived.Test.YtmjdlofkjjofcaaDoorKit
import Derived.Test.YtmjdlofkjjofcaaDoorKitb
import Derived.Test.YtmjdlofkjjofcaaDoorBytes
import Derived.Test.YtmjdlofkjjofcaaDoorInts
import Derived.Test.YtmjdlofkjjofcaaDoorOnly
import Derived.Test.YtmjdlofkjjofcaaDoorErr
import Derived.Test.YtmjdlofkjjofcaaDoorFault
import Derived.Test.YtmjdlofkjjofcaaDoorFaultB
import Derived.Test.YtmjdlofkjjofcaaDoorApp
import Derived.Test.YtmjdlofkjjofcaaDoorAppS
import Derived.Test.YtmjdlofkjjofcaaDoorStr
import Derived.Test.YtmjdlofkjjofcaaDoorSlices
import Derived.Test.YtmjdlofkjjofcaaDoorPrefixV
import Derived.Test.YtmjdlofkjjofcaaDoorPrefix
import Derived.Test.YtmjdlofkjjofcaaDoorReader
import Derived.Test.YtmjdlofkjjofcaaDoorReaderU
import Derived.Test.YtmjdlofkjjofcaaDoorReaderM
import Derived.Deep.QuietTactic
import Derived.BigQuiet
namespace Go.Proofs.YtmjdlofkjjofcaaDoor
open Go.RowKit
set_option linter.unusedVariables false
set_option linter.unusedSimpArgs false

theorem lives2_put (W : World) : Calls Tryd.prog 50 #[.slice none 0 0, .slice (some ⟨W.heap.size, 0, none⟩) 2 2] (W.alloc (.cells #[.int .u64 127, .int .u64 128] 31)) (RetBs (W.alloc (.cells #[.int .u64 127, .int .u64 128] 31)) [127, 128, 128]) :=
  put_n none (some ⟨W.heap.size, 0, none⟩) 0 0 2 2 [] [127, 128] [127, 128, 128] (by decide +kernel) rfl rfl _ (Or.inl rfl) (Is.new W .u64 [127, 128] _ _ rfl) (by decide) (by decide) (by decide)
theorem lives2_five (P : Nat) (w : World) (h : Rd w P [5] 0 .nil) : Calls Tryd.prog 10 #[.pointer (some ⟨P, 0, none⟩)] w fun e w' => e = .returned (.int .u64 5) ∧ Only P w w' :=
  (uint_any P [5] 0 w h (by decide)).mono fun e w' ⟨h1, _, h3⟩ => ⟨h1, h3⟩
theorem lives2_read (W : World) : Calls Tryd.prog 9 #[.slice (some ⟨W.heap.size, 0, none⟩) 1 1] (W.alloc (.cells #[.int .u8 5] 5)) fun e w' => (∃ P, e = .returned (.pointer (some ⟨P, 0, none⟩)) ∧ Rd w' P [5] 0 .nil ∧ (W.alloc (.cells #[.int .u8 5] 5)).heap.size ≤ P) ∧ Below (W.alloc (.cells #[.int .u8 5] 5)).heap.size (W.alloc (.cells #[.int .u8 5] 5)) w' :=
  read_any _ 1 1 [5] rfl _ ((Bs.one W 5 _).more (by simp)) (by decide)
set_option maxRecDepth 20000 in
theorem lives2_any (w : World) : Calls Tryd.prog 8 #[] w fun e w' => e = .returned (.bool true) ∧ Below w.heap.size w w' := by
  have HB0 := Below.refl w.heap.size w
  go_enter Tryd.func8, Tryd.ntmps8
  go_wp2_with (first | ((go_at_call 50); (with_reducible refine (lives2_put _).mono ?_); rintro e w1 ⟨A1, c1, rfl, s1, _, _, b1⟩; have S1 := Lib.hid s1; have HB1 := ((Below.refl w.heap.size w).alloc (Nat.le_refl _) _).trans (b1.mono (by simp)); clear s1 b1) | ((with_reducible refine at_dst (N := 3) rfl ?_); refine str_bytes rfl (.tmp 2) _ _ 5 rfl Tryd.underlying22 Tryd.underlying5 Tryd.underlying9 rfl rfl S1.out ?_) | ((go_at_call 51); (with_reducible refine (fold_n (-1) 1 rfl (by decide) _).mono ?_); rintro e w' ⟨rfl, rfl⟩) | ((go_at_call 9); (with_reducible refine (lives2_read _).mono ?_); rintro e w2 ⟨⟨P2, rfl, r2, z2⟩, b2⟩; have R2 := Lib.hid r2; have B2 := Lib.hid ((HB1.alloc HB1.size _).trans (b2.mono (Nat.le_trans HB1.size (by simp)))); have Z2 := Lib.hid (Nat.le_trans HB1.size (Nat.le_trans (by simp) z2)); clear r2 b2 z2) | ((go_at_call 10); (with_reducible refine (lives2_five _ _ R2.out).mono ?_); rintro e w3 ⟨rfl, o3⟩))
  go_ret
  exact ⟨rfl, B2.out.trans (o3.below Z2.out B2.out.size)⟩

end Go.Proofs.YtmjdlofkjjofcaaDoor

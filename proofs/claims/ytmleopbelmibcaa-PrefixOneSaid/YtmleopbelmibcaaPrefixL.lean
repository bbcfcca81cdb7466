/- The example of chapter 2; PrefixNil. -/
import Derived.Test.YtmleopbelmibcaaProg
import Derived.Test.YtmleopbelmibcaaKit
import Derived.Test.YtmleopbelmibcaaKitb
import Derived.Test.YtmleopbelmibcaaBytes
import Derived.Test.YtmleopbelmibcaaInts
import Derived.Test.YtmleopbelmibcaaOnly
import Derived.Test.YtmleopbelmibcaaErr
import Derived.Test.YtmleopbelmibcaaFault
import Derived.Test.YtmleopbelmibcaaFaultB
import Derived.Test.YtmleopbelmibcaaApp
import Derived.Test.YtmleopbelmibcaaAppS
import Derived.Test.YtmleopbelmibcaaStr
import Derived.Test.YtmleopbelmibcaaSlices
import Derived.Test.YtmleopbelmibcaaPrefixV
import Derived.Test.YtmleopbelmibcaaPrefix
import Derived.Test.YtmleopbelmibcaaReader
import Derived.Test.YtmleopbelmibcaaReaderU
import Derived.Test.YtmleopbelmibcaaReaderM
import Derived.Deep.QuietTactic
import Derived.BigQuiet
namespace Go.Proofs.Ytmleopbelmibcaa
open Go.RowKit
set_option linter.unusedVariables false
set_option linter.unusedSimpArgs false

theorem lives2_put (W : World) : Calls Try.prog 54 #[.slice none 0 0, .slice (some ⟨W.heap.size, 0, none⟩) 2 2] (W.alloc (.cells #[.int .u64 127, .int .u64 128] 72)) (RetBs (W.alloc (.cells #[.int .u64 127, .int .u64 128] 72)) [127, 128, 128]) :=
  put_n none (some ⟨W.heap.size, 0, none⟩) 0 0 2 2 [] [127, 128] [127, 128, 128] (by decide +kernel) rfl rfl _ (Or.inl rfl) (Is.new W .u64 [127, 128] _ _ rfl) (by decide) (by decide) (by decide)
theorem lives2_five (P : Nat) (w : World) (h : Rd w P [5] 0 .nil) : Calls Try.prog 52 #[.pointer (some ⟨P, 0, none⟩)] w fun e w' => e = .returned (.int .u64 5) ∧ Only P w w' :=
  (uint_any P [5] 0 w h (by decide)).mono fun e w' ⟨h1, _, h3⟩ => ⟨h1, h3⟩
theorem lives2_read (W : World) : Calls Try.prog 51 #[.slice (some ⟨W.heap.size, 0, none⟩) 1 1] (W.alloc (.cells #[.int .u8 5] 5)) fun e w' => (∃ P, e = .returned (.pointer (some ⟨P, 0, none⟩)) ∧ Rd w' P [5] 0 .nil ∧ (W.alloc (.cells #[.int .u8 5] 5)).heap.size ≤ P) ∧ Below (W.alloc (.cells #[.int .u8 5] 5)).heap.size (W.alloc (.cells #[.int .u8 5] 5)) w' :=
  read_any _ 1 1 [5] rfl _ ((Bs.one W 5 _).more (by simp)) (by decide)
set_option maxRecDepth 20000 in
theorem lives2_any (w : World) : Calls Try.prog 50 #[] w fun e w' => e = .returned (.bool true) ∧ Below w.heap.size w w' := by
  have HB0 := Below.refl w.heap.size w
  go_enter Try.func50, Try.ntmps50
  go_wp2_with (first | ((go_at_call 54); (with_reducible refine (lives2_put _).mono ?_); rintro e w1 ⟨A1, c1, rfl, s1, _, _, b1⟩; have S1 := Lib.hid s1; have HB1 := ((Below.refl w.heap.size w).alloc (Nat.le_refl _) _).trans (b1.mono (by simp)); clear s1 b1) | ((with_reducible refine at_dst (N := 3) rfl ?_); refine str_bytes rfl (.tmp 2) _ _ 5 rfl Try.underlying40 Try.underlying5 Try.underlying9 rfl rfl S1.out ?_) | ((go_at_call 57); (with_reducible refine (fold_n (-1) 1 rfl (by decide) _).mono ?_); rintro e w' ⟨rfl, rfl⟩) | ((go_at_call 51); (with_reducible refine (lives2_read _).mono ?_); rintro e w2 ⟨⟨P2, rfl, r2, z2⟩, b2⟩; have R2 := Lib.hid r2; have B2 := Lib.hid ((HB1.alloc HB1.size _).trans (b2.mono (Nat.le_trans HB1.size (by simp)))); have Z2 := Lib.hid (Nat.le_trans HB1.size (Nat.le_trans (by simp) z2)); clear r2 b2 z2) | ((go_at_call 52); (with_reducible refine (lives2_five _ _ R2.out).mono ?_); rintro e w3 ⟨rfl, o3⟩))
  go_ret
  exact ⟨rfl, B2.out.trans (o3.below Z2.out B2.out.size)⟩

set_option maxRecDepth 20000 in
theorem prefixNil_walk (n : Int) (_h : (Lit.int .i64 n).wf = true) (w : World) : Calls Try.prog 13 #[.int .i64 n] w fun e w' => e = .returned (.bool true) ∧ Below w.heap.size w w' := by
  have I1 := Lib.hid fun W b hb => is1_num 1 1 W b hb true rfl
  go_enter Try.func13, Try.ntmps13
  go_wp2_with (first | ((go_at_call 50); (with_reducible refine (lives2_any _).mono ?_); rintro e w1 ⟨rfl, b1⟩) | ((go_at_call 52); (with_reducible refine (uint_nil _).mono ?_); rintro e w' ⟨rfl, rfl⟩) | ((go_at_call 62); (with_reducible refine (int_nil _).mono ?_); rintro e w' ⟨rfl, rfl⟩) | ((go_at_call 64); (with_reducible refine (upto_nil _ _).mono ?_); rintro e w' ⟨rfl, rfl⟩) | ((go_at_call 65); (with_reducible refine (bytes_nil _ _).mono ?_); rintro e w' ⟨rfl, rfl⟩) | ((go_at_call 55); (with_reducible refine (left_nil _).mono ?_); rintro e w' ⟨rfl, rfl⟩) | ((go_at_call 53); (with_reducible refine (err_nil _).mono ?_); rintro e w' ⟨rfl, rfl⟩) | ((go_at_call 63); (with_reducible refine (end_nil _).mono ?_); rintro e w' ⟨rfl, rfl⟩) | ((go_at_call 42); (with_reducible refine (I1.out _ _ (by simp)).mono ?_); rintro e w' ⟨rfl, rfl⟩))
  go_ret
  exact ⟨rfl, (b1.alloc b1.size _).alloc (Nat.le_trans b1.size (by simp)) _⟩
end Go.Proofs.Ytmleopbelmibcaa

/- The statements of tiles: the chapter's example. -/
import Derived.Test.YtmjdlofkjjofcaaProg
import Derived.Test.YtmjdlofkjjofcaaKit
import Derived.Test.YtmjdlofkjjofcaaKitb
import Derived.Test.YtmjdlofkjjofcaaBytes
import Derived.Test.YtmjdlofkjjofcaaOnly
import Derived.Test.YtmjdlofkjjofcaaFault
import Derived.Test.YtmjdlofkjjofcaaStr
import Derived.Test.YtmjdlofkjjofcaaPrefixV
import Derived.Test.YtmjdlofkjjofcaaReader
import Derived.Test.YtmjdlofkjjofcaaReaderM
import Derived.Test.YtmjdlofkjjofcaaRdMore
import Derived.Test.YtmjdlofkjjofcaaTileV
import Derived.Test.YtmjdlofkjjofcaaTile
import Derived.Test.YtmjdlofkjjofcaaTileP
import Derived.Test.YtmjdlofkjjofcaaTileG
import Derived.Deep.QuietTactic
import Derived.BigQuiet
namespace Go.Proofs.Ytmjdlofkjjofcaa
open Go.RowKit
set_option linter.unusedVariables false
set_option linter.unusedSimpArgs false

abbrev rowsL : List Nat := [0, 5, 5, 5, 5, 5, 5, 5, 5, 5, 5, 5, 5, 5, 5, 5]
theorem z_lit : cellsT zeroT = #[Value.int .u16 0, Value.int .u16 0, Value.int .u16 0, Value.int .u16 0, Value.int .u16 0, Value.int .u16 0, Value.int .u16 0, Value.int .u16 0, Value.int .u16 0, Value.int .u16 0, Value.int .u16 0, Value.int .u16 0, Value.int .u16 0, Value.int .u16 0, Value.int .u16 0, Value.int .u16 0] := rfl
theorem l_lit : cellsT rowsL = #[Value.int .u16 0, Value.int .u16 5, Value.int .u16 5, Value.int .u16 5, Value.int .u16 5, Value.int .u16 5, Value.int .u16 5, Value.int .u16 5, Value.int .u16 5, Value.int .u16 5, Value.int .u16 5, Value.int .u16 5, Value.int .u16 5, Value.int .u16 5, Value.int .u16 5, Value.int .u16 5] := rfl
theorem get_l : getT [4, 21, 56] 16 0 [] 0 true = .ok rowsL 3 := by kernel_rfl
theorem put_l : ([9] : List UInt8) ++ encT (numsT 0 0 zeroT) = [9, 64] := by kernel_rfl
theorem bs_three (W : World) (a b c : UInt8) (T : TypeId) : Bs (W.alloc (.cells #[.int .u8 a.toNat, .int .u8 b.toNat, .int .u8 c.toNat] T)) (W.alloc (.cells #[.int .u8 a.toNat, .int .u8 b.toNat, .int .u8 c.toNat] T)).heap.size (some ⟨W.heap.size, 0, none⟩) [a, b, c] := by
  refine Or.inr ⟨W.heap.size, 0, rfl, by simp, fun j u hu => ?_⟩
  rw [(Pt.new W _ T).cell]
  match j, hu with
  | 0, hu => simp at hu; subst hu; rfl
  | 1, hu => simp at hu; subst hu; rfl
  | 2, hu => simp at hu; subst hu; rfl
  | j + 3, hu => simp at hu
set_option maxHeartbeats 4000000 in
set_option maxRecDepth 20000 in
theorem lives15_any (w : World) : Calls Try.prog 49 #[] w fun e w' => e = .returned (.bool true) ∧ Below w.heap.size w w' := by
  have HB0 := Lib.hid ((Below.refl w.heap.size w).alloc (Nat.le_refl _) (.cells #[.int .u8 4, .int .u8 21, .int .u8 56] 5))
  have HRd := Lib.hid (read_any (some ⟨w.heap.size, 0, none⟩) 3 3 [4, 21, 56] rfl (w.alloc (.cells #[.int .u8 4, .int .u8 21, .int .u8 56] 5)) (bs_three w 4 21 56 5) (by decide))
  have HG := Lib.hid fun (W : World) (P : Nat) (r : Rd W P [4, 21, 56] 0 .nil) => (by
    have := tget_any P [4, 21, 56] 0 W r (by decide)
    rw [get_l] at this
    unfold GotT at this
    simp only [l_lit] at this
    exact this : Calls Try.prog 52 #[.pointer (some ⟨P, 0, none⟩)] W fun e w' => Only P W w' ∧ e = .returned (.tuple #[.agg #[Value.int .u16 0, Value.int .u16 5, Value.int .u16 5, Value.int .u16 5, Value.int .u16 5, Value.int .u16 5, Value.int .u16 5, Value.int .u16 5, Value.int .u16 5, Value.int .u16 5, Value.int .u16 5, Value.int .u16 5, Value.int .u16 5, Value.int .u16 5, Value.int .u16 5, Value.int .u16 5], .nilIface]) ∧ Rd w' P [4, 21, 56] 3 .nil)
  have HP := Lib.hid fun (W : World) (b : Nat) (hb : b = W.heap.size) => (by
    subst hb
    have := tput_any (some ⟨W.heap.size, 0, none⟩) 1 1 [9] zeroT rfl (by decide) rfl (W.alloc (.cells #[.int .u8 9] 5)) (by have := Bs.one W 9 5; simpa using this) (by omega) (by decide)
    rw [put_l, z_lit] at this
    exact this : Calls Try.prog 51 #[.slice (some ⟨b, 0, none⟩) 1 1, .agg #[Value.int .u16 0, Value.int .u16 0, Value.int .u16 0, Value.int .u16 0, Value.int .u16 0, Value.int .u16 0, Value.int .u16 0, Value.int .u16 0, Value.int .u16 0, Value.int .u16 0, Value.int .u16 0, Value.int .u16 0, Value.int .u16 0, Value.int .u16 0, Value.int .u16 0, Value.int .u16 0]] (W.alloc (.cells #[.int .u8 9] 5)) (RetBs (W.alloc (.cells #[.int .u8 9] 5)) [9, 64]))
  have q0 := fun w => eql_nil_nil (P := Try.prog) w (ti := 66) Try.underlying66
  go_enter Try.func49, Try.ntmps49
  go_wp2_with (first | ((go_at_call 44); (with_reducible refine (HRd.out).mono ?_); rintro e w1 ⟨⟨P, rfl, r1, z1⟩, b1⟩; have B1 := Lib.hid (HB0.out.trans (b1.mono HB0.out.size)); have R1 := Lib.hid r1; have Z1 := Lib.hid z1; clear r1 z1 b1) | ((go_at_call 52); (with_reducible refine (HG.out _ P R1.out).mono ?_); rintro e w2 ⟨o2, rfl, r2⟩; have B2 := Lib.hid (B1.out.trans (o2.below (Nat.le_trans HB0.out.size Z1.out) B1.out.size)); clear r2 o2) | ((go_at_call 51); (with_reducible refine (HP.out _ _ (by simp only [World.size_alloc])).mono ?_); rintro e w3 ⟨A3, c3, rfl, s3, _, _, b3⟩; have S3 := Lib.hid s3; have cc := (((Pt.new w2 #[Value.int .u16 0, Value.int .u16 5, Value.int .u16 5, Value.int .u16 5, Value.int .u16 5, Value.int .u16 5, Value.int .u16 5, Value.int .u16 5, Value.int .u16 5, Value.int .u16 5, Value.int .u16 5, Value.int .u16 5, Value.int .u16 5, Value.int .u16 5, Value.int .u16 5, Value.int .u16 5] 71).alloc _).keep b3).cell; have B3 := Lib.hid (B2.out.trans ((((Below.refl _ w2).alloc (Nat.le_refl _) (.cells #[Value.int .u16 0, Value.int .u16 5, Value.int .u16 5, Value.int .u16 5, Value.int .u16 5, Value.int .u16 5, Value.int .u16 5, Value.int .u16 5, Value.int .u16 5, Value.int .u16 5, Value.int .u16 5, Value.int .u16 5, Value.int .u16 5, Value.int .u16 5, Value.int .u16 5, Value.int .u16 5] 71)).trans (below_of_alloc b3 |>.mono (by simp only [World.size_alloc]; omega))).mono B2.out.size)); clear s3 b3) | ((with_reducible refine at_dst (N := 12) rfl ?_); refine str_bytes rfl (.tmp 11) _ _ 5 rfl Try.underlying39 Try.underlying5 Try.underlying9 rfl rfl S3.out ?_))
  go_ret
  exact ⟨rfl, B3.out⟩
end Go.Proofs.Ytmjdlofkjjofcaa

/- The reference's row of a tile. -/
import Derived.Test.YtmjdlofkjjofcaaProg
import Derived.Test.YtmjdlofkjjofcaaKit
import Derived.Test.YtmjdlofkjjofcaaKitb
import Derived.Test.YtmjdlofkjjofcaaTileV
import Derived.Test.YtmjdlofkjjofcaaTile
import Derived.Laws.BitsAllLaws
import Derived.Deep.LoopGhost
namespace Go.Proofs.Ytmjdlofkjjofcaa
open Go.RowKit
set_option linter.unusedVariables false
set_option linter.unusedSimpArgs false

theorem rbits_any (n : Nat) (hn : n < 65536) (w : World) :
    Calls Try.prog 117 #[.int .u16 n] w fun e w' => e = .returned (.int .i64 (Lib.bitLen n)) ∧ w = w' := by
  have HN := Lib.hid hn
  clear hn
  go_enter Try.func117, Try.ntmps117
  go_wp2_with fail
  go_loopg [0, 3] n (fun gk v0 v3 wr => ∃ k : Nat, v0 = .int .u16 gk ∧ v3 = .int .i64 k ∧ Hid (gk < 65536 ∧ k + gk ≤ 65536 ∧ Lib.bitLen n = k + Lib.bitLen gk) ∧ wr = w)
  case atStart => exact ⟨0, rfl, rfl, Lib.hid ⟨HN.out, by have := HN.out; omega, by omega⟩, rfl⟩
  case round =>
    obtain ⟨k, rfl, rfl, hg, rfl⟩ := hrel
    by_cases h0 : gk = 0
    · subst h0
      have HE := Lib.hid (show Lib.bitLen n = k by rw [hg.out.2.2]; simp [Lib.bitLen, Lib.bitLenAux])
      go_wp2_with fail
      go_ret
      exact ⟨by rw [HE.out]; rfl, rfl⟩
    · have i1 : (0 : Int) < (gk : Int) := by omega
      have hw := Lib.hid (show wrap64 ((k : Int) + 1) = ((k + 1 : Nat) : Int) by have := hg.out; rw [w64 (by omega) (by omega)]; rfl)
      have HE := Lib.hid (show gk / 2 < 65536 ∧ k + 1 + gk / 2 ≤ 65536 ∧ Lib.bitLen n = k + 1 + Lib.bitLen (gk / 2) by
        have h1 := hg.out
        have h2 := Lib.bitLen_half gk h0 (by omega)
        refine ⟨by omega, by omega, by omega⟩)
      have HM := Lib.hid (show gk / 2 < gk by omega)
      have hd := Lib.hid (show IntKind.u16.wrap ((gk : Int) / 2) = ((gk / 2 : Nat) : Int) by rw [show IntKind.u16.wrap ((gk : Int) / 2) = ((gk : Int) / 2) % 65536 by first | rfl | simp [IntKind.wrap]]; have := hg.out; omega)
      clear h0
      go_wp2_with fail
      go_roundg (gk / 2)
      case measure => exact HM.out
      case rel => exact ⟨k + 1, by first | rfl | rw [hd.out], by first | rfl | rw [hw.out], HE, rfl⟩
theorem row_any (v last : Nat) (hv : v < 65536) (hl : last < 65536) (w : World) :
    Calls Try.prog 107 #[.int .u16 v, .int .u16 last] w fun e w' => e = .returned (.int .u64 (rowN v last)) ∧ w = w' := by
  have hx := u16_xor_nat v last hv hl
  have hx16 := xor_lt16 hv hl
  have L1 := Lib.hid fun w => rbits_any (v ^^^ last) hx16 w
  have L2 := Lib.hid fun w => rbits_any v hv w
  have hw1 : IntKind.u64.wrap (v : Int) = v := by rw [show IntKind.u64.wrap (v : Int) = (v : Int) % 18446744073709551616 by first | rfl | simp [IntKind.wrap]]; omega
  have hw2 : IntKind.u64.wrap ((v ^^^ last : Nat) : Int) = ((v ^^^ last : Nat) : Int) := by rw [show IntKind.u64.wrap ((v ^^^ last : Nat) : Int) = ((v ^^^ last : Nat) : Int) % 18446744073709551616 by first | rfl | simp [IntKind.wrap]]; omega
  have hr : rowN v last = if Lib.bitLen (v ^^^ last) < Lib.bitLen v then 4 * (v ^^^ last) + 2 else 4 * v + 1 := rfl
  have u64x : ∀ x : Int, IntKind.u64.wrap x = x % 18446744073709551616 := fun x => by first | rfl | simp [IntKind.wrap]
  have m1 : IntKind.u64.wrap (4 * (v : Int)) = ((4 * v : Nat) : Int) := by rw [u64x]; omega
  have m2 : IntKind.u64.wrap (4 * ((v ^^^ last : Nat) : Int)) = ((4 * (v ^^^ last) : Nat) : Int) := by rw [u64x]; omega
  have a1 := Lib.hid (show IntKind.u64.wrap (((4 * v : Nat) : Int) + 1) = ((4 * v + 1 : Nat) : Int) by rw [u64x]; omega)
  have a2 := Lib.hid (show IntKind.u64.wrap (((4 * (v ^^^ last) : Nat) : Int) + 2) = ((4 * (v ^^^ last) + 2 : Nat) : Int) by rw [u64x]; omega)
  clear u64x
  have M1 := Lib.hid m1
  have M2 := Lib.hid m2
  clear m1 m2
  generalize rowN v last = R at *
  generalize v ^^^ last = d at *
  generalize Lib.bitLen d = D at *
  generalize Lib.bitLen v = V at *
  by_cases hD : D < V
  · have i1 : (D : Int) < (V : Int) := by omega
    rw [if_pos hD] at hr
    have HR := Lib.hid hr
    clear hD hr hv hl hx16
    go_enter Try.func107, Try.ntmps107
    go_wp2_with (first | ((go_at_call 117); (with_reducible refine (L1.out _).mono ?_); rintro e w' ⟨rfl, rfl⟩) | ((go_at_call 117); (with_reducible refine (L2.out _).mono ?_); rintro e w' ⟨rfl, rfl⟩))
    go_ret
    exact ⟨ret_int (by rw [M2.out, a2.out, HR.out]), rfl⟩
  · have i1 : ¬ (D : Int) < (V : Int) := by omega
    rw [if_neg hD] at hr
    have HR := Lib.hid hr
    clear hD hr hv hl hx16
    go_enter Try.func107, Try.ntmps107
    go_wp2_with (first | ((go_at_call 117); (with_reducible refine (L1.out _).mono ?_); rintro e w' ⟨rfl, rfl⟩) | ((go_at_call 117); (with_reducible refine (L2.out _).mono ?_); rintro e w' ⟨rfl, rfl⟩))
    go_ret
    exact ⟨ret_int (by rw [M1.out, a1.out, HR.out]), rfl⟩
end Go.Proofs.Ytmjdlofkjjofcaa

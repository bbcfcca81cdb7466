/- The reference's size of a number; what was folded. -/
import Derived.Test.YtmjdlofkjjofcaaDoorProg
import Derived.Test.YtmjdlofkjjofcaaDoorKit
import Derived.Test.YtmjdlofkjjofcaaDoorKitb
import Derived.Test.YtmjdlofkjjofcaaDoorBytes
import Derived.Test.YtmjdlofkjjofcaaDoorPrefixV
import Derived.Test.YtmjdlofkjjofcaaDoorPrefix
import Derived.Test.YtmjdlofkjjofcaaDoorReaderM
import Derived.Deep.QuietTactic
import Derived.BigQuiet
namespace Go.Proofs.YtmjdlofkjjofcaaDoor
open Go.RowKit
set_option linter.unusedVariables false
set_option linter.unusedSimpArgs false

theorem size_low (n j : Nat) (h1 : 1 ≤ j) (h9 : j < 9) (hlo : j = 1 ∨ 128 ^ (j - 1) ≤ n) (hhi : n < 128 ^ j) : sizeU n = j := by
  have cs : j = 1 ∨ j = 2 ∨ j = 3 ∨ j = 4 ∨ j = 5 ∨ j = 6 ∨ j = 7 ∨ j = 8 := by omega
  unfold sizeU
  rcases cs with rfl | rfl | rfl | rfl | rfl | rfl | rfl | rfl <;> (simp only [Nat.reducePow, Nat.reduceSub] at hlo hhi) <;> (repeat' split) <;> omega
theorem size_top (n : Nat) (hlo : 128 ^ 8 ≤ n) : sizeU n = 9 := by
  simp only [Nat.reducePow] at hlo
  unfold sizeU
  (repeat' split) <;> omega
theorem pow_le (j : Nat) (h9 : j < 9) : 128 ^ j * 128 = 128 ^ (j + 1) ∧ 128 ^ (j + 1) ≤ 9223372036854775808 := by
  refine ⟨(Nat.pow_succ ..).symm, ?_⟩
  exact Nat.le_trans (Nat.pow_le_pow_right (by omega) (show j + 1 ≤ 9 by omega)) (by decide)
theorem refSize_any (n : Nat) (hn : n < 18446744073709551616) (w : World) :
    Calls Tryd.prog 60 #[.int .u64 n] w fun e w' => e = .returned (.int .i64 (sizeU n)) ∧ w = w' := by
  have HN := Lib.hid hn
  clear hn
  go_enter Tryd.func60, Tryd.ntmps60
  go_wp2_with fail
  go_loop [3, 4] (fun k m => ∃ j M : Nat, 1 ≤ j ∧ j ≤ 9 ∧ k = .int .i64 j ∧ m = .int .u64 M ∧ Hid (M = 128 ^ j) ∧ Hid (j = 1 ∨ 128 ^ (j - 1) ≤ n)) (fun k _ => 9 - (intOf k).toNat)
  case atStart => exact ⟨1, 128, by omega, by omega, rfl, rfl, Lib.hid rfl, Lib.hid (Or.inl rfl)⟩
  case round =>
    obtain ⟨j, M, h1, h9, rfl, rfl, hM, hlo⟩ := hrel
    by_cases h8 : j < 9
    · by_cases hge : M ≤ n
      · have hw : IntKind.u64.wrap ((M : Int) * 128) = ((M * 128 : Nat) : Int) := by
          have := pow_le j h8
          rw [← hM.out] at this
          rw [u64w]
          omega
        have hi : (j : Int) < 9 := by omega
        have hg : (M : Int) ≤ (n : Int) := by omega
        have hlo' := Lib.hid (show j + 1 = 1 ∨ 128 ^ (j + 1 - 1) ≤ n from Or.inr (by rw [Nat.add_sub_cancel, ← hM.out]; exact hge))
        have hM' := Lib.hid (show M * 128 = 128 ^ (j + 1) by rw [hM.out]; exact (Nat.pow_succ ..).symm)
        have hwj := w64 (n := (j : Int) + 1) (by omega) (by omega)
        go_wp2_with fail
        exact ⟨⟨j + 1, M * 128, by omega, by omega, by go_num, by go_num, hM', hlo'⟩, by simp only [intOf]; omega⟩
      · have hs := Lib.hid (size_low n j h1 h8 hlo.out (by rw [← hM.out]; omega))
        have hi : (j : Int) < 9 := by omega
        have hg : ¬ (M : Int) ≤ (n : Int) := by omega
        go_wp2_with fail
        go_ret
        exact ⟨by rw [hs.out]; rfl, rfl⟩
    · obtain rfl : j = 9 := by omega
      have hs := Lib.hid (size_top n (by rcases hlo.out with h | h; omega; exact h))
      go_wp2_with fail
      go_ret
      exact ⟨by rw [hs.out]; rfl, rfl⟩
theorem refOpen_any (u : Nat) (h : u < 18446744073709551616) (w : World) :
    Calls Tryd.prog 58 #[.int .u64 u] w fun e w' => e = .returned (.int .i64 (openI u)) ∧ w = w' := by
  have H := Lib.hid h
  by_cases hu : u % 2 = 0
  · have h2 : (u : Int) % 2 = 0 := by omega
    have hv := Lib.hid (show wrap64 (IntKind.u64.wrap ((u : Int) / 2)) = openI u by rw [u64w, show (u : Int) / 2 % 18446744073709551616 = (u : Int) / 2 by omega, w64 (by omega) (by omega)]; unfold openI; rw [if_pos hu]; omega)
    clear h hu
    go_enter Tryd.func58, Tryd.ntmps58
    go_wp2_with fail
    go_ret
    exact ⟨ret_int hv.out, rfl⟩
  · have h2 : ¬ (u : Int) % 2 = 0 := by omega
    have hv := Lib.hid (show wrap64 (wrap64 (-wrap64 (IntKind.u64.wrap ((u : Int) / 2))) - 1) = openI u by
      rw [u64w, show (u : Int) / 2 % 18446744073709551616 = (u : Int) / 2 by omega, w64 (n := (u : Int) / 2) (by omega) (by omega), w64 (n := -((u : Int) / 2)) (by omega) (by omega), w64 (by omega) (by omega)]
      unfold openI
      rw [if_neg hu]
      omega)
    clear h hu
    go_enter Tryd.func58, Tryd.ntmps58
    go_wp2_with fail
    go_ret
    exact ⟨ret_int hv.out, rfl⟩
end Go.Proofs.YtmjdlofkjjofcaaDoor

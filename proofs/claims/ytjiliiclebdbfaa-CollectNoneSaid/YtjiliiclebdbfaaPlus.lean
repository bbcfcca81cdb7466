/- Contracts of package store: a sum that stays at the greatest number. -/
import Derived.Test.YtjiliiclebdbfaaProg
import Derived.Test.YtjiliiclebdbfaaKit
import Derived.Test.YtjiliiclebdbfaaKitb
import Derived.Test.YtjiliiclebdbfaaStoreV
import Derived.Test.YtjiliiclebdbfaaStore
import Derived.Deep.QuietTactic
import Derived.BigQuiet
import Derived.Deep.LoopGhost
namespace Go.Proofs.Ytjiliiclebdbfaa
open Go.RowKit
set_option linter.unusedVariables false
set_option linter.unusedSimpArgs false

def alCells (al : List Nat) : Array Value := (al.map fun (v : Nat) => Value.int .u64 (v : Int)).toArray
def upTo (al : List Nat) (j : Nat) : Nat := (al.take j).sum
theorem upTo_succ {al : List Nat} {j : Nat} (h : j < al.length) : upTo al (j + 1) = upTo al j + al.getD j 0 := by
  unfold upTo
  rw [List.take_succ_eq_append_getElem h, List.sum_append, List.getD_eq_getElem?_getD, List.getElem?_eq_getElem h]
  simp
theorem upTo_le (al : List Nat) (j : Nat) : upTo al j ≤ al.sum := by
  unfold upTo
  have := congrArg List.sum (List.take_append_drop j al)
  rw [List.sum_append] at this
  omega
theorem upTo_all (al : List Nat) : upTo al al.length = al.sum := by unfold upTo; rw [List.take_length]
theorem maxU_int : ((maxU : Nat) : Int) = 18446744073709551615 := rfl
theorem u64wP (x : Int) : IntKind.u64.wrap x = x % 18446744073709551616 := by first | rfl | simp [IntKind.wrap]
theorem plus_sub (n x : Nat) (hn : n ≤ maxU) : IntKind.u64.wrap (18446744073709551615 - (n : Int)) < (x : Int) ↔ maxU < n + x := by
  unfold maxU at *
  rw [u64wP]
  omega
theorem plus_add (n x : Nat) (h : n + x ≤ maxU) : IntKind.u64.wrap ((n : Int) + (x : Int)) = ((n + x : Nat) : Int) := by
  unfold maxU at *
  rw [u64wP]
  omega
theorem plus_any {w : World} {B T : Nat} (al : List Nat) (hl : al.length ≤ 4) (hal : ∀ j, al.getD j 0 ≤ maxU) (h : Pt w B (alCells al) T) (c : Nat) :
    Calls Try.prog 67 #[.slice (some ⟨B, 0, none⟩) al.length c] w fun e w' => e = .returned (.int .u64 (min al.sum maxU : Nat)) ∧ w = w' := by
  have HA := Lib.hid hal
  have H := Lib.hid h
  clear hal h
  go_enter Try.func67, Try.ntmps67
  go_wp2_with fail
  go_loop [3, 8] (fun n i => ∃ j : Nat, j ≤ al.length ∧ i = .int .i64 j ∧ n = .int .u64 (upTo al j) ∧ Hid (upTo al j ≤ maxU)) (fun _ i => al.length - (intOf i).toNat)
  case atStart => exact ⟨0, by omega, rfl, rfl, Lib.hid (by show 0 ≤ _; omega)⟩
  case round =>
    obtain ⟨j, hj, rfl, rfl, hU⟩ := hrel
    by_cases hlt : j < al.length
    · have hs := Lib.hid (upTo_succ hlt)
      have hx := Lib.hid (HA.out j)
      have hc : w.cell? ⟨B, j, none⟩ = some (.int .u64 (al.getD j 0 : Nat)) := by
        rw [H.out.cell]; unfold alCells
        simp [List.getD_eq_getElem?_getD, List.getElem?_eq_getElem hlt]
      have htot := Lib.hid (upTo_le al (j + 1))
      generalize upTo al j = n at *
      generalize al.getD j 0 = x at *
      have hd : decide ((j : Int) < (al.length : Int)) = true := decide_eq_true (by omega)
      have HX := Lib.hid (And.intro hx.out (And.intro hU.out (And.intro hs.out htot.out)))
      clear hx hs htot H HA
      go_wp2_with fail
      · rename_i hb _
        have hb2 := plus_sub n x (HX.out.2.1) |>.1 hb
        go_ret
        refine ⟨?_, rfl⟩
        obtain ⟨h1, h2, h3, h4⟩ := HX.out
        have e : min al.sum maxU = maxU := Nat.min_eq_right (by omega)
        rw [e, maxU_int]
        rfl
      · rename_i hb
        obtain ⟨h1, h2, h3, h4⟩ := HX.out
        have hb2 : ¬ maxU < n + x := fun h => by have := (plus_sub n x h2).2 h; omega
        refine ⟨⟨j + 1, by omega, rfl, by rw [h3, plus_add n x (by omega)], Lib.hid (by rw [h3]; omega)⟩, by simp only [intOf]; omega⟩
    · obtain rfl : j = al.length := by omega
      go_wp2_with fail
      go_ret
      refine ⟨?_, rfl⟩
      have := hU.out
      rw [upTo_all] at this
      rw [Nat.min_eq_left this, upTo_all]
      rfl
end Go.Proofs.Ytjiliiclebdbfaa

/- SumJoins, walked. -/
import Derived.Test.YtmleopbelmibcaaProg
import Derived.Test.YtmleopbelmibcaaKit
import Derived.Test.YtmleopbelmibcaaBytes
import Derived.Test.YtmleopbelmibcaaApp
import Derived.Test.YtmleopbelmibcaaSumV
import Derived.Test.YtmleopbelmibcaaSum
import Derived.Test.YtmleopbelmibcaaSumA
import Derived.Test.YtmleopbelmibcaaSumR
import Derived.Test.YtmleopbelmibcaaSumL
import Derived.Test.YtmleopbelmibcaaInts
import Derived.Deep.QuietTactic
import Derived.BigQuiet
namespace Go.Proofs.Ytmleopbelmibcaa
open Go.RowKit
set_option linter.unusedVariables false
set_option linter.unusedSimpArgs false

theorem bs_at {w W : World} {A : Option Addr} {l : List UInt8} (h : Bs w w.heap.size A l) (b : Below w.heap.size w W) : Bs W W.heap.size A l := (h.below b).more b.size
theorem b_next {w W W' : World} (b : Below w.heap.size w W) (c : Below W.heap.size W W') : Below w.heap.size w W' := b.trans (c.mono b.size)
theorem len_room (l : List UInt8) (h : l.length ≤ 140737488351232) : l.length ≤ 9223372036854775807 ∧ l.length < 9223372036854775808 := by omega
theorem joins_left (a b c : List UInt8) : joinV (joinV (sumOf a) (sumOf b) b.length) (sumOf c) c.length = sumOf (a ++ b ++ c) := by rw [joinV_eq, joinV_eq]
theorem joins_right (a b c : List UInt8) : joinV (sumOf a) (joinV (sumOf b) (sumOf c) c.length) (b.length + c.length) = sumOf (a ++ b ++ c) := by
  rw [joinV_eq, ← List.length_append, joinV_eq, List.append_assoc]
theorem joinV_id (x : V) : joinV x 0 0 = x := by unfold joinV; simp [turnK]
theorem joinV_nul (x : V) (k : Nat) : joinV 0 x k = x := by unfold joinV; rw [turnK_zero]; simp

theorem join_v (x y : V) (k : Nat) (hk : k < 9223372036854775808) {z : V} (hz : joinV x y k = z) (w : World) :
    Calls Try.prog 39 #[.int .u32 x.toNat, .int .u32 y.toNat, .int .i64 k] w fun e w' => e = .returned (.int .u32 z.toNat) ∧ w = w' := by
  have := join_nat x y k hk w
  rw [hz] at this
  exact this
theorem join_vi (x y : V) (n : Int) (k : Nat) (hn : n = k) (hk : k < 9223372036854775808) {z : V} (hz : joinV x y k = z) (w : World) :
    Calls Try.prog 39 #[.int .u32 x.toNat, .int .u32 y.toNat, .int .i64 n] w fun e w' => e = .returned (.int .u32 z.toNat) ∧ w = w' := by
  subst hn; exact join_v x y k hk hz w
theorem join_m (x : V) (w : World) :
    Calls Try.prog 39 #[.int .u32 x.toNat, .int .u32 0, .int .i64 (-5)] w fun e w' => e = .returned (.int .u32 x.toNat) ∧ w = w' := by
  have := join_neg x 0 (-5) (by decide) w
  rw [joinV_id] at this
  exact this

theorem join_z (x : V) (w : World) :
    Calls Try.prog 39 #[.int .u32 x.toNat, .int .u32 0, .int .i64 0] w fun e w' => e = .returned (.int .u32 x.toNat) ∧ w = w' := by
  have := join_v x 0 0 (by decide) (joinV_id x) w
  exact this
theorem join_l (x : V) (k : Nat) (hk : k < 9223372036854775808) (w : World) :
    Calls Try.prog 39 #[.int .u32 0, .int .u32 x.toNat, .int .i64 k] w fun e w' => e = .returned (.int .u32 x.toNat) ∧ w = w' := by
  have := join_v 0 x k hk (joinV_nul x k) w
  exact this

set_option maxHeartbeats 4000000 in
set_option maxRecDepth 100000 in
theorem sumJoins_walk0 (A0 A1 A2 : Option Addr) (c0 c1 c2 : Nat) (a b c : List UInt8) (w : World) (h0 : Bs w w.heap.size A0 a) (h1 : Bs w w.heap.size A1 b) (h2 : Bs w w.heap.size A2 c)
    (l0 : a.length ≤ 140737488351232) (l1 : b.length ≤ 140737488351232) (l2 : c.length ≤ 140737488351232) :
    Calls Try.prog 8 #[.slice A0 a.length c0, .slice A1 b.length c1, .slice A2 c.length c2] w fun e w' => e = .returned (.bool true) ∧ Below w.heap.size w w' := by
  have H0 := Lib.hid h0
  have H1 := Lib.hid h1
  have H2 := Lib.hid h2
  have L0 := Lib.hid (len_room a l0)
  have L1 := Lib.hid (len_room b l1)
  have L2 := Lib.hid (len_room c l2)
  have s1 : wrap64 ((a.length : Int) + b.length) = a.length + b.length := w64 (by omega) (by omega)
  have s2 : wrap64 ((a.length : Int) + b.length + c.length) = a.length + b.length + c.length := w64 (by omega) (by omega)
  have s3 : wrap64 ((b.length : Int) + c.length) = ((b.length + c.length : Nat) : Int) := w64 (by omega) (by omega)
  clear h0 h1 h2 l0 l1 l2
  by_cases hb : a.length + b.length + c.length > 3000
  · have hb' : decide ((a.length : Int) + b.length + c.length > 3000) = true := decide_eq_true (by omega)
    have HBW := Below.refl w.heap.size w
    go_enter Try.func8, Try.ntmps8
    go_wp2_with (go_at_call 27; refine (lives3_any _).mono ?_; rintro e w' ⟨rfl, hb⟩; have HBW := b_next HBW hb)
    go_ret
    exact ⟨rfl, HBW⟩
  · have hb' : decide ((a.length : Int) + b.length + c.length > 3000) = false := decide_eq_false (by omega)
    have HBW := Below.refl w.heap.size w
    have J1 := Lib.hid fun w => join_nat (sumOf a) (sumOf b) b.length L1.out.2 w
    have J2 := Lib.hid fun w => join_v (joinV (sumOf a) (sumOf b) b.length) (sumOf c) c.length L2.out.2 (joins_left a b c) w
    have J3 := Lib.hid fun w => join_nat (sumOf b) (sumOf c) c.length L2.out.2 w
    have J4 := Lib.hid fun w => join_vi (sumOf a) (joinV (sumOf b) (sumOf c) c.length) ((b.length : Int) + c.length) (b.length + c.length) (by omega) (by omega) (joins_right a b c) w
    have J5 := Lib.hid fun w => join_z (sumOf a) w
    have J6 := Lib.hid fun w => join_m (sumOf a) w
    have J7 := Lib.hid fun w => join_l (sumOf a) a.length L0.out.2 w
    go_enter Try.func8, Try.ntmps8
    go_wp2_with (first | ((go_at_call 27); (with_reducible refine (lives3_any _).mono ?_); rintro e w' ⟨rfl, hb⟩; have HBW := b_next HBW hb) | ((go_at_call 28); (with_reducible refine (of_any A0 c0 a _ (bs_at H0.out HBW) L0.out.1).mono ?_); rintro e w' ⟨rfl, hb⟩; have HBW := b_next HBW hb) | ((go_at_call 28); (with_reducible refine (of_any A1 c1 b _ (bs_at H1.out HBW) L1.out.1).mono ?_); rintro e w' ⟨rfl, hb⟩; have HBW := b_next HBW hb) | ((go_at_call 28); (with_reducible refine (of_any A2 c2 c _ (bs_at H2.out HBW) L2.out.1).mono ?_); rintro e w' ⟨rfl, hb⟩; have HBW := b_next HBW hb) | ((go_at_call 39); (with_reducible refine (J1.out _).mono ?_); rintro e w' ⟨rfl, rfl⟩) | ((go_at_call 39); (with_reducible refine (J2.out _).mono ?_); rintro e w' ⟨rfl, rfl⟩) | ((go_at_call 39); (with_reducible refine (J3.out _).mono ?_); rintro e w' ⟨rfl, rfl⟩) | ((go_at_call 39); (with_reducible refine (J4.out _).mono ?_); rintro e w' ⟨rfl, rfl⟩) | ((go_at_call 39); (with_reducible refine (J5.out _).mono ?_); rintro e w' ⟨rfl, rfl⟩) | ((go_at_call 39); (with_reducible refine (J6.out _).mono ?_); rintro e w' ⟨rfl, rfl⟩) | ((go_at_call 39); (with_reducible refine (J7.out _).mono ?_); rintro e w' ⟨rfl, rfl⟩) | ((with_reducible refine at_dst (N := 60) rfl ?_); have HB0 := HBW; have HBW := HBW.alloc HBW.size (.cells #[] 5); refine app_bytes2 rfl (.tmp 58) (.tmp 59) 40 rfl rfl (by kernel_rfl) [] a rfl (Row.mk0 _ _) rfl rfl (bs_at H0.out HBW) rfl ?h1 ?h2 ?_; (case h1 => have := L0.out; omega); (case h2 => simp); intro A4 c4 w4 r4 b4 _; have HBW := HBW.trans (b4.mono HB0.size); have r4 := Lib.hid r4) | ((with_reducible refine at_dst (N := 62) rfl ?_); refine app_bytes2 rfl (.tmp 60) (.tmp 61) 40 rfl rfl (by kernel_rfl) a (a ++ b) rfl (by simpa using r4.out) rfl rfl (bs_at H1.out HBW) rfl ?h3 ?h4 ?_; (case h3 => have := L0.out; simp; omega); (case h4 => exact Nat.le_trans (Nat.le_succ _) (by simpa using b4.size)); intro A5 c5 w5 r5 b5 _; have b5' := b5.size; have HBW := HBW.trans (b5.mono HB0.size); have r5 := Lib.hid r5) | ((with_reducible refine at_dst (N := 64) rfl ?_); refine app_bytes2 rfl (.tmp 62) (.tmp 63) 40 rfl rfl (by kernel_rfl) (a ++ b) (a ++ b ++ c) rfl (by simpa using r5.out) rfl rfl (bs_at H2.out HBW) rfl ?h5 ?h6 ?_; (case h5 => have := L0.out; simp; omega); (case h6 => have := b4.size; simp at this; omega); intro A6 c6 w6 r6 b6 _; have HBW := HBW.trans (b6.mono HB0.size); have r6 := Lib.hid r6) | ((go_at_call 40); (with_reducible refine (refOf_n _ _ _ (a ++ b ++ c) (by simp) _ r6.out.bs' (by simp; omega)).mono ?_); rintro e w' ⟨rfl, rfl⟩))
    go_ret
    exact ⟨rfl, HBW⟩
theorem sumJoins_walk (A0 : Option Addr) (c0 : Nat) (a : List UInt8) (A1 : Option Addr) (c1 : Nat) (b : List UInt8) (A2 : Option Addr) (c2 : Nat) (c : List UInt8) {w : World}
    (h0 : Bs w w.heap.size A0 a) (x0 : a.length ≤ c0) (z0 : c0 ≤ 140737488351232) (h1 : Bs w w.heap.size A1 b) (x1 : b.length ≤ c1) (z1 : c1 ≤ 140737488351232) (h2 : Bs w w.heap.size A2 c) (x2 : c.length ≤ c2) (z2 : c2 ≤ 140737488351232) :
    Calls Try.prog 8 #[.slice A0 a.length c0, .slice A1 b.length c1, .slice A2 c.length c2] w fun e w' => e = .returned (.bool true) ∧ Below w.heap.size w w' :=
  sumJoins_walk0 A0 A1 A2 c0 c1 c2 a b c w h0 h1 h2 (by omega) (by omega) (by omega)
end Go.Proofs.Ytmleopbelmibcaa

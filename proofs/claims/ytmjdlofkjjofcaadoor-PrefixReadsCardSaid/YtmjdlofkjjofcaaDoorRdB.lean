/- The reference's reader: numbers, signed numbers. -/
import Derived.Test.YtmjdlofkjjofcaaDoorProg
import Derived.Test.YtmjdlofkjjofcaaDoorKit
import Derived.Test.YtmjdlofkjjofcaaDoorKitb
import Derived.Test.YtmjdlofkjjofcaaDoorBytes
import Derived.Test.YtmjdlofkjjofcaaDoorOnly
import Derived.Test.YtmjdlofkjjofcaaDoorErr
import Derived.Test.YtmjdlofkjjofcaaDoorFault
import Derived.Test.YtmjdlofkjjofcaaDoorPrefixV
import Derived.Test.YtmjdlofkjjofcaaDoorReader
import Derived.Test.YtmjdlofkjjofcaaDoorReaderU
import Derived.Test.YtmjdlofkjjofcaaDoorReaderM
import Derived.Test.YtmjdlofkjjofcaaDoorRdMore
import Derived.Test.YtmjdlofkjjofcaaDoorRefSz
import Derived.Test.YtmjdlofkjjofcaaDoorRefRd
import Derived.Deep.QuietTactic
import Derived.BigQuiet
import Derived.Deep.DeepCutAuto
namespace Go.Proofs.YtmjdlofkjjofcaaDoor
open Go.RowKit
set_option linter.unusedVariables false
set_option linter.unusedSimpArgs false
abbrev mostU : Nat := 18446744073709551615
/-- No number is too great for it. -/
theorem up_max (r : List UInt8) : upN mostU r = uintN r ∧ upK mostU r = uintK r ∧ ∀ a, erA (upE mostU r) a = uintE a r := by
  unfold upN upK upE uintN uintK uintE erA
  cases hd : decU r with
  | cut => exact ⟨rfl, rfl, fun _ => rfl⟩
  | form => exact ⟨rfl, rfl, fun _ => rfl⟩
  | ok n k =>
    obtain ⟨_, h, _⟩ := enc_dec hd
    have : ¬ mostU < n := by unfold mostU; omega
    simp only [this, if_false]
    exact ⟨trivial, trivial, fun _ => rfl⟩
theorem upto_lit_ref (M : Nat) (A : Option Addr) (c : Nat) (l : List UInt8) (at_ F : Nat) (m : Int) (most : Nat) (hm : m = most) (hm2 : most < 18446744073709551616) (w : World) (h : RM w M A c l at_ 0 F) :
    Calls Tryd.prog 15 #[.pointer (some ⟨M, 0, none⟩), .int .u64 m] w (RUp M A c l at_ F most w) := by subst hm; exact upto_ref M A c l at_ F most w h hm2
theorem ruint_any (M : Nat) (A : Option Addr) (c : Nat) (l : List UInt8) (at_ F : Nat) (w : World) (h : RM w M A c l at_ 0 F) :
    Calls Tryd.prog 11 #[.pointer (some ⟨M, 0, none⟩)] w (RUp M A c l at_ F mostU w) := by
  have HU := Lib.hid (upto_lit_ref M A c l at_ F 18446744073709551615 mostU rfl (by decide) w h)
  unfold RUp at HU ⊢
  clear h
  generalize (if upE mostU (l.drop at_) = 0 then F else at_) = F' at *
  go_enter Tryd.func11, Tryd.ntmps11
  go_wp2_with ((go_at_call 15); (with_reducible refine (HU.out).mono ?_); rintro e w1 ⟨rfl, r1, o1⟩; have R1 := Lib.hid r1; have O1 := Lib.hid o1; clear r1 o1)
  go_ret
  exact ⟨rfl, R1.out, O1.out⟩
theorem ruint_err (M : Nat) (A : Option Addr) (c : Nat) (l : List UInt8) (at_ E F : Nat) (w : World) (h : RM w M A c l at_ E F) (hE : E ≠ 0) :
    Calls Tryd.prog 11 #[.pointer (some ⟨M, 0, none⟩)] w fun e w' => e = .returned (.int .u64 0) ∧ w = w' := by
  have HU := Lib.hid (upto_err_ref M A c l at_ E F 18446744073709551615 w h hE)
  clear h hE
  go_enter Tryd.func11, Tryd.ntmps11
  go_wp2_with ((go_at_call 15); (with_reducible refine (HU.out).mono ?_); rintro e w1 ⟨rfl, rfl⟩)
  go_ret
  exact ⟨rfl, rfl⟩
theorem upN_lt (most : Nat) (r : List UInt8) : upN most r < 18446744073709551616 := by
  unfold upN
  cases hd : decU r with
  | cut => exact Nat.succ_pos _
  | form => exact Nat.succ_pos _
  | ok n k =>
    obtain ⟨_, h, _⟩ := enc_dec hd
    simp only
    split
    · exact Nat.succ_pos _
    · exact h
theorem rint_any (M : Nat) (A : Option Addr) (c : Nat) (l : List UInt8) (at_ F : Nat) (w : World) (h : RM w M A c l at_ 0 F) :
    Calls Tryd.prog 13 #[.pointer (some ⟨M, 0, none⟩)] w fun e w' => e = .returned (.int .i64 (openI (upN mostU (l.drop at_)))) ∧ RM w' M A c l (at_ + upK mostU (l.drop at_)) (upE mostU (l.drop at_)) (if upE mostU (l.drop at_) = 0 then F else at_) ∧ Only M w w' := by
  have HU := Lib.hid (ruint_any M A c l at_ F w h)
  unfold RUp at HU
  have HN := Lib.hid (upN_lt mostU (l.drop at_))
  clear h
  generalize (if upE mostU (l.drop at_) = 0 then F else at_) = F' at *
  generalize upN mostU (l.drop at_) = N at *
  go_enter Tryd.func13, Tryd.ntmps13
  go_wp2_with (first | ((go_at_call 11); (with_reducible refine (HU.out).mono ?_); rintro e w1 ⟨rfl, r1, o1⟩; have R1 := Lib.hid r1; have O1 := Lib.hid o1; clear r1 o1) | ((go_at_call 58); (with_reducible refine (refOpen_any N HN.out _).mono ?_); rintro e w2 ⟨rfl, rfl⟩))
  go_ret
  exact ⟨rfl, R1.out, O1.out⟩
theorem rint_err (M : Nat) (A : Option Addr) (c : Nat) (l : List UInt8) (at_ E F : Nat) (w : World) (h : RM w M A c l at_ E F) (hE : E ≠ 0) :
    Calls Tryd.prog 13 #[.pointer (some ⟨M, 0, none⟩)] w fun e w' => e = .returned (.int .i64 0) ∧ w = w' := by
  have HU := Lib.hid (ruint_err M A c l at_ E F w h hE)
  have HO := Lib.hid fun W => (show Calls Tryd.prog 58 #[.int .u64 0] W fun e w' => e = .returned (.int .i64 0) ∧ W = w' from refOpen_any 0 (by decide) W)
  clear h hE
  go_enter Tryd.func13, Tryd.ntmps13
  go_wp2_with (first | ((go_at_call 11); (with_reducible refine (HU.out).mono ?_); rintro e w1 ⟨rfl, rfl⟩) | ((go_at_call 58); (with_reducible refine (HO.out _).mono ?_); rintro e w2 ⟨rfl, rfl⟩))
  go_ret
  exact ⟨rfl, rfl⟩
theorem rbytes_err (M : Nat) (A : Option Addr) (c : Nat) (l : List UInt8) (at_ E F : Nat) (n : Int) (w : World) (h : RM w M A c l at_ E F) (hE : E ≠ 0 ∨ n ≤ 0) :
    Calls Tryd.prog 17 #[.pointer (some ⟨M, 0, none⟩), .int .i64 n] w fun e w' => e = .returned (.slice none 0 0) ∧ w = w' := by
  have c1 := h.1.cell
  by_cases hE0 : E = 0
  · subst hE0
    have hn : n ≤ 0 := by rcases hE with h | h; exact (h rfl).elim; exact h
    clear h hE
    go_enter Tryd.func17, Tryd.ntmps17
    go_wp2_with fail
    go_ret
    exact ⟨rfl, rfl⟩
  · have hd : ((E : Int) != 0) = true := by rw [bne_iff_ne]; omega
    clear h hE hE0
    go_enter Tryd.func17, Tryd.ntmps17
    go_wp2_with fail
    go_ret
    exact ⟨rfl, rfl⟩
theorem rbytes_cut (M : Nat) (A : Option Addr) (c : Nat) (l : List UInt8) (at_ F : Nat) (n : Int) (w : World) (h : RM w M A c l at_ 0 F) (hn0 : 0 < n) (hn : (l.length : Int) - at_ < n) :
    Calls Tryd.prog 17 #[.pointer (some ⟨M, 0, none⟩), .int .i64 n] w fun e w' => e = .returned (.slice none 0 0) ∧ RM w' M A c l at_ 2 at_ ∧ Only M w w' := by
  have c1 := h.1.cell
  have H := Lib.hid h
  have hb := h.2.2
  have hi : IntKind.i64.wrap ((l.length : Int) - at_) = (l.length : Int) - at_ := by rw [i64_w]; exact w64 (by omega) (by omega)
  have hd0 : ¬ n ≤ 0 := by omega
  clear h hb
  go_enter Tryd.func17, Tryd.ntmps17
  go_wp2_with fail
  go_quiet (fail)
  have H1 := Lib.hid (H.out.keep (below_dn (Below.refl _ _) nq))
  have HO := Lib.hid ((Only.refl M w).drewN nq)
  clear c1 H
  generalize w.drewN nq = w1 at *
  go_wp2_with ((go_at_call 59); (with_reducible refine (rfail_i M A c l at_ 0 F 2 2 rfl _ H1.out).mono ?_); rintro e w2 ⟨rfl, r2, o2⟩; have R2 := Lib.hid r2; have O2 := Lib.hid o2; clear r2 o2)
  go_ret
  exact ⟨rfl, R2.out, HO.out.trans O2.out⟩
theorem rbytes_ok (M : Nat) (A : Option Addr) (c : Nat) (l : List UInt8) (at_ F k : Nat) (w : World) (h : RM w M A c l at_ 0 F) (hk0 : 0 < k) (hk : at_ + k ≤ l.length) :
    Calls Tryd.prog 17 #[.pointer (some ⟨M, 0, none⟩), .int .i64 k] w fun e w' => (∃ A' c', e = .returned (.slice A' k c') ∧ Bs w' w'.heap.size A' ((l.drop at_).take k)) ∧ RM w' M A c l (at_ + k) 0 F ∧ Only M w w' := by
  have c1 := h.1.cell
  have H := Lib.hid h
  have hb := h.2.2
  have hi : IntKind.i64.wrap ((l.length : Int) - at_) = (l.length : Int) - at_ := by rw [i64_w]; exact w64 (by omega) (by omega)
  have hd : ¬ (l.length : Int) - at_ < (k : Int) := by omega
  have hd' : decide ((k : Int) > (l.length : Int) - at_) = false := decide_eq_false (by omega)
  have hp : (0 : Int) < (k : Int) := by omega
  have HW := Lib.hid (show wrap64 ((at_ : Int) + (k : Int)) = ((at_ + k : Nat) : Int) by rw [w64 (by omega) (by omega)]; omega)
  have HSub := Lib.hid (show IntKind.i64.wrap (((at_ + k : Nat) : Int) - (k : Int)) = (at_ : Int) by rw [i64_w, w64 (by omega) (by omega)]; omega)
  have HHB := Lib.hid hb
  have HHK := Lib.hid hk
  clear h hb hk hk0
  go_enter Tryd.func17, Tryd.ntmps17
  go_wp2_with fail
  go_quiet (fail)
  have H1 := Lib.hid (H.out.keep (below_dn (Below.refl _ _) nq))
  have HO := Lib.hid ((Only.refl M w).drewN nq)
  clear c1 H hi hd hd'
  generalize w.drewN nq = w1 at *
  have c2 := H1.out.1.cell
  have f2 := H1.out.1.frozen
  go_upto_region 7 with fail
  rw [HW.out]
  have H2 := Lib.hid (H1.out.set1 (at_ + k) HHK.out)
  have HO2 := Lib.hid (HO.out.setCell 1 (.int .i64 ((at_ + k : Nat) : Int)))
  clear c2 f2 H1 HO
  generalize w1.setCell ⟨M, 1, none⟩ (.int .i64 ((at_ + k : Nat) : Int)) = w2 at *
  have c3 := H2.out.1.cell
  have i3 : ((at_ + k : Nat) : Int) ≤ (c : Int) := by have := HHB.out; have := HHK.out; omega
  have hs := HSub.out
  have hs2 : IntKind.i64.wrap ((at_ : Int) + (k : Int) - (k : Int)) = (at_ : Int) := by have := HHB.out; have := HHK.out; rw [i64_w, w64 (by omega) (by omega)]; omega
  have hs3 : IntKind.i64.wrap (at_ : Int) = (at_ : Int) := by have := HHB.out; have := HHK.out; rw [i64_w, w64 (by omega) (by omega)]
  have i4 : (at_ : Int) ≤ (at_ : Int) + (k : Int) := by omega
  have i5 : (at_ : Int) + (k : Int) ≤ (c : Int) := by omega
  have i1 : (0 : Int) ≤ (at_ : Int) := by omega
  have i2 : (at_ : Int) ≤ ((at_ + k : Nat) : Int) := by omega
  go_quiet (fail)
  go_wp2_with fail
  go_ret
  have H3 := H2.out.keep (below_dn (Below.refl _ _) nq)
  have hbs := Bs.drop (k := at_) (cap := c) H3.2.1 H3.2.2.2.1
  rw [if_neg (by have := HHB.out; have := HHK.out; omega)] at hbs
  exact ⟨⟨A.map (·.add at_), c - at_, congrArg (fun m => Ending.returned (Value.slice (A.map (·.add at_)) m (c - at_))) (Nat.add_sub_cancel_left at_ k), hbs.take k⟩, H3, HO2.out.drewN nq⟩
end Go.Proofs.YtmjdlofkjjofcaaDoor

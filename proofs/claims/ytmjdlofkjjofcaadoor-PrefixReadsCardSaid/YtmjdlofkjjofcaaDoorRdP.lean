/- The reader's bytes; PrefixReads' own words. -/
import Derived.Test.YtmjdlofkjjofcaaDoorProg
import Derived.Test.YtmjdlofkjjofcaaDoorKit
import Derived.Test.YtmjdlofkjjofcaaDoorKitb
import Derived.Test.YtmjdlofkjjofcaaDoorBytes
import Derived.Test.YtmjdlofkjjofcaaDoorOnly
import Derived.Test.YtmjdlofkjjofcaaDoorErr
import Derived.Test.YtmjdlofkjjofcaaDoorFault
import Derived.Test.YtmjdlofkjjofcaaDoorApp
import Derived.Test.YtmjdlofkjjofcaaDoorSlices
import Derived.Test.YtmjdlofkjjofcaaDoorPrefixV
import Derived.Test.YtmjdlofkjjofcaaDoorReader
import Derived.Test.YtmjdlofkjjofcaaDoorReaderM
import Derived.Test.YtmjdlofkjjofcaaDoorAs
import Derived.Test.YtmjdlofkjjofcaaDoorAsE
import Derived.Deep.QuietTactic
import Derived.BigQuiet
import Derived.Deep.DeepCutAuto
namespace Go.Proofs.YtmjdlofkjjofcaaDoor
open Go.RowKit
set_option linter.unusedVariables false
set_option linter.unusedSimpArgs false
attribute [local go_sem] max2_int min2_int max_two min_two

/-- What Bytes gives: the reader moves, then the bytes are cloned. -/
def BytR (P : Nat) (l : List UInt8) (a' : Nat) (er : Er) (X : List UInt8) (w : World) (e : Ending) (w' : World) : Prop :=
  ∃ wm, Only P w wm ∧ Rd wm P l a' er ∧ RetRow wm 5 X e w'
theorem pbytes_err (P : Nat) (l : List UInt8) (at_ : Nat) (er : Er) (n : Int) (w : World) (h : Rd w P l at_ er) (he : nilB er = false) :
    Calls Tryd.prog 16 #[.pointer (some ⟨P, 0, none⟩), .int .i64 n] w (BytR P l at_ er [] w) := by
  have H := Lib.hid h
  have HT := Lib.hid fun m => take_err P l at_ er m w h he
  have HC := Lib.hid (clone_any none 0 0 [] rfl w (Or.inl rfl) (by decide))
  clear h he
  go_enter Tryd.func16, Tryd.ntmps16
  go_wp2_with (first | ((go_at_call 55); (with_reducible refine (HT.out _).mono ?_); rintro e w1 ⟨rfl, rfl⟩) | ((go_at_call 52); (with_reducible refine (HC.out).mono ?_); rintro e w2 ⟨A2, c2, rfl, r2⟩; have R2 := Lib.hid r2; clear r2))
  go_ret
  exact ⟨w, Only.refl _ _, H.out, A2, c2, rfl, R2.out⟩
theorem pbytes_cut (P : Nat) (l : List UInt8) (at_ : Nat) (n : Int) (w : World) (h : Rd w P l at_ .nil) (hl : l.length ≤ 4611686018427387904) (hn : (l.length : Int) - at_ < maxI n 0) :
    Calls Tryd.prog 16 #[.pointer (some ⟨P, 0, none⟩), .int .i64 n] w (BytR P l at_ (.fault byteS at_ (.num 2)) [] w) := by
  have HT := Lib.hid (take_cut P l at_ (maxI n 0) w h hl hn)
  have HC := Lib.hid fun w => clone_any none 0 0 [] rfl w (Or.inl rfl) (by decide)
  clear h hl hn
  go_enter Tryd.func16, Tryd.ntmps16
  go_wp2_with (first | ((go_at_call 55); (with_reducible refine (HT.out).mono ?_); rintro e w1 ⟨rfl, r1, o1⟩; have R1 := Lib.hid r1; have O1 := Lib.hid o1; clear r1 o1) | ((go_at_call 52); (with_reducible refine (HC.out _).mono ?_); rintro e w2 ⟨A2, c2, rfl, r2⟩; have R2 := Lib.hid r2; clear r2))
  go_ret
  exact ⟨w1, O1.out, R1.out, A2, c2, rfl, R2.out⟩
theorem pbytes_ok (P : Nat) (l : List UInt8) (at_ k : Nat) (n : Int) (hk : maxI n 0 = k) (w : World) (h : Rd w P l at_ .nil) (hl : l.length ≤ 140737488355328) (hn : at_ + k ≤ l.length) :
    Calls Tryd.prog 16 #[.pointer (some ⟨P, 0, none⟩), .int .i64 n] w (BytR P l (at_ + k) .nil ((l.drop at_).take k) w) := by
  have HT := Lib.hid (take_ok P l at_ k w h (by omega) hn)
  have hlen : k = ((l.drop at_).take k).length := by rw [List.length_take, List.length_drop]; omega
  have HC := Lib.hid fun w A (b : Bs w w.heap.size A ((l.drop at_).take k)) => clone_any A k k ((l.drop at_).take k) hlen w b (by omega)
  clear h hl hn hlen
  go_enter Tryd.func16, Tryd.ntmps16
  go_wp2_with (first | ((go_at_call 55); (with_reducible refine (HT.out).mono ?_); rintro e w1 ⟨⟨A1, rfl, s1⟩, r1, o1⟩; have S1 := Lib.hid s1; have R1 := Lib.hid r1; have O1 := Lib.hid o1; clear s1 r1 o1) | ((go_at_call 52); (with_reducible refine (HC.out _ _ S1.out).mono ?_); rintro e w2 ⟨A2, c2, rfl, r2⟩; have R2 := Lib.hid r2; clear r2))
  go_ret
  exact ⟨w1, O1.out, R1.out, A2, c2, congrArg (fun m => Ending.returned (Value.slice A2 m c2)) (by simp), by simpa using R2.out⟩
theorem wrong_nil (n : Int) (a : Int) (w : World) (hn : n = 0) : Calls Tryd.prog 19 #[.nilIface, .int .i64 n, .int .i64 a] w fun e w' => e = .returned (.bool true) ∧ Below w.heap.size w w' := by
  subst hn
  have q3 := fun w => eql_nil_nil (P := Tryd.prog) w (ti := 39) Tryd.underlying39
  have HB := Lib.hid (show Below w.heap.size w (w.alloc (.cells #[.pointer none] 52)) from (Below.refl _ _).alloc (Nat.le_refl _) _)
  go_enter Tryd.func19, Tryd.ntmps19
  go_wp2_with fail
  go_ret
  exact ⟨rfl, HB.out⟩
set_option maxHeartbeats 2000000 in
/-- An error of so great a number, at such a place, is the document's. -/
theorem wrong_at (b : Nat) (n : Nat) (a : Nat) (w : World) (hg : HT w) (hn : n ≠ 0) (h : EV w (.fault byteS a (.num n)) (.iface 52 (.pointer (some ⟨b, 0, none⟩)))) :
    Calls Tryd.prog 19 #[.iface 52 (.pointer (some ⟨b, 0, none⟩)), .int .i64 n, .int .i64 a] w fun e w' => e = .returned (.bool true) ∧ Below w.heap.size w w' := by
  have hn0 : ((n : Int) == 0) = false := by rw [beq_eq_false_iff_ne]; omega
  have B1 := Lib.hid (show Below w.heap.size w (w.alloc (.cells #[.pointer none] 52)) from (Below.refl _ _).alloc (Nat.le_refl _) _)
  have HAs := Lib.hid (as_fault_ff ⟨b, 0, none⟩ w.heap.size (.pointer none) (w.alloc (.cells #[.pointer none] 52)) (hg.keep B1.out) (Pt.new _ _ _))
  have HCo := Lib.hid fun (W : World) (k : Below w.heap.size w W) => code_any _ _ W (hg.keep k) (h.keep k)
  have hcode : codeE (.fault byteS a (.num n)) = (n : Int) := rfl
  obtain ⟨b', v', hb', hp, hv⟩ := h
  injection hb' with _ hb'
  injection hb' with hb'
  injection hb' with hb'
  injection hb' with hb'
  subst hb'
  have E1 := Lib.hid (hp.keep B1.out)
  have hlt := hp.lt
  clear hg hn hp hv
  go_enter Tryd.func19, Tryd.ntmps19
  go_wp2_with (first | ((go_at_call 27); (with_reducible refine (HAs.out).mono ?_); rintro e w3 ⟨rfl, p3, o3⟩; have B3 := Lib.hid (B1.out.trans (o3.below (Nat.le_refl _) B1.out.size)); have c1 := p3.cell; have c2 := (E1.out.only o3 (by omega)).cell; clear p3 o3) | ((go_at_call 25); (with_reducible refine (HCo.out _ B3.out).mono ?_); rintro e w4 ⟨rfl, b4⟩; rw [hcode]; have B4 := Lib.hid (b_next B3.out b4); clear b4))
  go_ret
  exact ⟨ret_bool (by first | rfl | simp), B4.out⟩
end Go.Proofs.YtmjdlofkjjofcaaDoor

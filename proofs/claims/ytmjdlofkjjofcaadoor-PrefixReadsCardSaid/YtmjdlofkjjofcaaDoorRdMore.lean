/- The reader: numbers up to a bound; bytes. -/
import Derived.Test.YtmjdlofkjjofcaaDoorProg
import Derived.Test.YtmjdlofkjjofcaaDoorKit
import Derived.Test.YtmjdlofkjjofcaaDoorKitb
import Derived.Test.YtmjdlofkjjofcaaDoorBytes
import Derived.Test.YtmjdlofkjjofcaaDoorOnly
import Derived.Test.YtmjdlofkjjofcaaDoorErr
import Derived.Test.YtmjdlofkjjofcaaDoorFault
import Derived.Test.YtmjdlofkjjofcaaDoorApp
import Derived.Test.YtmjdlofkjjofcaaDoorSlices
import Derived.Test.YtmjdlofkjjofcaaDoorInts
import Derived.Test.YtmjdlofkjjofcaaDoorPrefixV
import Derived.Test.YtmjdlofkjjofcaaDoorPrefix
import Derived.Test.YtmjdlofkjjofcaaDoorReader
import Derived.Test.YtmjdlofkjjofcaaDoorReaderU
import Derived.Test.YtmjdlofkjjofcaaDoorReaderM
import Derived.Deep.QuietTactic
import Derived.BigQuiet
namespace Go.Proofs.YtmjdlofkjjofcaaDoor
open Go.RowKit
set_option linter.unusedVariables false
set_option linter.unusedSimpArgs false
attribute [local go_sem] max2_int min2_int max_two min_two

/-- A number, up to a bound: the number, how many bytes, and what is wrong. -/
def upN (most : Nat) (r : List UInt8) : Nat := match decU r with | .ok n _ => if most < n then 0 else n | _ => 0
def upK (most : Nat) (r : List UInt8) : Nat := match decU r with | .ok n k => if most < n then 0 else k | _ => 0
def upE (most : Nat) (r : List UInt8) : Nat := match decU r with | .ok n _ => if most < n then 5 else 0 | .cut => 2 | .form => 3
def erA (e at_ : Nat) : Er := if e = 0 then .nil else .fault byteS at_ (.num e)
def UpR (P : Nat) (l : List UInt8) (at_ most : Nat) (w : World) (e : Ending) (w' : World) : Prop :=
  e = .returned (.int .u64 (upN most (l.drop at_))) ∧ Rd w' P l (at_ + upK most (l.drop at_)) (erA (upE most (l.drop at_)) at_) ∧ Only P w w'

theorem upto_err (P : Nat) (l : List UInt8) (at_ : Nat) (er : Er) (m : Int) (w : World) (h : Rd w P l at_ er) (he : nilB er = false) :
    Calls Tryd.prog 14 #[.pointer (some ⟨P, 0, none⟩), .int .u64 m] w fun e w' => e = .returned (.int .u64 0) ∧ w = w' := by
  have H := Lib.hid h
  obtain ⟨t, a, c2⟩ := h.err he
  obtain ⟨c1, f1⟩ := h.free
  have q := fun w => eql_iface_nil (P := Tryd.prog) w (ti := 39) (ta := t) a Tryd.underlying39
  clear h
  go_enter Tryd.func14, Tryd.ntmps14
  go_wp2_with ((go_at_call 10); (with_reducible refine (uint_err P l at_ er _ H.out he).mono ?_); rintro e w' ⟨rfl, rfl⟩)
  go_ret
  exact ⟨rfl, rfl⟩
theorem upto_any (P : Nat) (l : List UInt8) (at_ most : Nat) (w : World) (h : Rd w P l at_ .nil) (hl : l.length ≤ 4611686018427387904) :
    Calls Tryd.prog 14 #[.pointer (some ⟨P, 0, none⟩), .int .u64 most] w (UpR P l at_ most w) := by
  have H := Lib.hid h
  have HL := Lib.hid hl
  obtain ⟨c1, f1⟩ := h.free
  have hat : at_ ≤ l.length := by obtain ⟨_, _, _, _, _, _, h4⟩ := h; exact h4.1
  have HA := Lib.hid hat
  have q0 := fun w => eql_nil_nil (P := Tryd.prog) w (ti := 39) Tryd.underlying39
  have qf := fun w t a => eql_iface_nil (P := Tryd.prog) w (ti := 39) (ta := t) a Tryd.underlying39
  clear h hl hat
  have HU := Lib.hid fun W (r : Rd W P l at_ .nil) => uint_any P l at_ W r HL.out
  unfold UintR at HU
  cases hd : decU (l.drop at_) with
  | cut =>
    have e1 : uintN (l.drop at_) = 0 := by unfold uintN; rw [hd]
    have e2 : uintK (l.drop at_) = 0 := by unfold uintK; rw [hd]
    have e3 : uintE at_ (l.drop at_) = .fault byteS at_ (.num 2) := by unfold uintE; rw [hd]
    have hout : ∀ w', Rd w' P l at_ (.fault byteS at_ (.num 2)) → Only P w w' → UpR P l at_ most w (.returned (.int .u64 (0 : Nat))) w' := fun w' r o => by
      unfold UpR upN upK upE
      rw [hd]
      exact ⟨rfl, r, o⟩
    have HO := Lib.hid hout
    rw [e1, e2, e3] at HU
    clear hout e1 e2 e3 hd
    go_enter Tryd.func14, Tryd.ntmps14
    go_wp2_with ((go_at_call 10); (with_reducible refine (HU.out _ H.out).mono ?_); rintro e w1 ⟨rfl, r1, o1⟩; have R1 := Lib.hid r1; have O1 := Lib.hid o1; obtain ⟨t1, a1, c31⟩ := r1.err rfl; clear r1 o1)
    go_ret
    exact HO.out _ R1.out O1.out
  | form =>
    have e1 : uintN (l.drop at_) = 0 := by unfold uintN; rw [hd]
    have e2 : uintK (l.drop at_) = 0 := by unfold uintK; rw [hd]
    have e3 : uintE at_ (l.drop at_) = .fault byteS at_ (.num 3) := by unfold uintE; rw [hd]
    have hout : ∀ w', Rd w' P l at_ (.fault byteS at_ (.num 3)) → Only P w w' → UpR P l at_ most w (.returned (.int .u64 (0 : Nat))) w' := fun w' r o => by
      unfold UpR upN upK upE
      rw [hd]
      exact ⟨rfl, r, o⟩
    have HO := Lib.hid hout
    rw [e1, e2, e3] at HU
    clear hout e1 e2 e3 hd
    go_enter Tryd.func14, Tryd.ntmps14
    go_wp2_with ((go_at_call 10); (with_reducible refine (HU.out _ H.out).mono ?_); rintro e w1 ⟨rfl, r1, o1⟩; have R1 := Lib.hid r1; have O1 := Lib.hid o1; obtain ⟨t1, a1, c31⟩ := r1.err rfl; clear r1 o1)
    go_ret
    exact HO.out _ R1.out O1.out
  | ok n k =>
    have e1 : uintN (l.drop at_) = n := by unfold uintN; rw [hd]
    have e2 : uintK (l.drop at_) = k := by unfold uintK; rw [hd]
    have e3 : uintE at_ (l.drop at_) = .nil := by unfold uintE; rw [hd]
    rw [e1, e2, e3] at HU
    by_cases hm : most < n
    · have hout : ∀ w', Rd w' P l at_ (.fault byteS at_ (.num 5)) → Only P w w' → UpR P l at_ most w (.returned (.int .u64 (0 : Nat))) w' := fun w' r o => by
        unfold UpR upN upK upE
        rw [hd]
        simp only [hm, if_true]
        exact ⟨trivial, r, o⟩
      have HO := Lib.hid hout
      have hm' : (most : Int) < (n : Int) := by omega
      clear hout e1 e2 e3 hd hm
      go_enter Tryd.func14, Tryd.ntmps14
      go_wp2_with (first
        | ((go_at_call 10); (with_reducible refine (HU.out _ H.out).mono ?_); rintro e w1 ⟨rfl, r1, o1⟩; have R1 := Lib.hid (r1.seek at_ HA.out); have O1 := Lib.hid o1; obtain ⟨c11, f11⟩ := r1.free; have c31 := r1.noerr; clear r1 o1)
        | ((go_at_call 53); (with_reducible refine (fail_any P l at_ 5 _ R1.out.1).mono ?_); rintro e w5 ⟨rfl, r5, o5⟩; have R5 := Lib.hid r5; have O5 := Lib.hid o5; clear r5 o5))
      go_ret
      exact HO.out _ R5.out (O1.out.trans (R1.out.2.trans O5.out))
    · have hout : ∀ w', Rd w' P l (at_ + k) .nil → Only P w w' → UpR P l at_ most w (.returned (.int .u64 n)) w' := fun w' r o => by
        unfold UpR upN upK upE
        rw [hd]
        simp only [hm, if_false]
        exact ⟨trivial, r, o⟩
      have HO := Lib.hid hout
      have hm' : ¬ (most : Int) < (n : Int) := by omega
      clear hout e1 e2 e3 hd hm
      go_enter Tryd.func14, Tryd.ntmps14
      go_wp2_with ((go_at_call 10); (with_reducible refine (HU.out _ H.out).mono ?_); rintro e w1 ⟨rfl, r1, o1⟩; have R1 := Lib.hid r1; have O1 := Lib.hid o1; have c31 := r1.noerr; clear r1 o1)
      go_ret
      exact HO.out _ R1.out O1.out
theorem put_one (A : Option Addr) (n c : Nat) (l : List UInt8) (N : Nat) (hn : n = l.length) (hN : N < 18446744073709551616) {w W : World} (b : Below w.heap.size w W) (h : Bs w w.heap.size A l) (hc : n ≤ c ∧ c ≤ 9223372036854775807) (hl : l.length ≤ 140737487000000) :
    Calls Tryd.prog 50 #[.slice A n c, .slice (some ⟨W.heap.size, 0, none⟩) 1 1] (W.alloc (.cells #[.int .u64 N] 31)) (RetBs (W.alloc (.cells #[.int .u64 N] 31)) (l ++ encU N)) := by
  refine put_n A (some ⟨W.heap.size, 0, none⟩) n c 1 1 l [(N : Int)] (l ++ encU N) (by simp) hn rfl _ (bs_at h (b.alloc b.size _)) ?_ (by intro x hx; simp at hx; omega) hc (by simp; omega)
  exact Is.new W .u64 [(N : Int)] _ _ rfl
end Go.Proofs.YtmjdlofkjjofcaaDoor

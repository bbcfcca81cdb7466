/- The reader's other methods; signed numbers. -/
import Derived.Test.YtmjdlofkjjofcaaDoorProg
import Derived.Test.YtmjdlofkjjofcaaDoorKit
import Derived.Test.YtmjdlofkjjofcaaDoorKitb
import Derived.Test.YtmjdlofkjjofcaaDoorBytes
import Derived.Test.YtmjdlofkjjofcaaDoorInts
import Derived.Test.YtmjdlofkjjofcaaDoorOnly
import Derived.Test.YtmjdlofkjjofcaaDoorErr
import Derived.Test.YtmjdlofkjjofcaaDoorFault
import Derived.Test.YtmjdlofkjjofcaaDoorApp
import Derived.Test.YtmjdlofkjjofcaaDoorSlices
import Derived.Test.YtmjdlofkjjofcaaDoorShelf
import Derived.Test.YtmjdlofkjjofcaaDoorPrefixV
import Derived.Test.YtmjdlofkjjofcaaDoorPrefix
import Derived.Test.YtmjdlofkjjofcaaDoorReader
import Derived.Test.YtmjdlofkjjofcaaDoorReaderU
import Derived.Laws.BitsAllLaws
import Derived.Deep.QuietTactic
import Derived.BigQuiet
namespace Go.Proofs.YtmjdlofkjjofcaaDoor
open Go.RowKit
set_option linter.unusedVariables false
set_option linter.unusedSimpArgs false
attribute [local go_sem] max2_int min2_int max_two min_two

theorem uint_nil (w : World) : Calls Tryd.prog 10 #[.pointer none] w fun e w' => e = .returned (.int .u64 0) ∧ w = w' := by
  go_enter Tryd.func10, Tryd.ntmps10
  go_wp2_with fail
  go_ret
  exact ⟨rfl, rfl⟩
theorem uint_any (P : Nat) (l : List UInt8) (at_ : Nat) (w : World) (h : Rd w P l at_ .nil) (hl : l.length ≤ 4611686018427387904) :
    Calls Tryd.prog 10 #[.pointer (some ⟨P, 0, none⟩)] w (UintR P l at_ w) := by
  have hat : at_ ≤ l.length := by obtain ⟨_, _, _, _, _, _, h4⟩ := h; exact h4.1
  by_cases he : at_ = l.length
  · subst he; exact uint_end P l w h hl
  · exact uint_main P l at_ w h hl (by omega)
theorem read_any (A : Option Addr) (n c : Nat) (l : List UInt8) (hn : n = l.length) (w : World) (h : Bs w w.heap.size A l) (hl : l.length ≤ 140737488355328) :
    Calls Tryd.prog 9 #[.slice A n c] w fun e w' => (∃ P, e = .returned (.pointer (some ⟨P, 0, none⟩)) ∧ Rd w' P l 0 .nil ∧ w.heap.size ≤ P) ∧ Below w.heap.size w w' := by
  have H := Lib.hid h
  have HN := Lib.hid hn
  have HL := Lib.hid hl
  clear h hn hl
  go_enter Tryd.func9, Tryd.ntmps9
  go_wp2_with ((go_at_call 52); (with_reducible refine (clone_any A n c l HN.out _ H.out HL.out).mono ?_); rintro e w1 ⟨A1, c1, rfl, r1, b1⟩; have R1 := Lib.hid r1; have B1 := Lib.hid b1; clear r1 b1)
  go_ret
  have hcap := AppS.cap (AppS.row R1.out rfl) (by have := HL.out; omega)
  refine ⟨⟨w1.heap.size, rfl, ⟨A1, c1, .nilIface, Pt.new _ _ _, ?_, rfl, Nat.zero_le _, hcap.1, hcap.2⟩, B1.out.size⟩, B1.out.alloc B1.out.size _⟩
  exact bs_at R1.out.bs' ((Below.refl _ _).alloc (Nat.le_refl _) _)
theorem err_nil (w : World) : Calls Tryd.prog 20 #[.pointer none] w fun e w' => e = .returned (.iface 49 (.int .i64 1)) ∧ w = w' := by
  go_enter Tryd.func20, Tryd.ntmps20
  go_wp2_with ((go_at_call 29); (with_reducible refine (of_num 1 _ rfl).mono ?_); rintro e w' ⟨rfl, rfl⟩)
  go_ret
  exact ⟨rfl, rfl⟩
theorem err_ok (P : Nat) (l : List UInt8) (at_ : Nat) (w : World) (h : Rd w P l at_ .nil) :
    Calls Tryd.prog 20 #[.pointer (some ⟨P, 0, none⟩)] w fun e w' => e = .returned .nilIface ∧ w = w' := by
  have c := h.noerr
  clear h
  go_enter Tryd.func20, Tryd.ntmps20
  go_wp2_with fail
  go_ret
  exact ⟨rfl, rfl⟩
theorem err_bad (P : Nat) (l : List UInt8) (at_ : Nat) (er : Er) (w : World) (h : Rd w P l at_ er) (he : nilB er = false) :
    Calls Tryd.prog 20 #[.pointer (some ⟨P, 0, none⟩)] w fun e w' => (∃ t a, e = .returned (.iface t a) ∧ EV w er (.iface t a)) ∧ w = w' := by
  obtain ⟨A, c, v, hp, hb, hev, h4⟩ := h
  rcases hev.val with ⟨rfl, _⟩ | ⟨_, t, a, rfl⟩
  · cases he
  have c1 := hp.cell
  have HE := Lib.hid hev
  clear hp hb h4 hev he
  go_enter Tryd.func20, Tryd.ntmps20
  go_wp2_with fail
  go_ret
  exact ⟨⟨t, a, rfl, HE.out⟩, rfl⟩
theorem left_nil (w : World) : Calls Tryd.prog 18 #[.pointer none] w fun e w' => e = .returned (.int .i64 0) ∧ w = w' := by
  go_enter Tryd.func18, Tryd.ntmps18
  go_wp2_with fail
  go_ret
  exact ⟨rfl, rfl⟩
theorem left_any (P : Nat) (l : List UInt8) (at_ : Nat) (er : Er) (w : World) (h : Rd w P l at_ er) (hl : l.length ≤ 4611686018427387904) :
    Calls Tryd.prog 18 #[.pointer (some ⟨P, 0, none⟩)] w fun e w' => e = .returned (.int .i64 ((l.length : Int) - at_)) ∧ ∃ q, w' = w.drewN q := by
  obtain ⟨A, c, v, hp, hb, hev, h4⟩ := h
  have c1 := hp.cell
  have hi : IntKind.i64.wrap ((l.length : Int) - at_) = (l.length : Int) - at_ := by rw [i64_w]; exact w64 (by omega) (by omega)
  have hi2 : wrap64 ((l.length : Int) - at_) = (l.length : Int) - at_ := w64 (by omega) (by omega)
  clear hp hb h4 hev hl
  go_enter Tryd.func18, Tryd.ntmps18
  go_wp2_with fail
  (try (go_quiet (fail); go_wp2_with fail))
  go_ret
  exact ⟨rfl, _, rfl⟩
/-! signed numbers -/
def foldI (n : Int) : Nat := if 0 ≤ n then (2 * n).toNat else (-2 * n - 1).toNat
def openI (u : Nat) : Int := if u % 2 = 0 then ((u / 2 : Nat) : Int) else -((u / 2 : Nat) : Int) - 1
theorem u64w (x : Int) : IntKind.u64.wrap x = x % 18446744073709551616 := by first | rfl | simp [IntKind.wrap]
theorem xor_ones (a : Nat) (ha : a < 18446744073709551616) : a ^^^ 18446744073709551615 = 18446744073709551615 - a := by
  have h : (BitVec.ofNat 64 a ^^^ BitVec.allOnes 64).toNat = 18446744073709551615 - a := by
    rw [BitVec.xor_allOnes, BitVec.toNat_not, BitVec.toNat_ofNat, Nat.mod_eq_of_lt ha]
  rw [BitVec.toNat_xor, BitVec.toNat_ofNat, Nat.mod_eq_of_lt ha] at h
  exact h
set_option maxRecDepth 20000 in
theorem fold_num (n : Int) (h1 : -9223372036854775808 ≤ n) (h2 : n ≤ 9223372036854775807) : bits BinOp.xor IntKind.u64 (IntKind.u64.wrap (IntKind.u64.wrap n * 2)) (IntKind.u64.wrap (n / 9223372036854775808)) = (foldI n : Int) := by
  rw [u64w, u64w, u64w]
  unfold foldI
  split
  · have e1 : n % 18446744073709551616 * 2 % 18446744073709551616 = ((2 * n).toNat : Int) := by omega
    have e2 : n / 9223372036854775808 % 18446744073709551616 = ((0 : Nat) : Int) := by omega
    rw [e1, e2, u64_xor_nat _ _ (by omega) (by omega), Nat.xor_zero]
  · have e1 : n % 18446744073709551616 * 2 % 18446744073709551616 = ((18446744073709551616 + 2 * n).toNat : Int) := by omega
    have e2 : n / 9223372036854775808 % 18446744073709551616 = ((18446744073709551615 : Nat) : Int) := by omega
    rw [e1, e2, u64_xor_nat _ _ (by omega) (by omega), xor_ones _ (by omega)]
    omega
theorem fold_any (n : Int) (h : -9223372036854775808 ≤ n ∧ n ≤ 9223372036854775807) (w : World) :
    Calls Tryd.prog 51 #[.int .i64 n] w fun e w' => e = .returned (.int .u64 (foldI n)) ∧ w = w' := by
  have H := Lib.hid h
  clear h
  go_enter Tryd.func51, Tryd.ntmps51
  go_wp2_with fail
  go_ret
  exact ⟨ret_int (fold_num n H.out.1 H.out.2), rfl⟩
theorem xor_neg1 (x : Nat) (hx : x < 9223372036854775808) : bits BinOp.xor IntKind.i64 (x : Int) (-1) = -(x : Int) - 1 := by
  have h1 : (BitVec.ofInt 64 (x : Int) ^^^ BitVec.ofInt 64 (-1)).toNat = 18446744073709551615 - x := by
    have e1 : BitVec.ofInt 64 (-1) = BitVec.allOnes 64 := by decide
    have e2 : BitVec.ofInt 64 (x : Int) = BitVec.ofNat 64 x := BitVec.ofInt_natCast ..
    rw [e1, e2, BitVec.xor_allOnes, BitVec.toNat_not, BitVec.toNat_ofNat, Nat.mod_eq_of_lt (by omega)]
  show IntKind.i64.wrap ((BitVec.ofInt 64 (x : Int) ^^^ BitVec.ofInt 64 (-1)).toNat : Int) = _
  rw [h1, i64_w]
  unfold wrap64
  omega
theorem xor_zero64 (x : Nat) (hx : x < 9223372036854775808) : bits BinOp.xor IntKind.i64 (x : Int) 0 = (x : Int) := by
  have e2 : BitVec.ofInt 64 (x : Int) = BitVec.ofNat 64 x := BitVec.ofInt_natCast ..
  show IntKind.i64.wrap ((BitVec.ofInt 64 (x : Int) ^^^ BitVec.ofInt 64 0).toNat : Int) = _
  rw [e2, show BitVec.ofInt 64 0 = 0#64 by decide, BitVec.xor_zero, BitVec.toNat_ofNat, Nat.mod_eq_of_lt (by omega), i64_w]
  exact w64 (by omega) (by omega)
set_option maxRecDepth 20000 in
theorem open_num (u : Nat) (h : u < 18446744073709551616) : bits BinOp.xor IntKind.i64 (wrap64 ((u : Int) / 2)) (wrap64 (-wrap64 (bits BinOp.and IntKind.u64 (u : Int) 1))) = openI u := by
  have ha : bits BinOp.and IntKind.u64 (u : Int) 1 = ((u % 2 : Nat) : Int) := by
    have := u64_and_nat u 1 h (by omega)
    rw [Nat.and_one_is_mod] at this
    exact this
  have e1 : (u : Int) / 2 = ((u / 2 : Nat) : Int) := by omega
  rw [ha, e1, w64 (n := ((u / 2 : Nat) : Int)) (by omega) (by omega)]
  unfold openI
  by_cases hu : u % 2 = 0
  · rw [if_pos hu, hu]
    rw [show wrap64 (-wrap64 ((0 : Nat) : Int)) = 0 by unfold wrap64; omega]
    exact xor_zero64 (u / 2) (by omega)
  · rw [if_neg hu, show u % 2 = 1 by omega]
    rw [show wrap64 (-wrap64 ((1 : Nat) : Int)) = -1 by unfold wrap64; omega]
    exact xor_neg1 (u / 2) (by omega)
theorem open_any (u : Nat) (h : u < 18446744073709551616) (w : World) :
    Calls Tryd.prog 57 #[.int .u64 u] w fun e w' => e = .returned (.int .i64 (openI u)) ∧ w = w' := by
  have H := Lib.hid h
  clear h
  go_enter Tryd.func57, Tryd.ntmps57
  go_wp2_with fail
  go_ret
  exact ⟨ret_int (open_num u H.out), rfl⟩

theorem open_fold (n : Int) (h1 : -9223372036854775808 ≤ n) (h2 : n ≤ 9223372036854775807) : openI (foldI n) = n := by
  unfold openI foldI
  split <;> split <;> omega
theorem fold_open (u : Nat) (h : u < 18446744073709551616) : foldI (openI u) = u := by
  unfold openI foldI
  split <;> split <;> omega
theorem foldI_lt (n : Int) (h1 : -9223372036854775808 ≤ n) (h2 : n ≤ 9223372036854775807) : foldI n < 18446744073709551616 := by
  unfold foldI
  split <;> omega
theorem openI_bd (u : Nat) (h : u < 18446744073709551616) : -9223372036854775808 ≤ openI u ∧ openI u ≤ 9223372036854775807 := by
  unfold openI
  split <;> omega

theorem open_zero (w : World) : Calls Tryd.prog 57 #[.int .u64 0] w fun e w' => e = .returned (.int .i64 0) ∧ w = w' := open_any 0 (by decide) w
theorem clone_nil (w : World) : Calls Tryd.prog 52 #[.slice none 0 0] w fun e w' => e = .returned (.slice none 0 0) ∧ w = w' := by
  have h1 := fun w => Lib.run_eql_slice_nil (P := Tryd.prog) w
  go_enter Tryd.func52, Tryd.ntmps52
  go_wp2
  go_ret
  exact ⟨rfl, rfl⟩
theorem int_nil (w : World) : Calls Tryd.prog 12 #[.pointer none] w fun e w' => e = .returned (.int .i64 0) ∧ w = w' := by
  go_enter Tryd.func12, Tryd.ntmps12
  go_wp2_with (first | ((go_at_call 10); (with_reducible refine (uint_nil _).mono ?_); rintro e w' ⟨rfl, rfl⟩) | ((go_at_call 57); (with_reducible refine (open_zero _).mono ?_); rintro e w' ⟨rfl, rfl⟩))
  go_ret
  exact ⟨rfl, rfl⟩
theorem uintN_lt (r : List UInt8) : uintN r < 18446744073709551616 := by
  unfold uintN
  split
  · rename_i h; exact (enc_dec h).2.1
  · omega
def IntR (P : Nat) (l : List UInt8) (at_ : Nat) (w : World) (e : Ending) (w' : World) : Prop :=
  e = .returned (.int .i64 (openI (uintN (l.drop at_)))) ∧ Rd w' P l (at_ + uintK (l.drop at_)) (uintE at_ (l.drop at_)) ∧ Only P w w'
theorem int_any (P : Nat) (l : List UInt8) (at_ : Nat) (w : World) (h : Rd w P l at_ .nil) (hl : l.length ≤ 4611686018427387904) :
    Calls Tryd.prog 12 #[.pointer (some ⟨P, 0, none⟩)] w (IntR P l at_ w) := by
  have H := Lib.hid h
  have HL := Lib.hid hl
  have HN := Lib.hid (uintN_lt (l.drop at_))
  clear h hl
  go_enter Tryd.func12, Tryd.ntmps12
  go_wp2_with (first | ((go_at_call 10); (with_reducible refine (uint_any P l at_ _ H.out HL.out).mono ?_); rintro e w1 ⟨rfl, r1, o1⟩; have R1 := Lib.hid r1; have O1 := Lib.hid o1; clear r1 o1) | ((go_at_call 57); (with_reducible refine (open_any _ HN.out _).mono ?_); rintro e w' ⟨rfl, rfl⟩))
  go_ret
  exact ⟨rfl, R1.out, O1.out⟩
theorem upto_nil (n : Int) (w : World) : Calls Tryd.prog 14 #[.pointer none, .int .u64 n] w fun e w' => e = .returned (.int .u64 0) ∧ w = w' := by
  go_enter Tryd.func14, Tryd.ntmps14
  go_wp2_with fail
  go_ret
  exact ⟨rfl, rfl⟩
theorem take_nil (n : Int) (w : World) : Calls Tryd.prog 55 #[.pointer none, .int .i64 n] w fun e w' => e = .returned (.slice none 0 0) ∧ w = w' := by
  go_enter Tryd.func55, Tryd.ntmps55
  go_wp2_with fail
  go_ret
  exact ⟨rfl, rfl⟩
theorem bytes_nil (n : Int) (w : World) : Calls Tryd.prog 16 #[.pointer none, .int .i64 n] w fun e w' => e = .returned (.slice none 0 0) ∧ w = w' := by
  go_enter Tryd.func16, Tryd.ntmps16
  go_wp2_with (first | ((go_at_call 55); (with_reducible refine (take_nil _ _).mono ?_); rintro e w' ⟨rfl, rfl⟩) | ((go_at_call 52); (with_reducible refine (clone_nil _).mono ?_); rintro e w' ⟨rfl, rfl⟩))
  go_ret
  exact ⟨rfl, rfl⟩
theorem end_nil (w : World) : Calls Tryd.prog 21 #[.pointer none] w fun e w' => e = .returned (.iface 49 (.int .i64 1)) ∧ w = w' := by
  have h1 := fun w => eql_iface_nil (P := Tryd.prog) w (ti := 39) (ta := 49) (.int .i64 1) Tryd.underlying39
  go_enter Tryd.func21, Tryd.ntmps21
  go_wp2_with (first | ((go_at_call 20); (with_reducible refine (err_nil _).mono ?_); rintro e w' ⟨rfl, rfl⟩))
  go_ret
  exact ⟨rfl, rfl⟩
theorem put_n (A A2 : Option Addr) (n c m c2 : Nat) (l : List UInt8) (ns : List Int) (out : List UInt8) (ho : out = l ++ ns.flatMap fun x => encU x.toNat) (hn : n = l.length) (hm : m = ns.length) (w : World) (h : Bs w w.heap.size A l) (h2 : Is .u64 w w.heap.size A2 ns) (hns : ∀ x ∈ ns, 0 ≤ x ∧ x < 18446744073709551616)
    (hc : n ≤ c ∧ c ≤ 9223372036854775807) (hl : l.length + 9 * ns.length ≤ 140737488000000) :
    Calls Tryd.prog 50 #[.slice A n c, .slice A2 m c2] w (RetBs w out) := by
  subst ho; exact put_any A A2 n c m c2 l ns hn hm w h h2 hns hc hl
theorem fold_n (n : Int) (m : Nat) (hm : foldI n = m) (h : -9223372036854775808 ≤ n ∧ n ≤ 9223372036854775807) (w : World) :
    Calls Tryd.prog 51 #[.int .i64 n] w fun e w' => e = .returned (.int .u64 m) ∧ w = w' := by
  subst hm; exact fold_any n h w
end Go.Proofs.YtmjdlofkjjofcaaDoor

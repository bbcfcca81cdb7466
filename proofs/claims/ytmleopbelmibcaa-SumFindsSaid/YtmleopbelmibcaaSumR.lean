/- The reference of chapter 3: the sum, bit by bit. -/
import Derived.Test.YtmleopbelmibcaaProg
import Derived.Test.YtmleopbelmibcaaKit
import Derived.Test.YtmleopbelmibcaaBytes
import Derived.Test.YtmleopbelmibcaaSumV
import Derived.Test.YtmleopbelmibcaaSum
import Derived.Test.YtmleopbelmibcaaSumA
import Derived.Laws.BitsAllLaws
import Derived.Deep.QuietTactic
import Derived.BigQuiet
namespace Go.Proofs.Ytmleopbelmibcaa
open Go.RowKit
set_option linter.unusedVariables false
set_option linter.unusedSimpArgs false

def rV (c j : Nat) : V := BitVec.ofNat 32 ((c % 2 ^ (8 - j)) * 2 ^ (24 + j))
def bitV (b : Nat) : V := if b = 1 then 2147483648#32 else 0
theorem r_step0 : ∀ c : Fin 256, ∀ j : Fin 8, turnV (rV c.val j.val) = turnV (bitV (c.val / 2 ^ (7 - j.val) % 2)) ^^^ rV c.val (j.val + 1) := by decide +kernel
theorem r_step (c j : Nat) (hc : c < 256) (hj : j < 8) : turnV (rV c j) = turnV (bitV (c / 2 ^ (7 - j) % 2)) ^^^ rV c (j + 1) := r_step0 ⟨c, hc⟩ ⟨j, hj⟩
def stepR (m : V) (b : Nat) : V := if (b = 1) = (m.msb = true) then m <<< 1 else (m <<< 1) ^^^ polyV
theorem stepR_eq (m : V) (b : Nat) (hb : b < 2) : stepR m b = turnV m ^^^ turnV (bitV b) := by
  have h1 : turnV (bitV 1) = polyV := by decide
  have h0 : turnV (bitV 0) = 0 := by decide
  unfold stepR
  obtain rfl | rfl : b = 0 ∨ b = 1 := by omega
  · rw [h0]; unfold turnV
    cases m.msb <;> simp
  · rw [h1]; unfold turnV
    cases m.msb <;> simp [BitVec.xor_assoc]
theorem r_zero (c : UInt8) : rV c.toNat 0 = (BitVec.ofNat 32 c.toNat) <<< 24 := by
  have := c.toNat_lt
  apply BitVec.eq_of_toNat_eq
  unfold rV
  rw [BitVec.toNat_shiftLeft, BitVec.toNat_ofNat, BitVec.toNat_ofNat, Nat.shiftLeft_eq]
  omega
theorem r_last (c : Nat) : rV c 8 = 0 := by unfold rV; simp [Nat.mod_one]
theorem left_step (n m : V) (c : UInt8) (k : Nat) (hk : k < 8) (h : byteV n c = turnK (k + 1) (m ^^^ rV c.toNat (8 - (k + 1)))) :
    byteV n c = turnK k (stepR m (c.toNat / 2 ^ k % 2) ^^^ rV c.toNat (8 - k)) := by
  rw [h]
  have e := r_step c.toNat (8 - (k + 1)) c.toNat_lt (by omega)
  rw [show 7 - (8 - (k + 1)) = k by omega, show 8 - (k + 1) + 1 = 8 - k by omega] at e
  show turnK k (turnV (m ^^^ rV c.toNat (8 - (k + 1)))) = _
  rw [turnV_xor, e, stepR_eq _ _ (Nat.mod_lt _ (by omega)), BitVec.xor_assoc]
theorem top_of (m : V) : (m.toNat : Int) / (2147483648 : Int) = if m.msb then 1 else 0 := by
  have := m.isLt
  rw [BitVec.msb_eq_decide]
  by_cases h : 2 ^ (32 - 1) ≤ m.toNat
  · simp only [h, decide_true, if_true]; omega
  · simp only [h, decide_false, Bool.false_eq_true, if_false]; omega

theorem bit_u8 (c : UInt8) (k : Nat) : ((c.toNat : Int) / 2 ^ k) % 2 = ((c.toNat / 2 ^ k % 2 : Nat) : Int) := by
  have h1 : ((c.toNat / 2 ^ k : Nat) : Int) = (c.toNat : Int) / 2 ^ k := by simp
  rw [← h1]
  omega
theorem ones_sub (x : V) : (4294967295 : Int) - (x.toNat : Int) = ((x ^^^ onesV).toNat : Int) := by
  have := x.isLt
  rw [not_u32]
  omega
theorem dbl (m : V) : (m.toNat : Int) * (2 : Int) % (4294967296 : Int) = ((m <<< 1).toNat : Int) := shl1_u32 m

theorem dbl0 (m : V) (h : m.msb = false) : (m.toNat : Int) * (2 : Int) = ((m <<< 1).toNat : Int) := by
  rw [← dbl]
  have := m.isLt
  rw [BitVec.msb_eq_decide] at h
  have := of_decide_eq_false h
  omega
theorem val00 (m : V) (h : m.msb = false) : Value.int IntKind.u32 ((m.toNat : Int) * (2 : Int)) = Value.int IntKind.u32 ((stepR m 0).toNat : Int) := by
  rw [dbl0 m h]; unfold stepR; simp [h]
theorem val11 (m : V) (h : m.msb = true) : Value.int IntKind.u32 ((m.toNat : Int) * (2 : Int) % (4294967296 : Int)) = Value.int IntKind.u32 ((stepR m 1).toNat : Int) := by
  rw [dbl m]; unfold stepR; simp [h]
theorem val01 (m : V) (h : m.msb = true) : Value.int IntKind.u32 (bits BinOp.xor IntKind.u32 ((m.toNat : Int) * (2 : Int) % (4294967296 : Int)) 79764919) = Value.int IntKind.u32 ((stepR m 0).toNat : Int) := by
  rw [dbl m, show (79764919 : Int) = ((polyV.toNat : Nat) : Int) from rfl, xor_u32]; unfold stepR; simp [h]
theorem val10 (m : V) (h : m.msb = false) : Value.int IntKind.u32 (bits BinOp.xor IntKind.u32 ((m.toNat : Int) * (2 : Int)) 79764919) = Value.int IntKind.u32 ((stepR m 1).toNat : Int) := by
  rw [dbl0 m h, show (79764919 : Int) = ((polyV.toNat : Nat) : Int) from rfl, xor_u32]; unfold stepR; simp [h]

set_option maxHeartbeats 2000000 in
set_option maxRecDepth 20000 in
theorem refOf_any (A : Option Addr) (c : Nat) (l : List UInt8) (w : World) (h : Bs w w.heap.size A l) (hl : l.length ≤ 9223372036854775807) :
    Calls Try.prog 40 #[.slice A l.length c] w fun e w' => e = .returned (.int .u32 (sumOf l).toNat) ∧ w = w' := by
  have HB := Lib.hid h
  have HL := Lib.hid hl
  clear h hl
  go_enter Try.func40, Try.ntmps40
  go_wp2_with fail
  go_loop [3, 4] (fun n i => ∃ k : Nat, k ≤ l.length ∧ i = .int .i64 k ∧ n = .int .u32 (stateV onesV (l.take k)).toNat) (fun _ i => l.length - (intOf i).toNat)
  case atStart => exact ⟨0, Nat.zero_le _, rfl, rfl⟩
  case round =>
    obtain ⟨k, hk, rfl, rfl⟩ := hrel
    by_cases hlt : k < l.length
    · obtain ⟨b, o, rfl, cx⟩ := HB.out.at_ hlt
      have hstep := Lib.hid (stateV_take onesV l k hlt)
      generalize hm : stateV onesV (l.take k) = n0 at *
      generalize hch : l.getD k 0 = ch at *
      clear hm hch
      have hw := Lib.hid (Cnt.w1 hlt HL.out)
      go_wp2_with fail
      go_loop [3, 5] (fun n i => ∃ (kk : Nat) (m : V), kk ≤ 8 ∧ i = .int .i64 ((kk : Int) - 1) ∧ n = .int .u32 m.toNat ∧ Hid (byteV n0 ch = turnK kk (m ^^^ rV ch.toNat (8 - kk)))) (fun _ i => (intOf i + 1).toNat)
      case atStart => exact ⟨8, n0, by omega, rfl, rfl, Lib.hid (by unfold byteV; rw [r_zero])⟩
      case round =>
        obtain ⟨kk, m, hkk, rfl, rfl, hr⟩ := hrel
        cases kk with
        | zero =>
          go_wp2_with fail
          have hf : m = byteV n0 ch := by rw [hr.out, r_last]; simp [turnK]
          rw [hw.out]
          exact ⟨⟨k + 1, by omega, rfl, by rw [hstep.out, hf]⟩, Cnt.m1 hlt⟩
        | succ kk =>
          have e1 : ((kk + 1 : Nat) : Int) - 1 = kk := by omega
          have hr' := left_step n0 m ch kk (by omega) hr.out
          have hmin : min kk 8 = kk := by omega
          have hb := bit_u8 ch kk
          have ht := top_of m
          have hmk : (0 : Int) ≤ kk := by omega
          have hbt : ch.toNat / 2 ^ kk % 2 < 2 := Nat.mod_lt _ (by omega)
          generalize ch.toNat / 2 ^ kk % 2 = bt at hr' hb hbt
          rw [e1]
          clear hr e1
          have hD := Lib.hid (dbl m)
          obtain rfl | rfl : bt = 0 ∨ bt = 1 := by omega
          · cases hm : m.msb
            · rw [hm] at ht
              simp only [Bool.false_eq_true, if_false] at ht
              have HR := Lib.hid hr'
              clear hr'
              go_wp2_with fail
              exact ⟨⟨kk, stepR m 0, by omega, rfl, val00 m hm, HR⟩, by simp only [intOf]; omega⟩
            · rw [hm] at ht
              simp only [if_true] at ht
              have HR := Lib.hid hr'
              clear hr'
              go_wp2_with fail
              exact ⟨⟨kk, stepR m 0, by omega, rfl, val01 m hm, HR⟩, by simp only [intOf]; omega⟩
          · cases hm : m.msb
            · rw [hm] at ht
              simp only [Bool.false_eq_true, if_false] at ht
              have HR := Lib.hid hr'
              clear hr'
              go_wp2_with fail
              exact ⟨⟨kk, stepR m 1, by omega, rfl, val10 m hm, HR⟩, by simp only [intOf]; omega⟩
            · rw [hm] at ht
              simp only [if_true] at ht
              have HR := Lib.hid hr'
              clear hr'
              go_wp2_with fail
              exact ⟨⟨kk, stepR m 1, by omega, rfl, val11 m hm, HR⟩, by simp only [intOf]; omega⟩
    · have hk2 : k = l.length := by omega
      rw [hk2, List.take_length]
      clear hk2
      go_wp2_with fail
      go_ret
      exact ⟨ret_int (ones_sub _), rfl⟩

theorem refOf_n (A : Option Addr) (n c : Nat) (l : List UInt8) (hn : n = l.length) (w : World) (h : Bs w w.heap.size A l) (hl : l.length ≤ 9223372036854775807) :
    Calls Try.prog 40 #[.slice A n c] w fun e w' => e = .returned (.int .u32 (sumOf l).toNat) ∧ w = w' := by
  subst hn; exact refOf_any A c l w h hl
theorem of_n (A : Option Addr) (n c : Nat) (l : List UInt8) (hn : n = l.length) (w : World) (h : Bs w w.heap.size A l) (hl : l.length ≤ 9223372036854775807) :
    Calls Try.prog 28 #[.slice A n c] w fun e w' => e = .returned (.int .u32 (sumOf l).toNat) ∧ Below w.heap.size w w' := by
  subst hn; exact of_any A c l w h hl
end Go.Proofs.Ytmleopbelmibcaa

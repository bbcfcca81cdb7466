/- SumFinds, walked. -/
import Derived.Test.YtmleopbelmibcaaProg
import Derived.Test.YtmleopbelmibcaaKit
import Derived.Test.YtmleopbelmibcaaBytes
import Derived.Test.YtmleopbelmibcaaApp
import Derived.Test.YtmleopbelmibcaaAppSet
import Derived.Test.YtmleopbelmibcaaSumV
import Derived.Test.YtmleopbelmibcaaSumF
import Derived.Test.YtmleopbelmibcaaSum
import Derived.Test.YtmleopbelmibcaaSumA
import Derived.Test.YtmleopbelmibcaaSumR
import Derived.Test.YtmleopbelmibcaaSumL
import Derived.Test.YtmleopbelmibcaaInts
import Derived.Test.YtmleopbelmibcaaOpen
import Derived.Deep.QuietTactic
import Derived.BigQuiet
import Derived.RegionTactic
import Derived.BigRegion
namespace Go.Proofs.Ytmleopbelmibcaa
open Go.RowKit
set_option linter.unusedVariables false
set_option linter.unusedSimpArgs false

theorem at_idx (x : Int) (n : Nat) (h1 : 4 ≤ n) (h2 : n ≤ 20000) : ∃ i : Nat, wrap64 ((IntKind.u64.wrap x).tmod (8 * (n : Int) - 31)) = i ∧ i + 31 < 8 * n := by
  have h0 : 0 ≤ IntKind.u64.wrap x := by
    have e : IntKind.u64.wrap x = x % 18446744073709551616 := by first | rfl | simp [IntKind.wrap]
    rw [e]; omega
  rw [Int.tmod_eq_emod_of_nonneg h0]
  have h3 := Int.emod_nonneg (IntKind.u64.wrap x) (show (8 * (n : Int) - 31) ≠ 0 by omega)
  have h4 := Int.emod_lt_of_pos (IntKind.u64.wrap x) (show 0 < (8 * (n : Int) - 31) by omega)
  refine ⟨(IntKind.u64.wrap x % (8 * (n : Int) - 31)).toNat, ?_, by omega⟩
  rw [w64 (by omega) (by omega)]
  omega

theorem xor_flip (c : UInt8) (p : Nat) : bits BinOp.xor IntKind.u8 (c.toNat : Int) ((128 : Int) / 2 ^ (p % 8)) = ((c ^^^ flipB p).toNat : Int) := by
  have h1 : (128 : Int) / 2 ^ (p % 8) = ((flipB p).toNat : Int) := by
    unfold flipB
    have : ∀ r : Fin 8, (128 : Int) / 2 ^ r.val = ((UInt8.ofNat (128 / 2 ^ r.val)).toNat : Int) := by decide +kernel
    exact this ⟨p % 8, Nat.mod_lt _ (by omega)⟩
  rw [h1, u8_xor_nat _ _ c.toNat_lt (flipB p).toNat_lt, UInt8.toNat_xor]

theorem round_facts {b c : List UInt8} (i k : Nat) (bits : V) {wr : World} {base g n cap : Nat} {e : TypeId} (hc : bits.getLsbD k = true) (hlt : k < 32) (hF : FlipsTo b i bits k c) (hR : Row wr base e (.slice (some ⟨g, 0, none⟩) n cap) c) (hi : i + k < 8 * b.length) (hl : b.length ≤ 20000) :
    ∃ p q r : Nat, wrap64 ((i : Int) + k) = p ∧ IntKind.i64.wrap ((i : Int) + k) = p ∧ (p : Int).tdiv 8 = q ∧ (p : Int) / 8 = q ∧ (p : Int).tmod 8 = r ∧ (p : Int) % 8 = r ∧ r < 8 ∧ q < b.length ∧
      ∃ x y : UInt8, Hid (FlipsTo b i bits (k + 1) (c.set q y)) ∧ wr.cell? ⟨g, q, none⟩ = some (.int .u8 x.toNat) ∧ wr.frozen? ⟨g, q, none⟩ = false ∧
      Hid (Row (wr.setCell ⟨g, q, none⟩ (.int .u8 y.toNat)) base e (.slice (some ⟨g, 0, none⟩) n cap) (c.set q y)) ∧ Go.bits BinOp.xor IntKind.u8 (x.toNat : Int) ((128 : Int) / 2 ^ r) = (y.toNat : Int) := by
  have hql : (i + k) / 8 < c.length := by rw [hF.1]; omega
  have e0 : wrap64 ((i : Int) + k) = ((i + k : Nat) : Int) := w64 (by omega) (by omega)
  exact ⟨i + k, (i + k) / 8, (i + k) % 8, e0, by rw [i64_w]; exact e0, by rw [Int.tdiv_eq_ediv_of_nonneg (by omega)]; omega, by omega, by rw [Int.tmod_eq_emod_of_nonneg (by omega)]; omega, by omega, by omega, by omega,
    _, _, Lib.hid (hF.yes hc hlt (by omega)), hR.cell hql, hR.free _, Lib.hid (hR.set hql _), xor_flip _ _⟩

theorem ne_u32 {x y : V} (h : x ≠ y) : ((x.toNat : Int) != (y.toNat : Int)) = true := by
  rw [bne_iff_ne]
  intro e
  exact h (BitVec.eq_of_toNat_eq (by omega))

set_option maxHeartbeats 4000000 in
set_option maxRecDepth 100000 in
theorem sumFinds_walk0 (A0 : Option Addr) (c0 : Nat) (b : List UInt8) (at_ : Int) (bits : V) (w : World) (h0 : Bs w w.heap.size A0 b) (l0 : b.length ≤ 140737488351232) (ha : -9223372036854775808 ≤ at_ ∧ at_ ≤ 9223372036854775807) :
    Calls Try.prog 6 #[.slice A0 b.length c0, .int .i64 at_, .int .u32 bits.toNat] w fun e w' => e = .returned (.bool true) ∧ Below w.heap.size w w' := by
  have H0 := Lib.hid h0
  have L0 := Lib.hid (show b.length ≤ 9223372036854775807 by omega)
  have HBW := Below.refl w.heap.size w
  clear h0 l0
  by_cases hb : b.length < 4 ∨ b.length > 20000 ∨ bits = 0
  · rcases hb with hb | hb | hb
    · have hb1 : decide ((b.length : Int) < 4) = true := decide_eq_true (by omega)
      go_enter Try.func6, Try.ntmps6
      go_wp2_with ((go_at_call 27); (with_reducible refine (lives3_any _).mono ?_); rintro e w' ⟨rfl, hb⟩; have HBW := HBW.trans (hb.mono HBW.size))
      go_ret
      exact ⟨rfl, HBW⟩
    · have hb1 : decide ((b.length : Int) < 4) = false := decide_eq_false (by omega)
      have hb2 : decide ((b.length : Int) > 20000) = true := decide_eq_true (by omega)
      go_enter Try.func6, Try.ntmps6
      go_wp2_with ((go_at_call 27); (with_reducible refine (lives3_any _).mono ?_); rintro e w' ⟨rfl, hb⟩; have HBW := HBW.trans (hb.mono HBW.size))
      go_ret
      exact ⟨rfl, HBW⟩
    · subst hb
      have hb3 : (((0 : V).toNat : Int) == 0) = true := rfl
      go_enter Try.func6, Try.ntmps6
      go_wp2_with ((go_at_call 27); (with_reducible refine (lives3_any _).mono ?_); rintro e w' ⟨rfl, hb⟩; have HBW := HBW.trans (hb.mono HBW.size))
      all_goals go_ret
      all_goals exact ⟨rfl, HBW⟩
  · have hb1 : decide ((b.length : Int) < 4) = false := decide_eq_false (by omega)
    have hb2 : decide ((b.length : Int) > 20000) = false := decide_eq_false (by omega)
    have hb0 : bits ≠ 0 := fun e => hb (Or.inr (Or.inr e))
    have hb3 : ((bits.toNat : Int) == 0) = false := by
      rw [beq_eq_false_iff_ne]
      intro e
      exact hb0 (BitVec.eq_of_toNat_eq (by simpa using e))
    have HB0 := Lib.hid hb0
    clear hb0
    go_enter Try.func6, Try.ntmps6
    go_wp2_with (first | ((go_at_call 27); (with_reducible refine (lives3_any _).mono ?_); rintro e w' ⟨rfl, hb⟩; have HBW := HBW.trans (hb.mono HBW.size)) | ((with_reducible refine at_dst (N := 29) rfl ?_); have HBX := HBW; have HBW := HBW.alloc HBW.size (.cells #[] 5); refine app_bytes2 rfl (.tmp 27) (.tmp 28) 40 rfl rfl (by kernel_rfl) [] b rfl (Row.mk0 _ _) rfl rfl (bs_at H0.out HBW) rfl ?h1 ?h2 ?_; (case h1 => have := L0.out; omega); (case h2 => simp); intro A4 c4 w4 r4 b4 _; have HBW := HBW.trans (b4.mono HBX.size); have r4 := Lib.hid r4))
    have hI : ∃ i : Nat, wrap64 ((IntKind.u64.wrap at_).tmod (8 * (b.length : Int) - 31)) = i ∧ i + 31 < 8 * b.length := at_idx at_ b.length (by omega) (by omega)
    obtain ⟨i, hi, hi2⟩ := hI
    rw [hi]
    clear hi hb1 hb2 hb3
    obtain ⟨g, cur, rfl, _, hg, _⟩ := r4.out.block (by omega)
    have hgw : w.heap.size ≤ g := Nat.le_trans HBX.size hg
    have hl1 : b.length ≤ 20000 := by omega
    go_loopw [39] (fun v wr => ∃ k : Nat, k ≤ 32 ∧ v = .int .i64 k ∧ Hid (∃ c, FlipsTo b i bits k c ∧ Row wr w'.heap.size 5 (.slice (some ⟨g, 0, none⟩) b.length c4) c) ∧ Hid (Below w.heap.size w wr)) (fun v _ => 32 - (intOf v).toNat)
    case atStart => exact ⟨0, by omega, rfl, Lib.hid ⟨b, FlipsTo.start _ _ _, r4.out⟩, Lib.hid HBW⟩
    case round =>
      obtain ⟨k, hk, rfl, hr, hB⟩ := hrel
      by_cases hlt : k < 32
      · obtain ⟨c, hF, hR⟩ := hr.out
        have hbit := bit_u32 bits k hlt
        have hm : min k 32 = k := by omega
        have hk0 : (0 : Int) ≤ k := by omega
        cases hc : bits.getLsbD k
        · rw [hc] at hbit
          simp only [Bool.false_eq_true, if_false] at hbit
          have HF := Lib.hid (hF.no hc)
          clear hF
          go_wp2_with fail
          go_roundw
          case rel => exact ⟨k + 1, by omega, rfl, Lib.hid ⟨c, HF.out, hR⟩, hB⟩
          case measure => exact Cnt.m1 hlt
        · rw [hc] at hbit
          simp only [if_true] at hbit
          obtain ⟨p, q, r, e0, e1, e2, e2', e3, e3', hr8, hqb, x, y, HF, hcell, hfree, HS, hx⟩ := round_facts i k bits hc hlt hF hR (by omega) hl1
          clear hF hr
          go_wp2_with fail
          go_region
          go_wp2_with fail
          go_roundw
          case rel => exact ⟨k + 1, by omega, rfl, Lib.hid ⟨_, HF.out, HS.out.drew⟩, Lib.hid (hB.out.setCell hgw _).drew⟩
          case measure => exact Cnt.m1 hlt
      · have hk2 : k = 32 := by omega
        subst hk2
        obtain ⟨c, hF, hR⟩ := hr.out
        have hne := Lib.hid (ne_u32 (hF.ne HB0.out))
        have HC := Lib.hid hF.1
        have HR := Lib.hid hR.bs'
        have HL2 := Lib.hid (show c.length ≤ 9223372036854775807 by have := hF.1; omega)
        have HBW := hB.out
        clear hr hF hR hB r4
        go_wp2_with (first | ((go_at_call 28); (with_reducible refine (of_any A0 c0 b _ (bs_at H0.out HBW) L0.out).mono ?_); rintro e w1 ⟨rfl, hb1⟩; have HBW := HBW.trans (hb1.mono HBW.size)) | ((go_at_call 28); (with_reducible refine (of_n _ _ c4 c HC.out.symm _ ((HR.out.below hb1).more hb1.size) HL2.out).mono ?_); rintro e w2 ⟨rfl, hb2⟩; have HBW := HBW.trans (hb2.mono HBW.size); have hne := hne.out))
        go_ret
        exact ⟨rfl, HBW⟩

theorem sumFinds_walk (A0 : Option Addr) (c0 : Nat) (b : List UInt8) (at_ n : Int) {w : World} (h0 : Bs w w.heap.size A0 b) (x0 : b.length ≤ c0) (z0 : c0 ≤ 140737488351232) (h1 : (Lit.int .i64 at_).wf = true) (h2 : (Lit.int .u32 n).wf = true) :
    Calls Try.prog 6 #[.slice A0 b.length c0, .int .i64 at_, .int .u32 n] w fun e w' => e = .returned (.bool true) ∧ Below w.heap.size w w' := by
  have e1 : IntKind.u32.min = 0 := rfl
  have e2 : IntKind.u32.max = 4294967295 := rfl
  have h3 : 0 ≤ n ∧ n ≤ 4294967295 := by simp only [Lit.wf, Bool.and_eq_true, decide_eq_true_eq] at h2; omega
  have h4 : n = ((BitVec.ofNat 32 n.toNat).toNat : Int) := by rw [BitVec.toNat_ofNat]; omega
  rw [h4]
  exact sumFinds_walk0 A0 c0 b at_ _ w h0 (by omega) (i64_wf h1)
end Go.Proofs.Ytmleopbelmibcaa

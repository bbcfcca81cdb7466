/- package sum: the state of more bytes; the sum of bytes. -/
import Derived.Test.YtmjdlofkjjofcaaProg
import Derived.Test.YtmjdlofkjjofcaaKit
import Derived.Test.YtmjdlofkjjofcaaBytes
import Derived.Test.YtmjdlofkjjofcaaSumV
import Derived.Test.YtmjdlofkjjofcaaSum
import Derived.Test.YtmjdlofkjjofcaaSumT
import Derived.Laws.BitsAllLaws
import Derived.Deep.QuietTactic
import Derived.BigQuiet
import Derived.RegionTactic
import Derived.BigRegion
namespace Go.Proofs.Ytmjdlofkjjofcaa
open Go.RowKit
set_option linter.unusedVariables false
set_option linter.unusedSimpArgs false

def ixV (n : V) (c : UInt8) : Nat := (n.toNat / 16777216) ^^^ c.toNat
theorem ixV_lt (n : V) (c : UInt8) : ixV n c < 256 := by
  have := n.isLt
  exact Nat.xor_lt_two_pow (n := 8) (by omega) c.toNat_lt
theorem ix_eq (n : V) (c : UInt8) : bits BinOp.xor IntKind.u8 ((n.toNat : Int) / 16777216) (c.toNat : Int) = (ixV n c : Int) := by
  have := n.isLt
  have h := u8_xor_nat (n.toNat / 16777216) c.toNat (by omega) c.toNat_lt
  exact h
theorem top8 (n : V) : ((n.toNat : Int) / 16777216) % 256 = (n.toNat : Int) / 16777216 := by
  have := n.isLt
  omega
theorem shl8 (n : V) : (n.toNat : Int) * (256 : Int) % (4294967296 : Int) = ((n <<< 8).toNat : Int) := by
  rw [BitVec.toNat_shiftLeft, Nat.shiftLeft_eq]
  omega
theorem entU_get (i : Nat) (h : i < 256) : (partA 256)[i]? = some (entU i) := by rw [partA_get _ _ h, if_pos h]
theorem step_eq (n : V) (c : UInt8) : bits BinOp.xor IntKind.u32 ((n <<< 8).toNat : Int) ((rowV (ixV n c)).toNat : Int) = ((byteV n c).toNat : Int) := by
  rw [xor_u32, ← table_step]
  rfl
theorem step_eq' (n : V) (c : UInt8) : bits BinOp.xor IntKind.u32 ((n.toNat : Int) * (256 : Int) % (4294967296 : Int)) ((rowV (ixV n c)).toNat : Int) = ((byteV n c).toNat : Int) := by
  rw [shl8]
  exact step_eq n c
theorem stateV_take (n : V) (l : List UInt8) (k : Nat) (h : k < l.length) : stateV n (l.take (k + 1)) = byteV (stateV n (l.take k)) (l.getD k 0) := by
  rw [List.take_add_one, List.getElem?_eq_getElem h, Option.toList_some, stateV_append, List.getD_eq_getElem?_getD, List.getElem?_eq_getElem h]
  rfl

theorem Cnt.w1 {k n : Nat} (h : k < n) (hn : n ≤ 9223372036854775807) : wrap64 ((k : Int) + 1) = k + 1 := w64 (by omega) (by omega)

theorem Cnt.m1 {k n : Nat} (h : k < n) : n - (intOf (.int .i64 ((k : Int) + 1))).toNat < n - (intOf (.int .i64 (k : Int))).toNat := by
  simp only [intOf]
  omega

set_option maxHeartbeats 2000000 in
set_option maxRecDepth 20000 in
theorem add_any (x : V) (n : Int) (A : Option Addr) (c : Nat) (l : List UInt8) (w : World) (h : Bs w w.heap.size A l) (hn : wrap64 (n + l.length) = n + l.length) (hl : l.length ≤ 9223372036854775807) :
    Calls Try.prog 27 #[.agg #[.int .u32 x.toNat, .int .i64 n], .slice A l.length c] w fun e w' =>
      e = .returned (.agg #[.int .u32 (stateV x l).toNat, .int .i64 (n + l.length)]) ∧ Below w.heap.size w w' := by
  have HB := Lib.hid h
  have HN := Lib.hid hn
  have HL := Lib.hid hl
  clear h hn hl
  go_enter Try.func27, Try.ntmps27
  go_wp2_with (first | (go_at_call 74; refine (table_any _).mono ?_; rintro e w1 ⟨rfl, hb1⟩) | ((with_reducible refine gate_dst (N := 5) rfl ?_); refine arr_alloc ?hg (N := 5) ?hd (cs := partA 0) (t := 101) ?hr ?_; (case hd => rfl); (case hg => rfl); (case hr => rw [partA_zero]; kernel_rfl); intro _ rfl w2 p5 b5) | (refine wpList_store_row rfl _ _ _ rfl w1.heap.size (partA 256) rfl rfl 101 (partA 0) p5 (by rw [partA_size]; kernel_rfl) (by rw [partA_size, partA_size]) (partA_one 256) ?_))
  have q2 : Pt ((w.alloc (Obj.cells #[Value.int IntKind.u32 ↑(BitVec.toNat x), Value.int IntKind.i64 n] 43)).alloc (Obj.cells #[Value.int IntKind.u32 0, Value.int IntKind.i64 0] 43)) w.heap.size #[Value.int IntKind.u32 ↑(BitVec.toNat x), Value.int IntKind.i64 n] 43 := (Pt.new w _ _).alloc _
  have q4 : Pt ((w.alloc (Obj.cells #[Value.int IntKind.u32 ↑(BitVec.toNat x), Value.int IntKind.i64 n] 43)).alloc (Obj.cells #[Value.int IntKind.u32 0, Value.int IntKind.i64 0] 43)) (w.heap.size + 1) #[Value.int IntKind.u32 0, Value.int IntKind.i64 0] 43 := Pt.new' (by simp)
  have z1 : w.heap.size + 2 ≤ w1.heap.size := by have := hb1.size; simpa using this
  have bw : Below w.heap.size w w1 := (((Below.refl _ _).alloc (Nat.le_refl _) _).alloc (by simp) _).trans (hb1.mono (by simp; omega))
  replace q2 := (q2.keep hb1).keep b5
  replace q4 := (q4.keep hb1).keep b5
  replace bw : Below w.heap.size w w2 := bw.trans (b5.mono (by omega))
  replace HB := Lib.hid (HB.out.kept bw (Nat.le_refl _))
  generalize h3 : w2.setRow w1.heap.size (partA 256) = w3
  have p5' : Pt w3 w1.heap.size (partA 256) 101 := by rw [← h3]; exact setRow_heap _ _ _ _ _ _ p5
  have q2' : Pt w3 w.heap.size #[Value.int IntKind.u32 ↑(BitVec.toNat x), Value.int IntKind.i64 n] 43 := by rw [← h3]; exact (setRow_other _ _ _ _ (by omega)).trans q2
  have q4' : Pt w3 (w.heap.size + 1) #[Value.int IntKind.u32 0, Value.int IntKind.i64 0] 43 := by rw [← h3]; exact (setRow_other _ _ _ _ (by omega)).trans q4
  have bw3 : Below w2.heap.size w2 w3 → True := fun _ => trivial
  have bw' : Below w.heap.size w w3 := by rw [← h3]; exact below_setRow bw (by omega) _
  have HB' : Hid (Bs w3 w.heap.size A l) := Lib.hid (HB.out.keep fun p hp => by rw [← h3]; exact cell_setRow_other _ _ _ _ (by omega))
  have hg0 : w1.heap.size ≠ w.heap.size := by omega
  have hg1 : w1.heap.size ≠ w.heap.size + 1 := by omega
  generalize w1.heap.size = B5 at *
  have H0 := Lib.hid hg0
  have H1 := Lib.hid hg1
  clear hb1 b5 p5 q2 q4 bw HB h3 hg0 hg1 z1 bw3
  go_loopw [11] (fun i wr => ∃ k : Nat, k ≤ l.length ∧ i = .int .i64 k ∧ Hid (Pt wr w.heap.size #[.int .u32 (stateV x (l.take k)).toNat, .int .i64 n] 43) ∧ Hid (Pt wr (w.heap.size + 1) #[Value.int IntKind.u32 0, Value.int IntKind.i64 0] 43) ∧ Hid (Pt wr B5 (partA 256) 101) ∧ Hid (Bs wr w.heap.size A l) ∧ Hid (Below w.heap.size w wr)) (fun i _ => l.length - (intOf i).toNat)
  case atStart => exact ⟨0, Nat.zero_le _, rfl, Lib.hid (by rw [List.take_zero]; exact q2'), Lib.hid q4', Lib.hid p5', HB', Lib.hid bw'⟩
  case round =>
    clear q2' q4' p5' HB' bw'
    obtain ⟨k, hk, rfl, h2, h4, h5, hB, hb⟩ := hrel
    by_cases hlt : k < l.length
    · obtain ⟨b, o, rfl, cx⟩ := hB.out.at_ hlt
      have hstep := Lib.hid (stateV_take x l k hlt)
      generalize hm : stateV x (l.take k) = m at *
      generalize hch : l.getD k 0 = ch at *
      clear hm hch
      have e1 := ix_eq m ch
      have e3 := Lib.hid (step_eq' m ch)
      have hq := ixV_lt m ch
      have c0 : wr.cell? ⟨w.heap.size, 0, none⟩ = some (.int .u32 m.toNat) := h2.out.cell 0
      have ct : wr.cell? ⟨B5, ixV m ch, none⟩ = some (.int .u32 (rowV (ixV m ch)).toNat) := by rw [h5.out.cell]; exact entU_get _ hq
      generalize ixV m ch = q at *
      have f0 : wr.frozen? ⟨w.heap.size, 0, none⟩ = false := h2.out.frozen 0
      have t8 := top8 m
      have hw : wrap64 ((k : Int) + 1) = k + 1 := Cnt.w1 hlt HL.out
      go_wp2_with fail
      go_region
      rw [e3.out]
      go_wp2_with fail
      go_roundw
      case rel =>
        refine ⟨k + 1, by omega, by rw [hw]; rfl, Lib.hid ?_, Lib.hid ?_, Lib.hid ?_, Lib.hid ?_, Lib.hid ?_⟩
        · rw [hstep.out]
          exact (h2.out.set 0 _).drew
        · exact (h4.out.set_ne (by simp) _).drew
        · exact (h5.out.set_ne (fun e => H0.out e.symm) _).drew
        · exact hB.out.keep fun p hp => World.cell?_setCell_other _ _ _ _ (fun e => by subst e; simp at hp)
        · exact (hb.out.setCell (Nat.le_refl _) _).drew
      case measure => rw [hw]; exact Cnt.m1 hlt
    · have hk2 : k = l.length := by omega
      rw [hk2, List.take_length] at h2
      clear hk2
      have hN := HN.out
      have c0 : wr.cell? ⟨w.heap.size, 0, none⟩ = some (.int .u32 (stateV x l).toNat) := h2.out.cell 0
      have c1 : wr.cell? ⟨w.heap.size, 1, none⟩ = some (.int .i64 n) := h2.out.cell 1
      have f1 : wr.frozen? ⟨w.heap.size, 1, none⟩ = false := h2.out.frozen 1
      have c40 : wr.cell? ⟨w.heap.size + 1, 0, none⟩ = some (.int .u32 0) := h4.out.cell 0
      have c41 : wr.cell? ⟨w.heap.size + 1, 1, none⟩ = some (.int .i64 0) := h4.out.cell 1
      have f40 : wr.frozen? ⟨w.heap.size + 1, 0, none⟩ = false := h4.out.frozen 0
      have f41 : wr.frozen? ⟨w.heap.size + 1, 1, none⟩ = false := h4.out.frozen 1
      go_wp2_with fail
      have hP := ((h4.out.set_ne (a := ⟨w.heap.size, 1, none⟩) (by simp) (Value.int IntKind.i64 (n + ↑l.length))).set 0 (Value.int IntKind.u32 ↑(BitVec.toNat (stateV x l)))).set 1 (Value.int IntKind.i64 (n + ↑l.length))
      refine bodyPost_ret (results_cell_row rfl _ _ (w.heap.size + 1) 43 _ (0, 0) _ rfl hP Try.underlying43 rfl rfl) rfl ?_
      exact ⟨rfl, ((hb.out.setCell (Nat.le_refl _) _).setCell (by simp) _).setCell (by simp) _⟩

theorem len_w (l : List UInt8) (hl : l.length ≤ 9223372036854775807) : wrap64 (0 + (l.length : Int)) = 0 + l.length := w64 (by omega) (by omega)

theorem of_any (A : Option Addr) (c : Nat) (l : List UInt8) (w : World) (h : Bs w w.heap.size A l) (hl : l.length ≤ 9223372036854775807) :
    Calls Try.prog 32 #[.slice A l.length c] w fun e w' => e = .returned (.int .u32 (sumOf l).toNat) ∧ Below w.heap.size w w' := by
  have HB := Lib.hid h
  have HL := Lib.hid hl
  clear h hl
  go_enter Try.func32, Try.ntmps32
  go_wp2_with (first | (go_at_call 26; refine (new_any _).mono ?_; rintro e w1 ⟨rfl, b1⟩) | (go_at_call 27; refine (add_any onesV 0 A c l _ (HB.out.below b1 |>.more b1.size) (len_w l HL.out) HL.out).mono ?_; rintro e w2 ⟨rfl, b2⟩) | (go_at_call 33; refine (stSum_any (stateV onesV l) _ _).mono ?_; rintro e w3 ⟨rfl, b3⟩))
  go_ret
  exact ⟨rfl, (b1.trans (b2.mono b1.size)).trans (b3.mono (Nat.le_trans b1.size b2.size))⟩

end Go.Proofs.Ytmjdlofkjjofcaa

/- package sum: its table, and the state of more bytes. -/
import Derived.Test.YtmjdlofkjjofcaaProg
import Derived.Test.YtmjdlofkjjofcaaKit
import Derived.Test.YtmjdlofkjjofcaaSumV
import Derived.Test.YtmjdlofkjjofcaaSum
import Derived.Laws.BitsAllLaws
import Derived.Laws.Tables
import Derived.Laws.Rows
import Derived.Laws.CopyOwn
import Derived.Deep.QuietTactic
import Derived.BigQuiet
namespace Go.Proofs.Ytmjdlofkjjofcaa
open Go.RowKit
set_option linter.unusedVariables false
set_option linter.unusedSimpArgs false

section
variable {P : Program} {ops : Array Oper} {rest : List Oper} {o : Oper} {a : Act} {Q : Exit → Act → World → Prop}
theorem arr_alloc {W : World} (hgd : o.guard = none) {N : Tmp} (_hd : o.dst = some N) {cs : Array Value} {t : TypeId}
    (hrun : (execOp a.eval o).run P W = .ok (.value (.pointer (some ⟨W.heap.size, 0, none⟩))) (W.alloc (.cells cs t (0, 0))))
    (h : ∀ g, g = W.heap.size → ∀ w1, Pt w1 g cs t → Below W.heap.size W w1 → wpList P ops Q rest (a.put o.dst (.pointer (some ⟨g, 0, none⟩))) w1) : wpList P ops Q (o :: rest) a W :=
  wpList_plain hgd fun K hK => by
    unfold Oper.wp
    rw [hrun]
    exact hK _ _ (h _ rfl _ (Pt.new W cs t) ((Below.refl _ _).alloc (Nat.le_refl _) _))
theorem gate_dst {N : Tmp} {W : World} (_hN : o.dst = some N) (h : wpList P ops Q (o :: rest) a W) : wpList P ops Q (o :: rest) a W := h
end

def rowV (i : Nat) : V := turnK 8 ((BitVec.ofNat 32 i) <<< 24)
def zeroU : Value := .int .u32 0
def entU (i : Nat) : Value := .int .u32 (rowV i).toNat
def partA (i : Nat) : Array Value := Array.ofFn (n := 256) fun j => if j.val < i then entU j.val else zeroU
theorem partA_size (i : Nat) : (partA i).size = 256 := by unfold partA; simp
theorem partA_get (i j : Nat) (h : j < 256) : (partA i)[j]? = some (if j < i then entU j else zeroU) := by unfold partA; simp [h]
theorem partA_set (i : Nat) (h : i < 256) : (partA i).setIfInBounds i (entU i) = partA (i + 1) := by
  apply Array.ext_getElem?
  intro j
  rw [Array.getElem?_setIfInBounds, partA_size]
  by_cases hj : j < 256
  · rw [partA_get _ _ hj, partA_get _ _ hj]
    by_cases e : i = j
    · subst e; simp [h]
    · simp only [e, if_false]
      by_cases l : j < i
      · simp [l, show j < i + 1 by omega]
      · simp [l, show ¬ j < i + 1 by omega]
  · have h1 : i ≠ j := by omega
    simp only [h1, if_false]
    rw [Array.getElem?_eq_none (by rw [partA_size]; omega), Array.getElem?_eq_none (by rw [partA_size]; omega)]
theorem partA_zero : partA 0 = Array.replicate 256 zeroU := by
  unfold partA
  apply Array.ext_getElem?
  intro j
  by_cases hj : j < 256
  · simp [hj]
  · simp [hj]
theorem partA_one (i : Nat) : (partA i).all (·.oneCell') = true := by
  rw [Array.all_eq_true]
  intro j hj
  have := partA_get i j (by rw [partA_size] at hj; exact hj)
  rw [Array.getElem?_eq_getElem hj] at this
  rw [Option.some.inj this]
  split <;> rfl

theorem row_start (k : Nat) (h : k < 256) : Value.int IntKind.u32 ((k : Int) * 16777216) = Value.int IntKind.u32 ((turnK 0 (BitVec.ofNat 32 k <<< 24)).toNat : Int) := by
  have e : (turnK 0 (BitVec.ofNat 32 k <<< 24)).toNat = k * 16777216 := by
    show (BitVec.ofNat 32 k <<< 24).toNat = k * 16777216
    rw [BitVec.toNat_shiftLeft, BitVec.toNat_ofNat, Nat.shiftLeft_eq]
    omega
  rw [e]
  rfl

set_option maxHeartbeats 1000000 in
set_option maxRecDepth 20000 in
theorem table_any (w : World) :
    Calls Try.prog 74 #[] w fun e w' => e = .returned (.agg (partA 256)) ∧ Below w.heap.size w w' := by
  go_enter Try.func74, Try.ntmps74
  go_wp2_with (first | ((with_reducible refine gate_dst (N := 0) rfl ?_); refine arr_alloc ?hg (N := 0) ?hd (cs := partA 0) (t := 101) ?hr ?_; (case hd => rfl); (case hg => rfl); (case hr => rw [partA_zero]; kernel_rfl); intro _ rfl w0 p0 b0) | ((with_reducible refine gate_dst (N := 1) rfl ?_); refine arr_alloc ?hg (N := 1) ?hd (cs := partA 0) (t := 101) ?hr ?_; (case hd => rfl); (case hg => rfl); (case hr => rw [partA_zero]; kernel_rfl); intro _ rfl w1 p1 b1))
  have hb0 : Below w.heap.size w w1 := b0.trans (b1.mono b0.size)
  have hne : w.heap.size ≠ w0.heap.size := Nat.ne_of_lt p0.lt
  have hg1w : w.heap.size ≤ w0.heap.size := b0.size
  replace p0 := p0.keep b1
  clear b0 b1
  have HNE := Lib.hid hne
  have HG := Lib.hid hg1w
  clear hne hg1w
  go_loopw [4] (fun i wr => ∃ k : Nat, k ≤ 256 ∧ i = .int .i64 k ∧ Hid (Pt wr w0.heap.size (partA k) 101) ∧ Hid (Pt wr w.heap.size (partA 0) 101) ∧ Hid (Below w.heap.size w wr)) (fun i _ => 256 - (intOf i).toNat)
  case atStart => exact ⟨0, by omega, rfl, Lib.hid p1, Lib.hid p0, Lib.hid hb0⟩
  case round =>
    obtain ⟨k, hk, rfl, hp1, hp0, hb⟩ := hrel
    by_cases he : k < 256
    · have hc : wr.cell? ⟨w0.heap.size, k, none⟩ = some zeroU := by rw [hp1.out.cell, partA_get _ _ he]; simp
      have hd : decide ((k : Int) < 256) = true := decide_eq_true (by omega)
      have hf : wr.frozen? ⟨w0.heap.size, k, none⟩ = false := hp1.out.frozen k
      go_wp2_with fail
      go_loop [3, 10] (fun n i => ∃ j : Nat, j ≤ 8 ∧ i = .int .i64 j ∧ n = .int .u32 (turnK j (BitVec.ofNat 32 k <<< 24)).toNat) (fun _ i => 8 - (intOf i).toNat)
      case atStart =>
        exact ⟨0, by omega, rfl, row_start k he⟩
      case round =>
        obtain ⟨j, hj, rfl, rfl⟩ := hrel
        by_cases hj8 : j < 8
        · go_wp2_with (go_at_call 103; refine (turn_any _ _).mono ?_; rintro e w' ⟨rfl, rfl⟩)
          go_round
          case rel => exact ⟨j + 1, by omega, rfl, by rw [turnK_succ]⟩
          case measure => simp [intOf]; omega
        · obtain rfl : j = 8 := by omega
          go_wp2_with fail
          go_roundw
          case rel =>
            refine ⟨k + 1, by omega, rfl, Lib.hid ?_, Lib.hid ?_, Lib.hid ?_⟩
            · have := hp1.out.set k (entU k)
              rw [partA_set k he] at this
              exact this
            · exact hp0.out.set_ne (fun e => HNE.out e.symm) _
            · exact hb.out.setCell HG.out _
          case measure => simp [intOf]; omega
    · have hk2 : k = 256 := by omega
      rw [hk2] at hp1
      clear hk2
      go_wp2_with (first | ((with_reducible refine gate_dst (N := 19) rfl ?_); refine wpList_load_row rfl _ _ rfl w0.heap.size rfl 101 (partA 256) (0, 0) _ hp1.out Try.underlying101 rfl (by rw [partA_size]; kernel_rfl) ?_) | (refine wpList_store_row rfl _ _ _ rfl w.heap.size (partA 256) rfl rfl 101 (partA 0) hp0.out (by rw [partA_size]; kernel_rfl) (by rw [partA_size, partA_size]) (partA_one 256) ?_))
      refine bodyPost_ret (results_cell_row rfl _ _ w.heap.size 101 (partA 256) (0, 0) _ rfl (setRow_heap _ _ _ _ _ _ hp0.out) Try.underlying101 rfl (by rw [partA_size]; kernel_rfl)) rfl ?_
      exact ⟨rfl, below_setRow hb.out (Nat.le_refl _) _⟩
end Go.Proofs.Ytmjdlofkjjofcaa

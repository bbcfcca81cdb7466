/- Contracts of package base over a store: cell, Square. -/
import Derived.Test.YtjiliiclebdbfaaBaseL
import Derived.Test.YtjiliiclebdbfaaQuadE
namespace Go.Proofs.Ytjiliiclebdbfaa
open Go.RowKit
set_option linter.unusedVariables false
set_option linter.unusedSimpArgs false
attribute [local go_sem] eqGuard_errV neq_errV eql_errV

def cN (b : Bool) : Nat := if b then 1 else 0
theorem cN_le (b : Bool) : cN b ≤ 1 := by cases b <;> decide +kernel
/-- The j-th cell of the i-th quarter of four by four. -/
def fC (f i j : Nat) : Nat := cN (cellB f (2 * (i % 2) + j % 2 : Nat) (2 * (i / 2) + j / 2 : Nat))
theorem fC_le (f i j : Nat) : fC f i j ≤ 1 := cN_le _
def fU (f i j : Nat) : K4 := ⟨if 0 < j then fC f i 0 else 0, if 1 < j then fC f i 1 else 0, if 2 < j then fC f i 2 else 0, if 3 < j then fC f i 3 else 0⟩
def fK (f i : Nat) : K4 := ⟨fC f i 0, fC f i 1, fC f i 2, fC f i 3⟩
theorem fU_set (f i j : Nat) (hj : j < 4) : setK (fU f i j) j (fC f i j) = fU f i (j + 1) := by
  match j, hj with
  | 0, _ => rfl
  | 1, _ => rfl
  | 2, _ => rfl
  | 3, _ => rfl
def sqGo (most f : Nat) : Nat → Nat → K4 → List Nd → Res
  | 0, _, out, ns => makeN ns most out
  | n + 1, i, out, ns => if (makeN ns most (fK f i)).2.1 = 0 then sqGo most f n (i + 1) (setK out i (makeN ns most (fK f i)).1) (makeN ns most (fK f i)).2.2 else (0, (makeN ns most (fK f i)).2.1, (makeN ns most (fK f i)).2.2)
def squareN (ns : List Nd) (most f : Nat) : Res := sqGo most f 4 0 ⟨0, 0, 0, 0⟩ ns
theorem cell_any (b : Bool) (w : World) : Calls Try.prog 64 #[.bool b] w fun e w' => e = .returned (.int .u32 (cN b)) ∧ w = w' := by
  cases b <;>
  · go_enter Try.func64, Try.ntmps64
    go_wp2
    go_ret
    exact ⟨rfl, rfl⟩
theorem sq_at (f i j : Nat) (hf : f < 65536) (hi : i < 4) (hj : j < 4) (w : World) :
    Calls Try.prog 21 #[.int .u16 f, .int .i64 (2 * ((i : Int) % 2) + (j : Int) % 2), .int .i64 (2 * ((i : Int) / 2) + (j : Int) / 2)] w fun e w' => e = .returned (.bool (cellB f (2 * (i % 2) + j % 2 : Nat) (2 * (i / 2) + j / 2 : Nat))) ∧ w = w' := by
  have e1 : (2 * ((i : Int) % 2) + (j : Int) % 2) = ((2 * (i % 2) + j % 2 : Nat) : Int) := by omega
  have e2 : (2 * ((i : Int) / 2) + (j : Int) / 2) = ((2 * (i / 2) + j / 2 : Nat) : Int) := by omega
  rw [e1, e2]
  exact at_in f _ _ w hf (by omega) (by omega) (by omega) (by omega)
section
variable {base S : Nat} {w : World} {ns : List Nd} {most : Nat}
set_option maxRecDepth 20000 in
set_option maxHeartbeats 4000000 in
theorem square_any (h : St base w S ns most) (f : Nat) (hf : f < 65536) :
    Calls Try.prog 25 #[.pointer (some ⟨S, 0, none⟩), .int .u16 f] w fun e w' => e = .returned (.tuple #[.int .u32 (squareN ns most f).1, errV (squareN ns most f).2.1]) ∧ Left base S most (squareN ns most f).2.2 w w' := by
  have H := Lib.hid h
  have HF := Lib.hid hf
  have HR : Hid (squareN ns most f = sqGo most f 4 0 ⟨0, 0, 0, 0⟩ ns) := rfl
  clear h hf
  generalize squareN ns most f = R at *
  go_enter Try.func25, Try.ntmps25
  go_wp2_with fail
  have HL := Lib.hid ((Left.of H.out (Below.refl _ _)).alloc (.cells #[.int .u32 0, .int .u32 0, .int .u32 0, .int .u32 0] 55))
  have pO := Lib.hid (Pt.new w #[.int .u32 0, .int .u32 0, .int .u32 0, .int .u32 0] 55)
  generalize hOb : w.heap.size = ob at pO ⊢
  have HOb := Lib.hid (show w.heap.size ≤ ob by omega)
  clear hOb
  generalize w.alloc (.cells #[.int .u32 0, .int .u32 0, .int .u32 0, .int .u32 0] 55) = W1 at *
  go_loopw [12] (fun v wr => ∃ (i : Nat) (out : K4) (ns1 : List Nd), i ≤ 4 ∧ v = .int .i64 i ∧ Hid (R = sqGo most f (4 - i) i out ns1) ∧ Hid (∀ j, kid out j < 4294967296) ∧ Hid (Left base S most ns1 w wr) ∧ Hid (Pt wr ob (kArr out) 55)) (fun v _ => 4 - (intOf v).toNat)
  case atStart => exact ⟨0, ⟨0, 0, 0, 0⟩, ns, by omega, rfl, HR, Lib.hid (fun j => by match j with | 0 => exact (by decide : (0 : Nat) < 4294967296) | 1 => exact (by decide : (0 : Nat) < 4294967296) | 2 => exact (by decide : (0 : Nat) < 4294967296) | j + 3 => exact (by decide : (0 : Nat) < 4294967296)), HL, pO⟩
  case round =>
    obtain ⟨i, out, ns1, hi, rfl, HR1, H321, HL1, pO1⟩ := hrel
    clear HL pO HR
    by_cases hlt : i < 4
    · have HI := Lib.hid hlt
      have i0 : (0 : Int) ≤ (i : Int) := by omega
      have i1 : (i : Int) < 4 := by omega
      clear hlt hi
      go_wp2_with fail
      have pK2 := Lib.hid (Pt.new wr #[.int .u32 0, .int .u32 0, .int .u32 0, .int .u32 0] 55)
      have pO2 := Lib.hid (pO1.out.alloc (.cells #[.int .u32 0, .int .u32 0, .int .u32 0, .int .u32 0] 55))
      have HL2 := Lib.hid (Left.alloc HL1.out (.cells #[.int .u32 0, .int .u32 0, .int .u32 0, .int .u32 0] 55))
      have hOK := Lib.hid (show ob < wr.heap.size from pO1.out.lt)
      have hwK := Lib.hid (show w.heap.size ≤ wr.heap.size from HL1.out.fr.size)
      clear pO1 HL1
      generalize wr.heap.size = kb at *
      generalize wr.alloc (.cells #[.int .u32 0, .int .u32 0, .int .u32 0, .int .u32 0] 55) = W2 at *
      go_loopw [15] (fun v wq => ∃ j : Nat, j ≤ 4 ∧ v = .int .i64 j ∧ Hid (Pt wq kb (kArr (fU f i j)) 55) ∧ Hid (Left base S most ns1 w wq) ∧ Hid (Pt wq ob (kArr out) 55)) (fun v _ => 4 - (intOf v).toNat)
      case atStart => exact ⟨0, by omega, rfl, pK2, HL2, pO2⟩
      case round =>
        obtain ⟨j, hj, rfl, pK3, HL3, pO3⟩ := hrel
        clear HL2 pO2 pK2
        by_cases hjt : j < 4
        · have HJ := Lib.hid hjt
          have j0 : (0 : Int) ≤ (j : Int) := by omega
          have j1 : (j : Int) < 4 := by omega
          have ck : wr.cell? ⟨kb, j, none⟩ = some (.int .u32 (kid (fU f i j) j)) := by rw [pK3.out.cell]; exact kArr_get _ j hjt
          have fk := pK3.out.frozen
          have lk := pK3.out.lt
          clear hjt hj
          have HM := Lib.hid (show 4 - (j + 1) < 4 - j by omega)
          have hset := Lib.hid (fU_set f i j HJ.out)
          have hp := pt_kset pK3.out (y := fC f i j) HJ.out
          rw [hset.out] at hp
          have HP := Lib.hid hp
          clear hp
          go_wp2_with (first | ((go_at_call 21); (with_reducible refine (sq_at f i j HF.out HI.out HJ.out _).mono ?_); rintro e w' ⟨rfl, rfl⟩) | ((go_at_call 64); (with_reducible refine (cell_any _ _).mono ?_); rintro e w' ⟨rfl, rfl⟩))
          refine ⟨⟨j + 1, by have := HJ.out; omega, by go_num, HP, Lib.hid (HL3.out.set pK3.out (by decide) (by decide) (by decide) (by have := hwK.out; omega) _ _), Lib.hid (pO3.out.set_ne (by have := hOK.out; show kb ≠ ob; omega) _)⟩, by have := HM.out; simp [intOf]; omega⟩
        · obtain rfl : j = 4 := by omega
          rw [show fU f i 4 = fK f i from rfl] at pK3
          have HM4 := Lib.hid (show (fK f i).a < 4294967296 ∧ (fK f i).b < 4294967296 ∧ (fK f i).c < 4294967296 ∧ (fK f i).d < 4294967296 from by
            have h0 := fC_le f i 0
            have h1 := fC_le f i 1
            have h2 := fC_le f i 2
            have h3 := fC_le f i 3
            unfold fK
            simp only
            omega)
          have hi4 := HI.out
          have hstep : sqGo most f (4 - i) i out ns1 = if (makeN ns1 most (fK f i)).2.1 = 0 then sqGo most f (4 - (i + 1)) (i + 1) (setK out i (makeN ns1 most (fK f i)).1) (makeN ns1 most (fK f i)).2.2 else (0, (makeN ns1 most (fK f i)).2.1, (makeN ns1 most (fK f i)).2.2) := by
            rw [show 4 - i = (4 - (i + 1)) + 1 by omega]; rfl
          have HR2 := Lib.hid (HR1.out.trans hstep)
          clear hstep HR1 hjt hj
          generalize fK f i = four at *
          have ck := pK3.out.cell
          have lk := pK3.out.lt
          have hi4 := HI.out
          unfold kArr at ck
          clear hi4
          go_wp2_with ((go_at_call 31); (with_reducible refine (make_l HL3.out.st four.a four.b four.c four.d HM4.out.1 HM4.out.2.1 HM4.out.2.2.1 HM4.out.2.2.2).mono ?_); rintro e w5 ⟨rfl, k5⟩; have K5 := Lib.hid (HL3.out.call k5); have pO6 := Lib.hid (Pt.left pO3.out HL3.out.st k5 (by decide) (by decide) (by decide)); have cO6 : w5.cell? ⟨ob, i, none⟩ = some (.int .u32 (kid out i)) := (by rw [pO6.out.cell]; exact kArr_get out i HI.out); have fO6 := pO6.out.frozen; have lO6 := pO6.out.lt; clear k5)
          · refine bodyPost_ret (by simp [results, Try.results25, go_sem, *]; rfl) rfl ?_
            have hne : ¬ (makeN ns1 most four).2.1 = 0 := by have h := ‹(!decide _) = true›; simpa using h
            have h0 := HR2.out.trans (if_neg hne)
            exact ⟨by rw [h0]; rfl, by rw [h0]; exact K5.out⟩
          · go_roundw
            case measure => simp [intOf]; omega
            case rel =>
              have he : (makeN ns1 most four).2.1 = 0 := by have h := ‹(!decide _) = false›; simpa using h
              have h0 := HR2.out.trans (if_pos he)
              have hi4 := HI.out
              refine ⟨i + 1, setK out i (makeN ns1 most four).1, (makeN ns1 most four).2.2, by omega, by go_num, Lib.hid h0, Lib.hid ?_, Lib.hid (K5.out.set pO6.out (by decide) (by decide) (by decide) (by have := HOb.out; omega) _ _), Lib.hid (pt_kset pO6.out HI.out)⟩
              intro j
              have hall : ∀ j, j < 4 → kid (setK out i (makeN ns1 most four).1) j < 4294967296 := fun j hj => by
                rw [kid_set _ _ _ _ HI.out hj]
                split
                · exact makeN_32 HL3.out.st four
                · exact H321.out j
              match j with
              | 0 => exact hall 0 (by decide)
              | 1 => exact hall 1 (by decide)
              | 2 => exact hall 2 (by decide)
              | j + 3 => exact hall 3 (by decide)
    · obtain rfl : i = 4 := by omega
      have co := pO1.out.cell
      have lo := pO1.out.lt
      have HM4 := Lib.hid (show out.a < 4294967296 ∧ out.b < 4294967296 ∧ out.c < 4294967296 ∧ out.d < 4294967296 from ⟨H321.out 0, H321.out 1, H321.out 2, H321.out 3⟩)
      have h0 : R = makeN ns1 most out := HR1.out
      have HR2 := Lib.hid h0
      unfold kArr at co
      clear hlt hi HR1 h0
      go_wp2_with ((go_at_call 31); (with_reducible refine (make_l HL1.out.st out.a out.b out.c out.d HM4.out.1 HM4.out.2.1 HM4.out.2.2.1 HM4.out.2.2.2).mono ?_); rintro e w5 ⟨rfl, k5⟩; have K5 := Lib.hid (HL1.out.call k5); clear k5)
      refine bodyPost_ret (by simp [results, Try.results25, go_sem, *]; rfl) rfl ?_
      exact ⟨by rw [HR2.out], by rw [HR2.out]; exact K5.out⟩
end
end Go.Proofs.Ytjiliiclebdbfaa

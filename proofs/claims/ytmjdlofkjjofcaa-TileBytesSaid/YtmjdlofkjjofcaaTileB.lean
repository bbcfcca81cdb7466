/- The reference's bytes of a tile. -/
import Derived.Test.YtmjdlofkjjofcaaProg
import Derived.Test.YtmjdlofkjjofcaaKit
import Derived.Test.YtmjdlofkjjofcaaKitb
import Derived.Test.YtmjdlofkjjofcaaBytes
import Derived.Test.YtmjdlofkjjofcaaInts
import Derived.Test.YtmjdlofkjjofcaaApp
import Derived.Test.YtmjdlofkjjofcaaAppS
import Derived.Test.YtmjdlofkjjofcaaSlices
import Derived.Test.YtmjdlofkjjofcaaPrefixV
import Derived.Test.YtmjdlofkjjofcaaPutsR
import Derived.Test.YtmjdlofkjjofcaaTileV
import Derived.Test.YtmjdlofkjjofcaaTile
import Derived.Test.YtmjdlofkjjofcaaTileP
import Derived.Test.YtmjdlofkjjofcaaTileN
import Derived.Laws.Rows
import Derived.Deep.QuietTactic
import Derived.BigQuiet
import Derived.Deep.DeepCutAuto
namespace Go.Proofs.Ytmjdlofkjjofcaa
open Go.RowKit
set_option linter.unusedVariables false
set_option linter.unusedSimpArgs false
theorem size_tileB (bs : List Nat) (h16 : bs.length = 16) : (Try.prog.info? 73).map (·.size) = some (cellsT bs).size := by
  have h0 : (Try.prog.info? 73).map (·.size) = some 16 := by kernel_rfl
  rw [h0]
  unfold cellsT
  simp [h16]
theorem numsT_lt (bs : List Nat) : ∀ (same last : Nat), (∀ v ∈ bs, v < 65536) → last < 65536 → same + bs.length ≤ 16 → (∀ n ∈ numsT same last bs, n < 262144) ∧ (numsT same last bs).length ≤ 2 * bs.length + 1 := by
  induction bs with
  | nil =>
    intro same last _ _ hs
    simp at hs
    unfold numsT
    split <;> simp
    omega
  | cons v r ih =>
    intro same last hv hl hs
    simp at hs
    have hv1 := hv v (by simp)
    have hr := fun x hx => hv x (List.mem_cons_of_mem v hx)
    by_cases h : v = last
    · subst h
      have := ih (same + 1) v hr hl (by omega)
      simp only [numsT, if_true]
      exact ⟨this.1, by rw [List.length_cons]; omega⟩
    · have := ih 0 v hr hv1 (by omega)
      simp only [numsT, h, if_false]
      have hR := rowN_lt hv1 hl
      refine ⟨?_, ?_⟩
      · intro n hn
        rw [List.mem_append, List.mem_cons] at hn
        rcases hn with hn | rfl | hn
        · split at hn
          · simp at hn; omega
          · simp at hn
        · exact hR
        · exact this.1 n hn
      · rw [List.length_append, List.length_cons, List.length_cons]
        split <;> simp <;> omega
theorem encT_snoc (ns : List Nat) (j : Nat) (hj : j < ns.length) : encT (ns.take (j + 1)) = encT (ns.take j) ++ encU (ns.getD j 0) := by
  unfold encT
  rw [List.take_add_one, List.getElem?_eq_getElem hj, Option.toList_some, List.flatMap_append, List.getD_eq_getElem?_getD, List.getElem?_eq_getElem hj]
  simp
theorem encT_len (ns : List Nat) : (encT ns).length ≤ 9 * ns.length := by
  unfold encT
  induction ns with
  | nil => simp
  | cons x t ih =>
    have := encU_length x
    have := sizeU_le x
    rw [List.flatMap_cons, List.length_append, List.length_cons]
    omega
set_option maxHeartbeats 4000000 in
set_option maxRecDepth 20000 in
theorem rbytes_any (bs : List Nat) (h16 : bs.length = 16) (hb16 : ∀ v ∈ bs, v < 65536) (w : World) :
    Calls Try.prog 50 #[.agg (cellsT bs)] w (RetBs w (encT (numsT 0 0 bs))) := by
  have hfl := flat_cells bs
  have HP := Lib.hid (Pt.new w (cellsT bs) 73)
  have HW := Lib.hid (show Below w.heap.size w (w.alloc (.cells (cellsT bs) 73)) from (Below.refl _ _).alloc (Nat.le_refl _) _)
  have HB := Lib.hid h16
  have HN := Lib.hid fun W => numbers_any bs h16 hb16 W
  have HLT := Lib.hid (numsT_lt bs 0 0 hb16 (by decide) (by omega))
  have HLE := Lib.hid (show (numsT 0 0 bs).length ≤ 33 by have := HLT.out.2; omega)
  clear h16 hb16
  go_enter Try.func50, Try.ntmps50
  go_upto_region 3 with (first | ((with_reducible refine at_dst (N := 6) rfl ?_); refine wpList_load_row rfl 73 (.tmp 1) rfl w.heap.size rfl 73 (cellsT bs) (0, 0) _ HP.out Try.underlying73 rfl (size_tileB bs HB.out) ?_) | ((go_at_call 86); (with_reducible refine (HN.out _).mono ?_); rintro e w2 ⟨A2, c2, rfl, i2, b2⟩; have I2 := Lib.hid i2; have B2 := Lib.hid (b_next HW.out b2); clear i2 b2))
  clear hfl HN HW HP
  generalize numsT 0 0 bs = ns at *
  go_wp2_with fail
  go_loopw [3, 5] (fun v3 v5 wr => ∃ (j : Nat) (A3 : Option Addr) (n3 c3 : Nat), j ≤ ns.length ∧ v3 = .slice A3 n3 c3 ∧ v5 = .int .i64 j ∧ Hid (n3 = (encT (ns.take j)).length) ∧ Hid (Row wr w2.heap.size 5 (.slice A3 n3 c3) (encT (ns.take j))) ∧ Hid (Below w2.heap.size w2 wr)) (fun _ v5 _ => ns.length - (intOf v5).toNat)
  case atStart => exact ⟨0, none, 0, 0, Nat.zero_le _, rfl, rfl, Lib.hid rfl, Lib.hid (Row.nil _ _ _), Lib.hid (Below.refl _ _)⟩
  case round =>
    obtain ⟨j, A3, n3, c3, hj, rfl, rfl, hn3, hR, hB⟩ := hrel
    by_cases hlt : j < ns.length
    · obtain ⟨b, o, rfl, cx⟩ := (I2.out.below hB.out).at_ (j := j) (by simpa using hlt)
      have hstep := Lib.hid (encT_snoc ns j hlt)
      have hX := HLT.out.1 (ns.getD j 0) (by rw [List.getD_eq_getElem?_getD, List.getElem?_eq_getElem hlt]; exact List.getElem_mem hlt)
      have hg : (ns.map fun (n : Nat) => (n : Int)).getD j 0 = ((ns.getD j 0 : Nat) : Int) := by
        simp [List.getD_eq_getElem?_getD, List.getElem?_map, List.getElem?_eq_getElem hlt]
      rw [hg] at cx
      have HNum := Lib.hid (refNumber_any (ns.getD j 0) (by omega) wr)
      have HM := Lib.hid (show ns.length - (j + 1) < ns.length - j by omega)
      have HJ := Lib.hid (show j + 1 ≤ ns.length by omega)
      have HJW := Lib.hid (show wrap64 ((j : Int) + 1) = ((j + 1 : Nat) : Int) by have := HLE.out; rw [w64 (by omega) (by omega)]; rfl)
      have i0 : (0 : Int) ≤ (j : Int) := by omega
      have i1 : (j : Int) < (ns.length : Int) := by omega
      have HLen := Lib.hid (show (encT (ns.take (j + 1))).length ≤ 140737488355328 by
        have h1 := encT_len (ns.take (j + 1))
        have h2 := HLE.out
        rw [List.length_take] at h1
        omega)
      generalize hL1 : encT (ns.take (j + 1)) = L1 at *
      have HL1 := Lib.hid hL1
      clear hL1
      generalize encT (ns.take j) = L0 at *
      generalize ns.getD j 0 = N at *
      clear hX hg hj hlt
      go_wp2_with (first | ((go_at_call 37); (with_reducible refine (HNum.out).mono ?_); rintro e w6 ⟨A6, c6, rfl, s6, b6⟩; have S6 := Lib.hid s6; have B6 := Lib.hid b6; clear s6 b6) | ((with_reducible refine at_dst (N := 20) rfl ?_); refine app_bytes2 rfl (.tmp 14) (.tmp 19) 39 rfl rfl (by kernel_rfl) L0 L1 rfl (hR.out.keep B6.out) rfl rfl S6.out hstep.out HLen.out (Nat.le_trans hB.out.size B6.out.size) ?_; intro A7 c7 w7 r7 b7 _; have R7 := Lib.hid r7; have B7 := Lib.hid (hB.out.trans ((B6.out.mono hB.out.size).trans b7)); clear r7 b7))
      have hjw := HJW.out
      exact ⟨⟨j + 1, A7, _, c7, HJ.out, rfl, by first | rfl | rw [hjw], Lib.hid (by rw [HL1.out]), Lib.hid (by rw [HL1.out]; exact R7.out), B7⟩, by first | exact HM.out | (rw [hjw]; exact HM.out)⟩
    · obtain rfl : j = ns.length := by omega
      rw [List.take_length] at hR hn3
      clear hlt hj
      go_wp2_with fail
      go_ret
      obtain rfl := hn3.out
      exact ⟨A3, c3, rfl, hR.out.bs', (AppS.cap (AppS.row hR.out rfl) (by have h1 := encT_len ns; have h2 := HLE.out; omega)).1, (AppS.cap (AppS.row hR.out rfl) (by have h1 := encT_len ns; have h2 := HLE.out; omega)).2, B2.out.trans (hB.out.mono B2.out.size)⟩
end Go.Proofs.Ytmjdlofkjjofcaa

/- Package prefix: signed numbers put; a reader's end; bytes with room. -/
import Derived.Test.YtmjdlofkjjofcaaProg
import Derived.Test.YtmjdlofkjjofcaaKit
import Derived.Test.YtmjdlofkjjofcaaKitb
import Derived.Test.YtmjdlofkjjofcaaBytes
import Derived.Test.YtmjdlofkjjofcaaInts
import Derived.Test.YtmjdlofkjjofcaaApp
import Derived.Test.YtmjdlofkjjofcaaAppS
import Derived.Test.YtmjdlofkjjofcaaSeal
import Derived.Test.YtmjdlofkjjofcaaPrefixV
import Derived.Test.YtmjdlofkjjofcaaPrefix
import Derived.Test.YtmjdlofkjjofcaaReaderM
import Derived.Test.YtmjdlofkjjofcaaPutsR
import Derived.Test.YtmjdlofkjjofcaaRdMore
import Derived.Deep.QuietTactic
import Derived.BigQuiet
namespace Go.Proofs.Ytmjdlofkjjofcaa
open Go.RowKit
set_option linter.unusedVariables false
set_option linter.unusedSimpArgs false

/-- Signed numbers' bytes. -/
def encS (ns : List Int) : List UInt8 := ns.flatMap fun x => encU (foldI x)
def encN (ns : List Int) : List UInt8 := ns.flatMap fun x => encU x.toNat
theorem encS_step (ns : List Int) (j : Nat) (hj : j < ns.length) : encS (ns.take (j + 1)) = encS (ns.take j) ++ encU (foldI (ns.getD j 0)) := by
  unfold encS
  rw [List.take_add_one, List.getElem?_eq_getElem hj, Option.toList_some, List.flatMap_append, List.getD_eq_getElem?_getD, List.getElem?_eq_getElem hj]
  simp
theorem encN_step (ns : List Int) (j : Nat) (hj : j < ns.length) : encN (ns.take (j + 1)) = encN (ns.take j) ++ encU (ns.getD j 0).toNat := by
  unfold encN
  rw [List.take_add_one, List.getElem?_eq_getElem hj, Option.toList_some, List.flatMap_append, List.getD_eq_getElem?_getD, List.getElem?_eq_getElem hj]
  simp
theorem encS_len (ns : List Int) : (encS ns).length ≤ 9 * ns.length := by
  unfold encS
  induction ns with
  | nil => simp
  | cons x t ih =>
    have := encU_length (foldI x)
    have := sizeU_le (foldI x)
    rw [List.flatMap_cons, List.length_append, List.length_cons]
    omega
theorem encN_len (ns : List Int) : (encN ns).length ≤ 9 * ns.length := by
  unfold encN
  induction ns with
  | nil => simp
  | cons x t ih =>
    have := encU_length x.toNat
    have := sizeU_le x.toNat
    rw [List.flatMap_cons, List.length_append, List.length_cons]
    omega
set_option maxHeartbeats 1000000 in
set_option maxRecDepth 20000 in
theorem putInt_any (A A2 : Option Addr) (n c m c2 : Nat) (l : List UInt8) (ns : List Int) (hn : n = l.length) (hm : m = ns.length) (w : World) (h : Bs w w.heap.size A l) (h2 : Is .i64 w w.heap.size A2 ns) (hns : ∀ x ∈ ns, -9223372036854775808 ≤ x ∧ x ≤ 9223372036854775807)
    (hc : n ≤ c ∧ c ≤ 9223372036854775807) (hl : l.length + 9 * ns.length ≤ 140737487000000) :
    Calls Try.prog 43 #[.slice A n c, .slice A2 m c2] w (RetBs w (l ++ encS ns)) := by
  subst hn hm
  have H := Lib.hid h
  have H2 := Lib.hid h2
  have HN := Lib.hid hns
  have HC := Lib.hid hc
  have HL := Lib.hid hl
  clear h h2 hns hc hl
  go_enter Try.func43, Try.ntmps43
  go_wp2_with fail
  go_loopw [0, 9] (fun v0 v9 wr => ∃ (j : Nat) (A' : Option Addr) (n' c' : Nat), j ≤ ns.length ∧ v0 = .slice A' n' c' ∧ v9 = .int .i64 j ∧ Hid (n' = (l ++ encS (ns.take j)).length) ∧ Hid (Bs wr wr.heap.size A' (l ++ encS (ns.take j))) ∧ Hid (n' ≤ c' ∧ c' ≤ 9223372036854775807) ∧ Hid (Below w.heap.size w wr)) (fun _ v9 _ => ns.length - (intOf v9).toNat)
  case atStart => exact ⟨0, A, l.length, c, Nat.zero_le _, rfl, rfl, Lib.hid (by simp [encS]), Lib.hid (by simpa [encS] using H.out), HC, Lib.hid (Below.refl _ _)⟩
  case round =>
    obtain ⟨j, A', n', c', hj, rfl, rfl, hn', hS, hc', hB⟩ := hrel
    by_cases hlt : j < ns.length
    · obtain ⟨b, o, rfl, cx⟩ := (H2.out.below hB.out).at_ hlt
      have hstep := Lib.hid (show l ++ encS (ns.take (j + 1)) = (l ++ encS (ns.take j)) ++ encU (foldI (ns.getD j 0)) by rw [encS_step ns j hlt, List.append_assoc])
      have hlen := encS_len (ns.take j)
      have hX := HN.out (ns.getD j 0) (by rw [List.getD_eq_getElem?_getD, List.getElem?_eq_getElem hlt]; exact List.getElem_mem hlt)
      have hll : (l ++ encS (ns.take j)).length ≤ 140737487000000 := by
        rw [List.length_append]
        rw [List.length_take] at hlen
        have := HL.out
        omega
      have HP := put_one A' n' c' _ (foldI (ns.getD j 0)) hn'.out (foldI_lt _ hX.1 hX.2) (Below.refl _ wr) hS.out hc'.out hll
      rw [← hstep.out] at HP
      replace HP := Lib.hid HP
      have HM := Lib.hid (show ns.length - (j + 1) < ns.length - j by omega)
      have HJ := Lib.hid (show j + 1 ≤ ns.length by omega)
      have HJW := Lib.hid (show wrap64 ((j : Int) + 1) = ((j + 1 : Nat) : Int) by have := HL.out; rw [w64 (by omega) (by omega)]; rfl)
      have HF := Lib.hid (fun W => fold_any (ns.getD j 0) hX W)
      clear hstep hn' hS
      generalize hL1 : l ++ encS (ns.take (j + 1)) = L1 at *
      have HL1 := Lib.hid hL1
      generalize ns.getD j 0 = X at *
      clear hlen hX hll hj hL1
      have i0 : (0 : Int) ≤ (j : Int) := by omega
      have i1 : (j : Int) < (ns.length : Int) := by omega
      clear hlt
      go_wp2_with (first | ((go_at_call 38); (with_reducible refine (HF.out _).mono ?_); rintro e w' ⟨rfl, rfl⟩) | ((go_at_call 42); (with_reducible refine HP.out.mono ?_); rintro e w1 ⟨A1, c1, rfl, s1, k1, k2, b1⟩))
      have hjw := HJW.out
      exact ⟨⟨j + 1, A1, _, c1, HJ.out, rfl, by rw [hjw], Lib.hid (by rw [HL1.out]), Lib.hid (by rw [HL1.out]; exact s1), Lib.hid ⟨k1, k2⟩, Lib.hid ((hB.out.alloc hB.out.size _).trans (b1.mono (by simp only [World.size_alloc]; exact Nat.le_succ_of_le hB.out.size)))⟩, by rw [hjw]; exact HM.out⟩
    · obtain rfl : j = ns.length := by omega
      rw [List.take_length] at hS hn'
      clear hlt hj
      go_wp2_with fail
      go_ret
      obtain rfl := hn'.out
      exact ⟨A', c', rfl, hS.out, hc'.out.1, hc'.out.2, hB.out⟩
theorem end_any (P : Nat) (l : List UInt8) (w : World) (h : Rd w P l l.length .nil) (hl : l.length ≤ 4611686018427387904) :
    Calls Try.prog 47 #[.pointer (some ⟨P, 0, none⟩)] w fun e w' => e = .returned .nilIface ∧ Below w.heap.size w w' := by
  have HE := Lib.hid (err_ok P l l.length w h)
  have HL := Lib.hid (left_any P l l.length .nil w h hl)
  have HE2 := Lib.hid fun q => err_ok P l l.length (w.drewN q) (h.only (below_dn (Below.refl _ _) q))
  have q3 := fun w => eql_nil_nil (P := Try.prog) w (ti := 66) Try.underlying66
  have hz : (l.length : Int) - (l.length : Int) = 0 := by omega
  clear h
  go_enter Try.func47, Try.ntmps47
  go_wp2_with (first | ((go_at_call 84); (with_reducible refine (HE.out).mono ?_); rintro e w' ⟨rfl, rfl⟩) | ((go_at_call 48); (with_reducible refine (HL.out).mono ?_); rintro e w1 ⟨rfl, q, rfl⟩; rw [hz]) | ((go_at_call 84); (with_reducible refine (HE2.out q).mono ?_); rintro e w' ⟨rfl, rfl⟩))
  go_ret
  exact ⟨rfl, below_dn (Below.refl _ _) q⟩
set_option maxRecDepth 20000 in
theorem make_bytes (n : Nat) (hn : n ≤ 16777216) (W : World) : (Instr.makeSlice 39 (.int .i64 0) (.int .i64 n)).run Try.prog W = .ok (.slice (some ⟨W.heap.size, 0, none⟩) 0 n) (W.alloc (.cells (Array.replicate n (.int .u8 0)) 5)) := by
  obtain ⟨i, hi, hz⟩ : ∃ i, Try.prog.info? 5 = some i ∧ (i.zero, i.size, i.bytes) = (some (.int .u8 0), 1, 1) := by
    have h0 : (Try.prog.info? 5).map (fun i => (i.zero, i.size, i.bytes)) = some (some (.int .u8 0), 1, 1) := by kernel_rfl
    cases h : Try.prog.info? 5 with
    | none => rw [h] at h0; cases h0
    | some i => exact ⟨i, rfl, by rw [h] at h0; injection h0⟩
  injection hz with hz0 hz1
  injection hz1 with hz1 hz2
  have := run_makeSlice (P := Try.prog) (w := W) 39 5 i (.int .u8 0) Try.underlying39 hi hz0 .i64 .i64 (0 : Int) (n : Int) (by omega) (by omega) (by rw [hz1]; omega) (by rw [hz2]; omega) (by omega)
  rw [this, hz1]
  have e : madeCells (Value.int .u8 0).cells ((n : Int).toNat * 1) = Array.replicate n (.int .u8 0) := by
    unfold madeCells
    apply Array.ext
    · simp
    · intro j h1 h2
      simp only [Array.getElem_map, Array.getElem_replicate]
      show (#[Value.int .u8 0] : Array Value)[_ % 1]! = _
      rw [Nat.mod_one]
      rfl
  rw [e, Int.toNat_natCast]
  rfl
theorem row_room (W : World) (n : Nat) (hn : n ≤ 140737488355328) (T : TypeId) : Row (W.alloc (.cells (Array.replicate n (.int .u8 0)) T)) W.heap.size T (.slice (some ⟨W.heap.size, 0, none⟩) 0 n) [] :=
  ⟨rfl, Or.inr ⟨W.heap.size, n, _, rfl, Nat.le_refl _, heap_alloc_new W _, Nat.zero_le _, by simp only [maxLen]; omega, by simp, rfl⟩⟩
end Go.Proofs.Ytmjdlofkjjofcaa

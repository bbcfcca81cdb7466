/- PrefixPuts, walked. -/
import Derived.Test.YtmjdlofkjjofcaaProg
import Derived.Test.YtmjdlofkjjofcaaKit
import Derived.Test.YtmjdlofkjjofcaaKitb
import Derived.Test.YtmjdlofkjjofcaaBytes
import Derived.Test.YtmjdlofkjjofcaaInts
import Derived.Test.YtmjdlofkjjofcaaApp
import Derived.Test.YtmjdlofkjjofcaaAppS
import Derived.Test.YtmjdlofkjjofcaaStr
import Derived.Test.YtmjdlofkjjofcaaSeal
import Derived.Test.YtmjdlofkjjofcaaPrefixV
import Derived.Test.YtmjdlofkjjofcaaPrefix
import Derived.Test.YtmjdlofkjjofcaaReader
import Derived.Test.YtmjdlofkjjofcaaReaderM
import Derived.Test.YtmjdlofkjjofcaaPrefixL
import Derived.Test.YtmjdlofkjjofcaaPutsR
import Derived.Test.YtmjdlofkjjofcaaPuts
import Derived.Deep.QuietTactic
import Derived.BigQuiet
import Derived.Deep.RegionWith
import Derived.Deep.DeepCutAuto
namespace Go.Proofs.Ytmjdlofkjjofcaa
open Go.RowKit
set_option linter.unusedVariables false
set_option linter.unusedSimpArgs false

theorem str_add (X Y : List UInt8) : (⟨X.toArray⟩ : ByteArray) ++ (⟨Y.toArray⟩ : ByteArray) = ⟨(X ++ Y).toArray⟩ := by
  apply ByteArray.ext
  simp
theorem dec_at (pre rest : List UInt8) (N : Nat) (hN : N < 18446744073709551616) (at_ : Nat) (h : at_ = pre.length) (X : List UInt8) (hX : X = pre ++ (encU N ++ rest)) :
    uintN (X.drop at_) = N ∧ at_ + uintK (X.drop at_) = (pre ++ encU N).length ∧ uintE at_ (X.drop at_) = .nil := by
  subst h hX
  rw [List.drop_left]
  have hd := dec_enc N hN rest
  unfold uintN uintK uintE
  rw [hd]
  exact ⟨rfl, by rw [List.length_append, encU_length], rfl⟩
theorem uint_at (P : Nat) (X pre rest : List UInt8) (N : Nat) (hN : N < 18446744073709551616) (hX : X = pre ++ (encU N ++ rest)) (hl : X.length ≤ 4611686018427387904) (nx : Nat) (hnx : nx = (pre ++ encU N).length) (w : World) (h : Rd w P X pre.length .nil) :
    Calls Try.prog 45 #[.pointer (some ⟨P, 0, none⟩)] w fun e w' => e = .returned (.int .u64 N) ∧ Rd w' P X nx .nil ∧ Only P w w' := by
  obtain ⟨e1, e2, e3⟩ := dec_at pre rest N hN pre.length rfl X hX
  have := uint_any P X pre.length w h hl
  unfold UintR at this
  rw [e1, e2, e3, ← hnx] at this
  exact this
theorem int_at (P : Nat) (X pre rest : List UInt8) (N : Nat) (I : Int) (hI : openI N = I) (hN : N < 18446744073709551616) (hX : X = pre ++ (encU N ++ rest)) (hl : X.length ≤ 4611686018427387904) (nx : Nat) (hnx : nx = (pre ++ encU N).length) (w : World) (h : Rd w P X pre.length .nil) :
    Calls Try.prog 46 #[.pointer (some ⟨P, 0, none⟩)] w fun e w' => e = .returned (.int .i64 I) ∧ Rd w' P X nx .nil ∧ Only P w w' := by
  obtain ⟨e1, e2, e3⟩ := dec_at pre rest N hN pre.length rfl X hX
  have := int_any P X pre.length w h hl
  unfold IntR at this
  rw [e1, e2, e3, ← hnx, hI] at this
  exact this
theorem encN_at (ns : List Int) (j : Nat) (hj : j < ns.length) : encN ns = encN (ns.take j) ++ (encU (ns.getD j 0).toNat ++ encN (ns.drop (j + 1))) := by
  have e : ns = ns.take j ++ (ns.getD j 0 :: ns.drop (j + 1)) := by
    rw [List.getD_eq_getElem?_getD, List.getElem?_eq_getElem hj, Option.getD_some, ← List.drop_eq_getElem_cons hj, List.take_append_drop]
  conv => lhs; rw [e]
  unfold encN
  rw [List.flatMap_append, List.flatMap_cons]
theorem encS_at (ns : List Int) (j : Nat) (hj : j < ns.length) : encS ns = encS (ns.take j) ++ (encU (foldI (ns.getD j 0)) ++ encS (ns.drop (j + 1))) := by
  have e : ns = ns.take j ++ (ns.getD j 0 :: ns.drop (j + 1)) := by
    rw [List.getD_eq_getElem?_getD, List.getElem?_eq_getElem hj, Option.getD_some, ← List.drop_eq_getElem_cons hj, List.take_append_drop]
  conv => lhs; rw [e]
  unfold encS
  rw [List.flatMap_append, List.flatMap_cons]
set_option maxRecDepth 100000 in
set_option maxHeartbeats 8000000 in
theorem prefixPuts_in (A : Option Addr) (c : Nat) (a : List UInt8) (A1 : Option Addr) (c1 : Nat) (ns : List Int) (A2 : Option Addr) (c2 : Nat) (ss : List Int) (w : World) (h : Bs w w.heap.size A a) (h1 : Is .u64 w w.heap.size A1 ns) (h2 : Is .i64 w w.heap.size A2 ss)
    (hns : ∀ x ∈ ns, 0 ≤ x ∧ x < 18446744073709551616) (hss : ∀ x ∈ ss, -9223372036854775808 ≤ x ∧ x ≤ 9223372036854775807) (hla : a.length ≤ 200) (hln : ns.length + ss.length ≤ 100) :
    Calls Try.prog 6 #[.slice A a.length c, .slice A1 ns.length c1, .slice A2 ss.length c2] w fun e w' => e = .returned (.bool true) ∧ Below w.heap.size w w' := by
  have g1 : decide ((a.length : Int) > 200) = false := decide_eq_false (by omega)
  have g2 : decide (wrap64 ((ns.length : Int) + ss.length) > 100) = false := decide_eq_false (by rw [w64 (by omega) (by omega)]; omega)
  have H := Lib.hid h
  have H1 := Lib.hid h1
  have H2 := Lib.hid h2
  have HN := Lib.hid hns
  have HS := Lib.hid hss
  have HL := Lib.hid (And.intro hla hln)
  have hw30 : wrap64 ((a.length : Int) + 30) = ((a.length + 30 : Nat) : Int) := by rw [w64 (by omega) (by omega)]; rfl
  have hmk := Lib.hid (fun W => make_bytes (a.length + 30) (by omega) W)
  clear h h1 h2 hns hss hla hln
  go_enter Try.func6, Try.ntmps6
  go_upto_region 3 with ((go_at_call 36); (with_reducible refine (lives2_any _).mono ?_); rintro e w1 ⟨rfl, b1⟩; have B1 := Lib.hid b1; clear b1)
  clear g1 g2
  have hmk1 : (Instr.makeSlice 39 (.int .i64 0) (.int .i64 ((a.length : Int) + 30))).run Try.prog w1 = .ok (.slice (some ⟨w1.heap.size, 0, none⟩) 0 (a.length + 30)) (w1.alloc (.cells (Array.replicate (a.length + 30) (.int .u8 0)) 5)) := hmk.out w1
  go_upto_region 4 with ((with_reducible refine at_dst (N := 42) rfl ?_); refine app_bytes2 rfl (.tmp 40) (.tmp 41) 39 rfl rfl (by kernel_rfl) [] a rfl (row_room w1 (a.length + 30) ?ya _) rfl rfl (bs_at H.out (B1.out.alloc B1.out.size _)) rfl ?yb ?yc ?_; (case ya => have := HL.out; omega); (case yb => have := HL.out; omega); (case yc => simp only [World.size_alloc]; omega); intro A4 c4 w4 r4 b4 _; have R4 := Lib.hid r4; have B4 := Lib.hid ((B1.out.alloc B1.out.size (.cells (Array.replicate (a.length + 30) (.int .u8 0)) 5)).trans (b4.mono B1.out.size)); clear r4 b4)
  have hcv0 := conv_below Try.prog 39 9 5 Try.underlying39 Try.underlying5 Try.underlying9 A a.length c a rfl H.out
  have hcvq : ∀ q, (convert 39 9 (.slice A a.length c)).run Try.prog (w4.drewN q) = .ok (.string ⟨a.toArray⟩) (w4.drewN q) := fun q => hcv0 _ (below_dn B4.out q)
  have hcvd : (convert 39 9 (.slice A a.length c)).run Try.prog w4.drew = .ok (.string ⟨a.toArray⟩) w4.drew := hcv0 _ B4.out.drew
  clear hcv0 hmk1 hw30
  go_quiet (fail)
  have B5 := Lib.hid (below_dn B4.out nq)
  have R5 := Lib.hid (R4.out.keep (below_dn (Below.refl _ _) nq))
  clear hcvq hcvd B4 R4 hmk
  generalize w4.drewN nq = w5 at *
  have S5 := Lib.hid (show Bs w5 w5.heap.size A4 a ∧ a.length ≤ c4 ∧ c4 ≤ 9223372036854775807 from ⟨R5.out.bs', AppS.cap (AppS.row R5.out rfl) (by have := HL.out; omega)⟩)
  have S5c := Lib.hid S5.out.2
  clear R5 B1
  go_wp2_with fail
  go_loopw [8, 49] (fun v8 v49 wr => ∃ (j : Nat), j ≤ ns.length ∧ v8 = .string ⟨(a ++ encN (ns.take j)).toArray⟩ ∧ v49 = .int .i64 j ∧ Hid (Bs wr wr.heap.size A4 a) ∧ Hid (Below w.heap.size w wr)) (fun _ v49 _ => ns.length - (intOf v49).toNat)
  case atStart => exact ⟨0, Nat.zero_le _, by simp [encN], rfl, Lib.hid S5.out.1, B5⟩
  case round =>
    clear B5
    obtain ⟨j, hj, rfl, rfl, hA4, hB⟩ := hrel
    by_cases hlt : j < ns.length
    · obtain ⟨b, o, rfl, cx⟩ := (H1.out.below hB.out).at_ hlt
      have hstep := Lib.hid (show a ++ encN (ns.take (j + 1)) = (a ++ encN (ns.take j)) ++ encU (ns.getD j 0).toNat by rw [encN_step ns j hlt, List.append_assoc])
      have hX := HN.out (ns.getD j 0) (by rw [List.getD_eq_getElem?_getD, List.getElem?_eq_getElem hlt]; exact List.getElem_mem hlt)
      obtain ⟨N, hN⟩ := Int.eq_ofNat_of_zero_le hX.1
      rw [hN] at cx hstep hX
      simp only [Int.toNat_natCast] at hstep
      have hN64 : N < 18446744073709551616 := by omega
      have HM := Lib.hid (show ns.length - (j + 1) < ns.length - j by omega)
      have HJ := Lib.hid (show j + 1 ≤ ns.length by omega)
      have HJW := Lib.hid (show wrap64 ((j : Int) + 1) = ((j + 1 : Nat) : Int) by have := HL.out; rw [w64 (by omega) (by omega)]; rfl)
      have HNum := Lib.hid (refNumber_any N hN64 wr)
      have HO := Lib.hid fun W => open_any N hN64 W
      have HRO := Lib.hid fun W => refOpen_any N hN64 W
      have HF := Lib.hid fun W => fold_n (openI N) N (fold_open N hN64) (openI_bd N hN64) W
      have i0 : (0 : Int) ≤ (j : Int) := by omega
      have i1 : (j : Int) < (ns.length : Int) := by omega
      have hno : ¬ 9223372036854775807 < (a ++ encN (ns.take j)).length + (encU N).length := by
        have h1 := encN_len (ns.take j)
        have h2 := HL.out
        have h3 := encU_length N
        have h4 := sizeU_le N
        rw [List.length_take] at h1
        rw [List.length_append]
        omega
      generalize hL1 : a ++ encN (ns.take (j + 1)) = L1 at *
      generalize a ++ encN (ns.take j) = L0 at *
      have HL1 := Lib.hid hL1
      clear hX hN64 hN hj hlt hL1
      go_wp2_with (first
        | ((go_at_call 37); (with_reducible refine (HNum.out).mono ?_); rintro e w6 ⟨A6, c6, rfl, s6, b6⟩)
        | ((with_reducible refine at_dst (N := 56) rfl ?_); refine str_bytes rfl (.tmp 55) _ _ 5 rfl Try.underlying39 Try.underlying5 Try.underlying9 rfl rfl s6 ?_)
        | ((go_at_call 39); (with_reducible refine (HO.out _).mono ?_); rintro e w' ⟨rfl, rfl⟩)
        | ((go_at_call 38); (with_reducible refine (HF.out _).mono ?_); rintro e w' ⟨rfl, rfl⟩)
        | ((go_at_call 40); (with_reducible refine (HRO.out _).mono ?_); rintro e w' ⟨rfl, rfl⟩))
      have hjw := HJW.out
      exact ⟨⟨j + 1, HJ.out, by rw [str_add, HL1.out, hstep.out], by rw [hjw], Lib.hid (bs_at hA4.out b6), Lib.hid (b_next hB.out b6)⟩, by rw [hjw]; exact HM.out⟩
    · obtain rfl : j = ns.length := by omega
      rw [List.take_length]
      clear hlt hj S5
      go_wp2_with fail
      have hA5 := hA4
      have hB5 := hB
      clear hA4 hB
      go_loopw [9, 73] (fun v9 v73 wq => ∃ (j : Nat), j ≤ ss.length ∧ v9 = .string ⟨(a ++ encS (ss.take j)).toArray⟩ ∧ v73 = .int .i64 j ∧ Hid (Bs wq wq.heap.size A4 a) ∧ Hid (Below w.heap.size w wq)) (fun _ v73 _ => ss.length - (intOf v73).toNat)
      case atStart => exact ⟨0, Nat.zero_le _, by simp [encS], rfl, hA5, hB5⟩
      case round =>
        clear hA5 hB5
        obtain ⟨j, hj, rfl, rfl, hA4, hB⟩ := hrel
        by_cases hlt : j < ss.length
        · obtain ⟨b, o, rfl, cx⟩ := (H2.out.below hB.out).at_ hlt
          have hstep := Lib.hid (show a ++ encS (ss.take (j + 1)) = (a ++ encS (ss.take j)) ++ encU (foldI (ss.getD j 0)) by rw [encS_step ss j hlt, List.append_assoc])
          have hX := HS.out (ss.getD j 0) (by rw [List.getD_eq_getElem?_getD, List.getElem?_eq_getElem hlt]; exact List.getElem_mem hlt)
          have hno : ¬ 9223372036854775807 < (a ++ encS (ss.take j)).length + (encU (foldI (ss.getD j 0))).length := by
            have h1 := encS_len (ss.take j)
            have h2 := HL.out
            have h3 := encU_length (foldI (ss.getD j 0))
            have h4 := sizeU_le (foldI (ss.getD j 0))
            rw [List.length_take] at h1
            rw [List.length_append]
            omega
          generalize ss.getD j 0 = X at *
          have hN64 := foldI_lt X hX.1 hX.2
          have HM := Lib.hid (show ss.length - (j + 1) < ss.length - j by omega)
          have HJ := Lib.hid (show j + 1 ≤ ss.length by omega)
          have HJW := Lib.hid (show wrap64 ((j : Int) + 1) = ((j + 1 : Nat) : Int) by have := HL.out; rw [w64 (by omega) (by omega)]; rfl)
          have HNum := Lib.hid fun W => refNumber_any (foldI X) hN64 W
          have HO := Lib.hid fun W => (show Calls Try.prog 39 #[.int .u64 (foldI X)] W fun e w' => e = .returned (.int .i64 X) ∧ W = w' by have := open_any (foldI X) hN64 W; rw [open_fold X hX.1 hX.2] at this; exact this)
          have HRF := Lib.hid fun W => refFold_any X hX W
          have HF := Lib.hid fun W => fold_any X hX W
          have i0 : (0 : Int) ≤ (j : Int) := by omega
          have i1 : (j : Int) < (ss.length : Int) := by omega
          generalize hL1 : a ++ encS (ss.take (j + 1)) = L1 at *
          generalize a ++ encS (ss.take j) = L0 at *
          have HL1 := Lib.hid hL1
          generalize a ++ encN ns = LN at *
          generalize foldI X = FX at *
          clear hX hN64 hj hlt hL1
          go_wp2_with (first
            | ((go_at_call 37); (with_reducible refine (HNum.out _).mono ?_); rintro e w6 ⟨A6, c6, rfl, s6, b6⟩)
            | ((with_reducible refine at_dst (N := 81) rfl ?_); refine str_bytes rfl (.tmp 80) _ _ 5 rfl Try.underlying39 Try.underlying5 Try.underlying9 rfl rfl s6 ?_)
            | ((go_at_call 39); (with_reducible refine (HO.out _).mono ?_); rintro e w' ⟨rfl, rfl⟩)
            | ((go_at_call 38); (with_reducible refine (HF.out _).mono ?_); rintro e w' ⟨rfl, rfl⟩)
            | ((go_at_call 41); (with_reducible refine (HRF.out _).mono ?_); rintro e w' ⟨rfl, rfl⟩))
          have hjw := HJW.out
          exact ⟨⟨j + 1, HJ.out, by rw [str_add, HL1.out, hstep.out], by rw [hjw], Lib.hid (bs_at hA4.out b6), Lib.hid (b_next hB.out b6)⟩, by rw [hjw]; exact HM.out⟩
        · obtain rfl : j = ss.length := by omega
          rw [List.take_length]
          clear hlt hj
          have HC4 := S5c
          have HLa := Lib.hid (show a.length + 9 * ns.length ≤ 140737487000000 ∧ a.length + 9 * ss.length ≤ 140737487000000 ∧ (encN ns).length + 9 * ss.length ≤ 140737487000000 ∧ (encN ns ++ encS ss).length ≤ 140737488355328 by
            have h1 := HL.out
            have h2 := encN_len ns
            have h3 := encS_len ss
            rw [List.length_append]
            omega)
          obtain ⟨LN, hLN⟩ : ∃ X, X = a ++ encN ns := ⟨_, rfl⟩
          obtain ⟨LS, hLS⟩ : ∃ X, X = a ++ encS ss := ⟨_, rfl⟩
          obtain ⟨LB, hLB⟩ : ∃ X, X = encN ns ++ encS ss := ⟨_, rfl⟩
          obtain ⟨L3, hL3⟩ : ∃ X, X = encN ns := ⟨_, rfl⟩
          rw [← hLB, ← hL3] at HLa
          have HP1 := Lib.hid fun W (b : Below w.heap.size w W) (s : Bs W W.heap.size A4 a) => put_n A4 A1 a.length c4 ns.length c1 a ns LN hLN rfl rfl W s ((H1.out.below b).more b.size) HN.out HC4.out (by have := HLa.out; omega)
          have HP2 := Lib.hid fun W (b : Below w.heap.size w W) (s : Bs W W.heap.size A4 a) => (show Calls _ _ _ _ (RetBs W LS) from hLS ▸ putInt_any A4 A2 a.length c4 ss.length c2 a ss rfl rfl W s ((H2.out.below b).more b.size) HS.out HC4.out (by have := HLa.out; omega))
          have HP3 := Lib.hid fun W (b : Below w.heap.size w W) => put_n none A1 0 0 ns.length c1 [] ns L3 hL3 rfl rfl W (Or.inl rfl) ((H1.out.below b).more b.size) HN.out (by omega) (by have := HLa.out; simp only [List.length_nil]; omega)
          have HP4 := Lib.hid fun W A' c' (b : Below w.heap.size w W) (s : Bs W W.heap.size A' L3) (hc' : L3.length ≤ c' ∧ c' ≤ 9223372036854775807) => (show Calls _ _ _ _ (RetBs W LB) from (show L3 ++ encS ss = LB by rw [hLB, hL3]) ▸ putInt_any A' A2 L3.length c' ss.length c2 L3 ss rfl rfl W s ((H2.out.below b).more b.size) HS.out hc' (by have := HLa.out; omega))
          have HR := Lib.hid fun W A' c' (s : Bs W W.heap.size A' LB) => read_any A' LB.length c' LB rfl W s HLa.out.2.2.2
          have HT := Lib.hid (And.intro hLB hL3)
          rw [← hLN, ← hLS]
          clear hLN hLS hLB hL3
          go_upto_region 20 with (first
            | ((go_at_call 42); (with_reducible refine (HP1.out _ hB.out hA4.out).mono ?_); rintro e w7 ⟨A7, c7, rfl, s7, k7, m7, b7⟩; have B7 := Lib.hid (b_next hB.out b7); have S7 := Lib.hid s7; have hA7 := Lib.hid (bs_at hA4.out b7); clear s7 b7)
            | ((go_at_call 43); (with_reducible refine (HP2.out _ B7.out hA7.out).mono ?_); rintro e w8 ⟨A8, c8, rfl, s8, k8, m8, b8⟩; have B8 := Lib.hid (b_next B7.out b8); have S8 := Lib.hid s8; have T7 := Lib.hid (bs_at S7.out b8); clear s8 b8))
          go_upto_region 22 with (first
            | ((with_reducible refine at_dst (N := 103) rfl ?_); refine str_bytes rfl (.tmp 102) _ _ 5 rfl Try.underlying39 Try.underlying5 Try.underlying9 rfl rfl T7.out ?_)
            | ((with_reducible refine at_dst (N := 108) rfl ?_); refine str_bytes rfl (.tmp 107) _ _ 5 rfl Try.underlying39 Try.underlying5 Try.underlying9 rfl rfl S8.out ?_))
          clear HP1 HP2 S7 T7 S8 hA7 B7 hA4 hB
          go_wp2_with (first
            | ((go_at_call 42); (with_reducible refine (HP3.out _ B8.out).mono ?_); rintro e w9 ⟨A9, c9, rfl, s9, k9, m9, b9⟩; have B9 := Lib.hid (b_next B8.out b9); have S9 := Lib.hid s9; clear s9 b9)
            | ((go_at_call 43); (with_reducible refine (HP4.out _ A9 c9 B9.out S9.out ⟨k9, m9⟩).mono ?_); rintro e w10 ⟨A10, c10, rfl, s10, k10, m10, b10⟩; have B10 := Lib.hid (b_next B9.out b10); have S10 := Lib.hid s10; clear s10 b10)
            | ((go_at_call 44); (with_reducible refine (HR.out _ A10 c10 S10.out).mono ?_); rintro e w11 ⟨⟨P, rfl, r11, z11⟩, b11⟩; have B11 := Lib.hid (b_next B10.out b11); have R11 := Lib.hid r11; have Z11 := Lib.hid (Nat.le_trans B10.out.size z11); clear r11 z11 b11))
          have HLB := Lib.hid (show LB.length ≤ 4611686018427387904 by have := HLa.out.2.2.2; omega)
          clear HP3 HP4 HR B8 B9 S9 B10 S10 HLa
          go_loopw [119] (fun v119 wq => ∃ (j : Nat), j ≤ ns.length ∧ v119 = .int .i64 j ∧ Hid (Rd wq P LB (encN (ns.take j)).length .nil) ∧ Hid (Below w.heap.size w wq)) (fun v119 _ => ns.length - (intOf v119).toNat)
          case atStart => exact ⟨0, Nat.zero_le _, rfl, by simpa [encN] using R11, B11⟩
          case round =>
            clear R11 B11
            obtain ⟨j, hj, rfl, hR, hB⟩ := hrel
            by_cases hlt : j < ns.length
            · obtain ⟨b, o, rfl, cx⟩ := (H1.out.below hB.out).at_ hlt
              have hX := HN.out (ns.getD j 0) (by rw [List.getD_eq_getElem?_getD, List.getElem?_eq_getElem hlt]; exact List.getElem_mem hlt)
              have hat := encN_at ns j hlt
              have hst := encN_step ns j hlt
              obtain ⟨N, hN⟩ := Int.eq_ofNat_of_zero_le hX.1
              rw [hN] at cx hX hat hst
              simp only [Int.toNat_natCast] at hat hst
              have hXX : LB = encN (ns.take j) ++ (encU N ++ (encN (ns.drop (j + 1)) ++ encS ss)) := by
                rw [HT.out.1, hat]
                simp only [List.append_assoc]
              have HU := Lib.hid fun W (r : Rd W P LB (encN (ns.take j)).length .nil) => uint_at P LB (encN (ns.take j)) _ N (by omega) hXX HLB.out (encN (ns.take (j + 1))).length (by rw [hst]) W r
              have HM := Lib.hid (show ns.length - (j + 1) < ns.length - j by omega)
              have HJ := Lib.hid (show j + 1 ≤ ns.length by omega)
              have HJW := Lib.hid (show wrap64 ((j : Int) + 1) = ((j + 1 : Nat) : Int) by have := HL.out; rw [w64 (by omega) (by omega)]; rfl)
              have i0 : (0 : Int) ≤ (j : Int) := by omega
              have i1 : (j : Int) < (ns.length : Int) := by omega
              clear hX hN hj hlt hat hst hXX
              go_wp2_with ((go_at_call 45); (with_reducible refine (HU.out _ hR.out).mono ?_); rintro e w12 ⟨rfl, r12, o12⟩; have R12 := Lib.hid r12; have O12 := Lib.hid o12; clear r12 o12)
              have hjw := HJW.out
              exact ⟨⟨j + 1, HJ.out, by rw [hjw], R12, Lib.hid (hB.out.trans (O12.out.below Z11.out hB.out.size))⟩, by rw [hjw]; exact HM.out⟩
            · obtain rfl : j = ns.length := by omega
              rw [List.take_length] at hR
              clear hlt hj
              go_wp2_with fail
              have hR5 := hR
              have hB5 := hB
              clear hR hB
              go_loopw [130] (fun v130 wq => ∃ (j : Nat), j ≤ ss.length ∧ v130 = .int .i64 j ∧ Hid (Rd wq P LB (encN ns ++ encS (ss.take j)).length .nil) ∧ Hid (Below w.heap.size w wq)) (fun v130 _ => ss.length - (intOf v130).toNat)
              case atStart => exact ⟨0, Nat.zero_le _, rfl, by simpa [encS] using hR5, hB5⟩
              case round =>
                clear hR5 hB5
                obtain ⟨j, hj, rfl, hR, hB⟩ := hrel
                by_cases hlt : j < ss.length
                · obtain ⟨b, o, rfl, cx⟩ := (H2.out.below hB.out).at_ hlt
                  have hX := HS.out (ss.getD j 0) (by rw [List.getD_eq_getElem?_getD, List.getElem?_eq_getElem hlt]; exact List.getElem_mem hlt)
                  have hat := encS_at ss j hlt
                  have hst := encS_step ss j hlt
                  generalize ss.getD j 0 = X at *
                  have hXX : LB = (encN ns ++ encS (ss.take j)) ++ (encU (foldI X) ++ encS (ss.drop (j + 1))) := by
                    rw [HT.out.1, hat]
                    simp only [List.append_assoc]
                  have HU := Lib.hid fun W (r : Rd W P LB (encN ns ++ encS (ss.take j)).length .nil) => int_at P LB (encN ns ++ encS (ss.take j)) _ (foldI X) X (open_fold X hX.1 hX.2) (foldI_lt X hX.1 hX.2) hXX HLB.out (encN ns ++ encS (ss.take (j + 1))).length (by rw [hst, List.append_assoc]) W r
                  have HM := Lib.hid (show ss.length - (j + 1) < ss.length - j by omega)
                  have HJ := Lib.hid (show j + 1 ≤ ss.length by omega)
                  have HJW := Lib.hid (show wrap64 ((j : Int) + 1) = ((j + 1 : Nat) : Int) by have := HL.out; rw [w64 (by omega) (by omega)]; rfl)
                  have i0 : (0 : Int) ≤ (j : Int) := by omega
                  have i1 : (j : Int) < (ss.length : Int) := by omega
                  clear hX hj hlt hat hst hXX
                  go_wp2_with ((go_at_call 46); (with_reducible refine (HU.out _ hR.out).mono ?_); rintro e w12 ⟨rfl, r12, o12⟩; have R12 := Lib.hid r12; have O12 := Lib.hid o12; clear r12 o12)
                  have hjw := HJW.out
                  exact ⟨⟨j + 1, HJ.out, by rw [hjw], R12, Lib.hid (hB.out.trans (O12.out.below Z11.out hB.out.size))⟩, by rw [hjw]; exact HM.out⟩
                · obtain rfl : j = ss.length := by omega
                  rw [List.take_length, ← HT.out.1] at hR
                  clear hlt hj
                  have q3 := fun w => eql_nil_nil (P := Try.prog) w (ti := 66) Try.underlying66
                  have HE := Lib.hid fun W (r : Rd W P LB LB.length .nil) => end_any P LB W r HLB.out
                  have HLf := Lib.hid fun W (r : Rd W P LB LB.length .nil) => left_any P LB LB.length .nil W r HLB.out
                  have hz : (LB.length : Int) - (LB.length : Int) = 0 := by omega
                  go_wp2_with (first
                    | ((go_at_call 47); (with_reducible refine (HE.out _ hR.out).mono ?_); rintro e w13 ⟨rfl, b13⟩; have B13 := Lib.hid b13; have R13 := Lib.hid (hR.out.only b13); clear b13)
                    | ((go_at_call 48); (with_reducible refine (HLf.out _ R13.out).mono ?_); rintro e w14 ⟨rfl, q, rfl⟩; rw [hz]))
                  go_ret
                  exact ⟨rfl, below_dn (b_next hB.out B13.out) q⟩
theorem prefixPuts_out (A : Option Addr) (c la : Nat) (A1 : Option Addr) (c1 ln : Nat) (A2 : Option Addr) (c2 ls : Nat) (w : World) (h0 : la ≤ 1000000000000000000) (h1 : ln ≤ 1000000000000000000) (h2 : ls ≤ 1000000000000000000) (hl : la > 200 ∨ ln + ls > 100) :
    Calls Try.prog 6 #[.slice A la c, .slice A1 ln c1, .slice A2 ls c2] w fun e w' => e = .returned (.bool true) ∧ Below w.heap.size w w' := by
  have HB := Lib.hid (Below.refl w.heap.size w)
  by_cases ha : la > 200
  · have g1 : decide ((la : Int) > 200) = true := decide_eq_true (by omega)
    clear h0 h1 h2 hl ha
    go_enter Try.func6, Try.ntmps6
    go_wp2_with ((go_at_call 36); (with_reducible refine (lives2_any _).mono ?_); rintro e w1 ⟨rfl, b1⟩; have HB := Lib.hid (b_next HB.out b1); clear b1)
    go_ret
    exact ⟨rfl, HB.out⟩
  · have g1 : decide ((la : Int) > 200) = false := decide_eq_false (by omega)
    have g2 : decide (wrap64 ((ln : Int) + ls) > 100) = true := decide_eq_true (by rw [w64 (by omega) (by omega)]; omega)
    clear h0 h1 h2 hl ha
    go_enter Try.func6, Try.ntmps6
    go_wp2_with ((go_at_call 36); (with_reducible refine (lives2_any _).mono ?_); rintro e w1 ⟨rfl, b1⟩; have HB := Lib.hid (b_next HB.out b1); clear b1)
    go_ret
    exact ⟨rfl, HB.out⟩
theorem u64_rng {n : Int} (h : (Lit.int .u64 n).wf = true) : 0 ≤ n ∧ n < 18446744073709551616 := by
  have e1 : IntKind.u64.min = 0 := rfl
  have e2 : IntKind.u64.max = 18446744073709551615 := rfl
  simp only [Lit.wf, Bool.and_eq_true, decide_eq_true_eq] at h
  omega
theorem i64_rng {n : Int} (h : (Lit.int .i64 n).wf = true) : -9223372036854775808 ≤ n ∧ n ≤ 9223372036854775807 := by
  have e1 : IntKind.i64.min = -9223372036854775808 := rfl
  have e2 : IntKind.i64.max = 9223372036854775807 := rfl
  simp only [Lit.wf, Bool.and_eq_true, decide_eq_true_eq] at h
  omega
theorem prefixPuts_walk (A : Option Addr) (c : Nat) (a : List UInt8) (A1 : Option Addr) (c1 : Nat) (ns : List Int) (A2 : Option Addr) (c2 : Nat) (ss : List Int) {w : World} (h : Bs w w.heap.size A a) (hc : a.length ≤ c) (hc2 : c ≤ 140737488351232)
    (h1 : Is .u64 w w.heap.size A1 ns) (hu1 : ∀ n ∈ ns, (Lit.int .u64 n).wf = true) (hd1 : ns.length ≤ c1) (he1 : c1 * 8 ≤ 140737488351232) (h2 : Is .i64 w w.heap.size A2 ss) (hu2 : ∀ n ∈ ss, (Lit.int .i64 n).wf = true) (hd2 : ss.length ≤ c2) (he2 : c2 * 8 ≤ 140737488351232) :
    Calls Try.prog 6 #[.slice A a.length c, .slice A1 ns.length c1, .slice A2 ss.length c2] w fun e w' => e = .returned (.bool true) ∧ Below w.heap.size w w' := by
  by_cases hl : a.length > 200 ∨ ns.length + ss.length > 100
  · exact prefixPuts_out A c a.length A1 c1 ns.length A2 c2 ss.length w (by omega) (by omega) (by omega) hl
  · exact prefixPuts_in A c a A1 c1 ns A2 c2 ss w h h1 h2 (fun x hx => u64_rng (hu1 x hx)) (fun x hx => i64_rng (hu2 x hx)) (by omega) (by omega)
end Go.Proofs.Ytmjdlofkjjofcaa

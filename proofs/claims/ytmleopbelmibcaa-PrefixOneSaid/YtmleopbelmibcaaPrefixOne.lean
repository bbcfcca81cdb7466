/- PrefixOne, walked. -/
import Derived.Test.YtmleopbelmibcaaProg
import Derived.Test.YtmleopbelmibcaaKit
import Derived.Test.YtmleopbelmibcaaKitb
import Derived.Test.YtmleopbelmibcaaBytes
import Derived.Test.YtmleopbelmibcaaInts
import Derived.Test.YtmleopbelmibcaaOnly
import Derived.Test.YtmleopbelmibcaaErr
import Derived.Test.YtmleopbelmibcaaFault
import Derived.Test.YtmleopbelmibcaaApp
import Derived.Test.YtmleopbelmibcaaAppS
import Derived.Test.YtmleopbelmibcaaStr
import Derived.Test.YtmleopbelmibcaaSlices
import Derived.Test.YtmleopbelmibcaaPrefixV
import Derived.Test.YtmleopbelmibcaaPrefix
import Derived.Test.YtmleopbelmibcaaReader
import Derived.Test.YtmleopbelmibcaaReaderU
import Derived.Test.YtmleopbelmibcaaReaderM
import Derived.Test.YtmleopbelmibcaaPrefixL
import Derived.Deep.QuietTactic
import Derived.BigQuiet
import Derived.Deep.RegionWith
import Derived.Deep.DeepCutAuto
namespace Go.Proofs.Ytmleopbelmibcaa
open Go.RowKit
set_option linter.unusedVariables false
set_option linter.unusedSimpArgs false

theorem put1 (n : Nat) (hn : n < 18446744073709551616) (W : World) (b : Nat) (hc : W.cell? ⟨b, 0, none⟩ = some (.int .u64 n)) :
    Calls Try.prog 54 #[.slice none 0 0, .slice (some ⟨b, 0, none⟩) 1 1] W (RetBs W (encU n)) := by
  refine put_n none (some ⟨b, 0, none⟩) 0 0 1 1 [] [(n : Int)] (encU n) (by simp) rfl rfl _ (Or.inl rfl) (Or.inr ⟨b, 0, rfl, cell_lt hc, fun j u hu => ?_⟩) (by intro x hx; simp at hx; omega) (by decide) (by simp)
  have hj : j < 1 := (List.getElem?_eq_some_iff.1 hu).1
  obtain rfl : j = 0 := by omega
  injection hu with hu
  rw [← hu]
  exact hc
theorem err_cell (P : Nat) (t : TypeId) (a : Value) (w : World) (hc : w.cell? ⟨P, 2, none⟩ = some (.iface t a)) :
    Calls Try.prog 53 #[.pointer (some ⟨P, 0, none⟩)] w fun e w' => e = .returned (.iface t a) ∧ w = w' := by
  go_enter Try.func53, Try.ntmps53
  go_wp2_with fail
  go_ret
  exact ⟨rfl, rfl⟩
theorem enc_ahead (n m : Nat) (hn : n < 18446744073709551616) (hm : m < 18446744073709551616) : ((encU m).take (encU n).length == encU n) = decide (n = m) := by
  by_cases h : n = m
  · subst h; simp
  · have : ¬ (encU m).take (encU n).length = encU n := fun e => h (enc_prefix n m hn hm e)
    rw [decide_eq_false h, beq_eq_false_iff_ne]
    exact this
theorem extract_str (Y : List UInt8) (k : Nat) : ((⟨Y.toArray⟩ : ByteArray).extract 0 k).toList = Y.take k := by
  have e : (⟨Y.toArray⟩ : ByteArray).extract 0 k = ⟨(Y.take k).toArray⟩ := by
    apply ByteArray.ext
    simp
  rw [e]
  simp
theorem extract_ahead (n m : Nat) (hn : n < 18446744073709551616) (hm : m < 18446744073709551616) : (((⟨(encU m).toArray⟩ : ByteArray).extract 0 (sizeU n)).toList == encU n) = ((n : Int) == (m : Int)) := by
  rw [extract_str, ← encU_length n, enc_ahead n m hn hm]
  by_cases h : n = m
  · subst h; simp
  · have : ¬ (n : Int) = m := by omega
    rw [decide_eq_false h, beq_eq_false_iff_ne.2 this]
set_option maxRecDepth 100000 in
set_option maxHeartbeats 8000000 in
theorem prefixOne_in (A : Option Addr) (c : Nat) (l : List UInt8) (n m : Nat) (w : World) (h : Bs w w.heap.size A l) (hc : l.length ≤ c) (hc2 : c ≤ 140737488351232) (hn : n < 18446744073709551616) (hm : m < 18446744073709551616) (hl : ¬ l.length > 1000) :
    Calls Try.prog 11 #[.slice A l.length c, .int .u64 n, .int .u64 m] w fun e w' => e = .returned (.bool true) ∧ Below w.heap.size w w' := by
  have hb' : decide ((l.length : Int) > 1000) = false := decide_eq_false (by omega)
  have H := Lib.hid h
  have HNM := Lib.hid (And.intro hn hm)
  have HL := Lib.hid (show l.length ≤ 140737488355328 ∧ l.length ≤ 4611686018427387904 by omega)
  have HC := Lib.hid hc
  clear h hn hm hl hc hc2
  go_enter Try.func11, Try.ntmps11
  go_upto_region 5 with (first | ((go_at_call 50); (with_reducible refine (lives2_any _).mono ?_); rintro e w1 ⟨rfl, b1⟩; have HB1 := Lib.hid b1; clear b1) | ((go_at_call 51); (with_reducible refine (read_any A l.length c l rfl _ (bs_at H.out HB1.out) HL.out.1).mono ?_); rintro e w2 ⟨⟨P, rfl, r2, z2⟩, b2⟩; have R2 := Lib.hid r2; have HB2 := Lib.hid (b_next HB1.out b2); have Z2 := Lib.hid (Nat.le_trans HB1.out.size z2); clear r2 z2 b2) | ((go_at_call 52); (with_reducible refine (uint_any P l 0 _ R2.out HL.out.2).mono ?_); rintro e w3 ⟨rfl, r3, o3⟩; simp only [List.drop_zero, Nat.zero_add] at r3 ⊢; have R3 := Lib.hid r3; have HB3 := Lib.hid (HB2.out.trans (o3.below Z2.out HB2.out.size)); clear r3 o3))
  go_cut [41] (fun s41 W => s41 = .bool false ∧ Hid (Below w.heap.size w W))
  case first =>
    cases hd : decU l with
    | ok N k =>
      have hu : uintN l = N := by unfold uintN; rw [hd]
      have hk : uintK l = k := by unfold uintK; rw [hd]
      have he : uintE 0 l = .nil := by unfold uintE; rw [hd]
      obtain ⟨e1, e2, e3, e4, e5⟩ := enc_dec hd
      rw [hk, he] at R3
      subst hu
      have HN := Lib.hid e2
      have hbk : Bs w3 w3.heap.size A (encU (uintN l)) := by rw [← e1]; exact (bs_at H.out HB3.out).take k
      have hlen : k = (encU (uintN l)).length := by rw [encU_length]; exact e3
      have HBK := Lib.hid hbk
      have hcv0 := conv_below Try.prog 40 9 5 Try.underlying40 Try.underlying5 Try.underlying9 A k c (encU (uintN l)) hlen hbk
      have hcv1 := fun (A' : Option Addr) (c' : Nat) => conv_holds Try.prog 40 9 5 Try.underlying40 Try.underlying5 Try.underlying9 A' (encU (uintN l)).length c' (encU (uintN l)) rfl
      have hll := HL.out.2
      have hi1 : IntKind.i64.wrap ((l.length : Int) - ((l.length : Int) - k)) = (k : Int) := by rw [i64_w, w64 (by omega) (by omega)]; omega
      have hk0 : (0 : Int) ≤ k := by omega
      have hkc : (k : Int) ≤ c := by have := HC.out; omega
      clear hd hk he e1 e2 e3 hbk hlen hll
      have hnil := fun w => eql_nil_nil (P := Try.prog) w (ti := 56) Try.underlying56
      have hdr : ∀ W n, Below w3.heap.size w3 W → Below w3.heap.size w3 (W.drewN n) := fun W n h => below_dn h n
      have hd1 : ∀ W, Below w3.heap.size w3 W → Below w3.heap.size w3 W.drew := fun W h => h.drew
      have hB3 := Below.refl w3.heap.size w3
      go_region_with (first | ((go_at_call 53); (with_reducible refine (err_ok P l k _ (R3.out.only (by (repeat' (first | (with_reducible exact Below.refl _ _) | (with_reducible assumption) | (with_reducible refine Below.setCell ?_ ?_ _) | (with_reducible refine Below.alloc ?_ ?_ _) | (with_reducible refine below_dn ?_ _) | (with_reducible refine below_call ?_ ?_ (by assumption)) | (with_reducible refine Below.drew ?_) | go_size))))).mono ?_); rintro e w' ⟨rfl, rfl⟩) | ((go_at_call 55); (with_reducible refine (left_any P l k .nil _ (R3.out.only (by (repeat' (first | (with_reducible exact Below.refl _ _) | (with_reducible assumption) | (with_reducible refine Below.setCell ?_ ?_ _) | (with_reducible refine Below.alloc ?_ ?_ _) | (with_reducible refine below_dn ?_ _) | (with_reducible refine below_call ?_ ?_ (by assumption)) | (with_reducible refine Below.drew ?_) | go_size)))) HL.out.2).mono ?_); rintro e w' ⟨rfl, q, rfl⟩; (try have hh5 := hh4.drewN q)) | ((go_at_call 54); (with_reducible refine (put1 (uintN l) HN.out _ _ (by first | exact cellAd _ _ _ | exact cellBd _ _ _ _ | exact cellCd _ _ _ _ | exact cellA _ _ _ | exact cellB _ _ _ _ | exact cellC _ _ _ _)).mono ?_); rintro e w4 ⟨A4, c4, rfl, s4, _, _, b4⟩; have hh4 : Holds w4 A4 (encU (uintN l)) := s4; have hbw : Below w3.heap.size w3 w4 := b_next (by (repeat' (first | (with_reducible exact Below.refl _ _) | (with_reducible assumption) | (with_reducible refine Below.setCell ?_ ?_ _) | (with_reducible refine Below.alloc ?_ ?_ _) | (with_reducible refine below_dn ?_ _) | (with_reducible refine below_call ?_ ?_ (by assumption)) | (with_reducible refine Below.drew ?_) | go_size))) b4))
      all_goals (go_wp2_with fail; go_meet)
      all_goals exact ⟨rfl, Lib.hid (b_next HB3.out (by (repeat' (first | (with_reducible exact Below.refl _ _) | (with_reducible assumption) | (with_reducible refine Below.setCell ?_ ?_ _) | (with_reducible refine Below.alloc ?_ ?_ _) | (with_reducible refine below_dn ?_ _) | (with_reducible refine below_call ?_ ?_ (by assumption)) | (with_reducible refine Below.drew ?_) | go_size))))⟩
    | cut =>
      have he : nilB (uintE 0 l) = false := by unfold uintE; rw [hd]; rfl
      obtain ⟨t1, a1, hc1⟩ := R3.out.err he
      have HC1 := Lib.hid hc1
      clear hd he hc1
      have hbad := fun w => eql_iface_nil (P := Try.prog) w (ti := 56) (ta := t1) a1 Try.underlying56
      go_quiet ((go_at_call 53; exact quiet_mine (err_cell P t1 a1 _ HC1.out)))
      go_wp2_with fail
      go_meet
      exact ⟨rfl, Lib.hid (b_next HB3.out (by (repeat' (first | (with_reducible exact Below.refl _ _) | (with_reducible assumption) | (with_reducible refine Below.setCell ?_ ?_ _) | (with_reducible refine Below.alloc ?_ ?_ _) | (with_reducible refine below_dn ?_ _) | (with_reducible refine below_call ?_ ?_ (by assumption)) | (with_reducible refine Below.drew ?_) | go_size))))⟩
    | form =>
      have he : nilB (uintE 0 l) = false := by unfold uintE; rw [hd]; rfl
      obtain ⟨t1, a1, hc1⟩ := R3.out.err he
      have HC1 := Lib.hid hc1
      clear hd he hc1
      have hbad := fun w => eql_iface_nil (P := Try.prog) w (ti := 56) (ta := t1) a1 Try.underlying56
      go_quiet ((go_at_call 53; exact quiet_mine (err_cell P t1 a1 _ HC1.out)))
      go_wp2_with fail
      go_meet
      exact ⟨rfl, Lib.hid (b_next HB3.out (by (repeat' (first | (with_reducible exact Below.refl _ _) | (with_reducible assumption) | (with_reducible refine Below.setCell ?_ ?_ _) | (with_reducible refine Below.alloc ?_ ?_ _) | (with_reducible refine below_dn ?_ _) | (with_reducible refine below_call ?_ ?_ (by assumption)) | (with_reducible refine Below.drew ?_) | go_size))))⟩
  case rest =>
    obtain ⟨rfl, HB4⟩ := hcut
    clear R3 HB3 R2 HB2 HB1
    go_upto_region 7 with fail
    go_cut [9, 10] (fun s9 s10 W => s9 = .string ⟨(encU n).toArray⟩ ∧ s10 = .string ⟨(encU m).toArray⟩ ∧ Hid (Below w.heap.size w W))
    case first =>
      have hcv1 := fun (A' : Option Addr) (c' : Nat) => conv_holds Try.prog 40 9 5 Try.underlying40 Try.underlying5 Try.underlying9 A' (encU n).length c' (encU n) rfl
      have hcv2 := fun (A' : Option Addr) (c' : Nat) => conv_holds Try.prog 40 9 5 Try.underlying40 Try.underlying5 Try.underlying9 A' (encU m).length c' (encU m) rfl
      have hal : ∀ W O A l, Holds W A l → Holds (W.alloc O) A l := fun W O A l h => h.alloc O
      go_region_with (first | (have tk_ := hh4; ((go_at_call 54); (with_reducible refine (put1 m HNM.out.2 _ _ (by first | exact cellA _ _ _ | exact cellK b4 (by first | exact cellAd _ _ _ | exact cellBd _ _ _ _ | exact cellCd _ _ _ _ | exact cellA _ _ _ | exact cellB _ _ _ _ | exact cellC _ _ _ _) (by simp only [World.size_drew, World.size_alloc]; omega) | exact cellB _ _ _ _ | exact cellC _ _ _ _)).mono ?_); rintro e w5 ⟨A5, c5, rfl, s5, _, _, b5⟩; have hh5 : Holds w5 A5 (encU m) := s5; have z5 := b5.size; (try simp only [World.size_alloc, World.size_drew] at z5); (try have hh6 := hh4.keep b5); (try have hh7 := (hh4.alloc _).keep b5))) | ((go_at_call 54); (with_reducible refine (put1 n HNM.out.1 _ _ (by first | exact cellAd _ _ _ | exact cellBd _ _ _ _ | exact cellCd _ _ _ _ | exact cellA _ _ _ | exact cellB _ _ _ _ | exact cellC _ _ _ _)).mono ?_); rintro e w4 ⟨A4, c4, rfl, s4, _, _, b4⟩; have hh4 : Holds w4 A4 (encU n) := s4; have z4 := b4.size; (try simp only [World.size_alloc, World.size_drew] at z4)))
      all_goals (go_wp2_with fail; go_meet)
      all_goals exact ⟨rfl, rfl, Lib.hid (b_next HB4.out (by (repeat' (first | (with_reducible exact Below.refl _ _) | (with_reducible assumption) | (with_reducible refine Below.setCell ?_ ?_ _) | (with_reducible refine Below.alloc ?_ ?_ _) | (with_reducible refine below_dn ?_ _) | (with_reducible refine below_call ?_ ?_ (by assumption)) | (with_reducible refine Below.drew ?_) | go_size))))⟩
    case rest =>
      obtain ⟨rfl, rfl, HB5⟩ := hcut
      have h9 : decide ((sizeU n : Int) ≤ 9) = true := decide_eq_true (by have := sizeU_le n; omega)
      have hl1 := encU_length n
      have hl2 := encU_length m
      by_cases hle : sizeU n ≤ sizeU m
      · have hS := extract_ahead n m HNM.out.1 HNM.out.2
        have hle' : decide ((sizeU n : Int) ≤ (sizeU m : Int)) = true := decide_eq_true (by omega)
        clear HB4 H HC HL Z2
        generalize encU n = X at *
        generalize encU m = Y at *
        go_wp2_with fail
        go_ret
        exact ⟨ret_bool (by first | rfl | simp), HB5.out⟩
      · have hnm : ((n : Int) == (m : Int)) = false := by
          rw [beq_eq_false_iff_ne]
          intro e
          have : n = m := by omega
          subst this
          exact hle (Nat.le_refl _)
        have hle' : decide ((sizeU n : Int) ≤ (sizeU m : Int)) = false := decide_eq_false (by omega)
        clear HB4 H HC HL Z2
        generalize encU n = X at *
        generalize encU m = Y at *
        go_wp2_with fail
        go_ret
        exact ⟨ret_bool (by first | rfl | simp), HB5.out⟩

theorem prefixOne_out (A : Option Addr) (c : Nat) (l : List UInt8) (n m : Int) (w : World) (hl : l.length > 1000) :
    Calls Try.prog 11 #[.slice A l.length c, .int .u64 n, .int .u64 m] w fun e w' => e = .returned (.bool true) ∧ Below w.heap.size w w' := by
  have hb' : decide ((l.length : Int) > 1000) = true := decide_eq_true (by omega)
  have HB := Lib.hid (Below.refl w.heap.size w)
  clear hl
  go_enter Try.func11, Try.ntmps11
  go_wp2_with ((go_at_call 50); (with_reducible refine (lives2_any _).mono ?_); rintro e w1 ⟨rfl, b1⟩; have HB := Lib.hid (b_next HB.out b1); clear b1)
  go_ret
  exact ⟨rfl, HB.out⟩
theorem u64_nat {n : Int} (h : (Lit.int .u64 n).wf = true) : ∃ k : Nat, n = k ∧ k < 18446744073709551616 := by
  have e1 : IntKind.u64.min = 0 := rfl
  have e2 : IntKind.u64.max = 18446744073709551615 := rfl
  simp only [Lit.wf, Bool.and_eq_true, decide_eq_true_eq] at h
  exact ⟨n.toNat, by omega, by omega⟩
theorem prefixOne_walk (A : Option Addr) (c : Nat) (l : List UInt8) (n m : Int) {w : World} (h : Bs w w.heap.size A l) (hc : l.length ≤ c) (hc2 : c ≤ 140737488351232) (hn : (Lit.int .u64 n).wf = true) (hm : (Lit.int .u64 m).wf = true) :
    Calls Try.prog 11 #[.slice A l.length c, .int .u64 n, .int .u64 m] w fun e w' => e = .returned (.bool true) ∧ Below w.heap.size w w' := by
  obtain ⟨n, rfl, hn2⟩ := u64_nat hn
  obtain ⟨m, rfl, hm2⟩ := u64_nat hm
  by_cases hl : l.length > 1000
  · exact prefixOne_out A c l n m w hl
  · exact prefixOne_in A c l n m w h hc hc2 hn2 hm2 hl
end Go.Proofs.Ytmleopbelmibcaa

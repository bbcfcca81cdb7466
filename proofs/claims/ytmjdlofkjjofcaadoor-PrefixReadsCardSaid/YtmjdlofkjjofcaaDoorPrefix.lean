/- Contracts of package prefix: numbers put behind bytes. -/
import Derived.Test.YtmjdlofkjjofcaaDoorProg
import Derived.Test.YtmjdlofkjjofcaaDoorKit
import Derived.Test.YtmjdlofkjjofcaaDoorKitb
import Derived.Test.YtmjdlofkjjofcaaDoorBytes
import Derived.Test.YtmjdlofkjjofcaaDoorInts
import Derived.Test.YtmjdlofkjjofcaaDoorApp
import Derived.Test.YtmjdlofkjjofcaaDoorAppS
import Derived.Test.YtmjdlofkjjofcaaDoorSlices
import Derived.Test.YtmjdlofkjjofcaaDoorShelf
import Derived.Test.YtmjdlofkjjofcaaDoorPrefixV
import Derived.Laws.BitsAllLaws
import Derived.Deep.QuietTactic
import Derived.BigQuiet
import Derived.Deep.RegionHeld3
import Derived.Deep.DeepCutAuto
namespace Go.Proofs.YtmjdlofkjjofcaaDoor
open Go.RowKit
set_option linter.unusedVariables false
set_option linter.unusedSimpArgs false
attribute [local go_sem] max2_int min2_int max_two min_two

theorem wl0 : IntKind.i64.wrap 0 = 0 := by decide
theorem wl1 : IntKind.i64.wrap 1 = 1 := by decide
theorem wl2 : IntKind.i64.wrap 2 = 2 := by decide
theorem wl3 : IntKind.i64.wrap 3 = 3 := by decide
theorem wl4 : IntKind.i64.wrap 4 = 4 := by decide
theorem wl5 : IntKind.i64.wrap 5 = 5 := by decide
theorem wl6 : IntKind.i64.wrap 6 = 6 := by decide
theorem wl7 : IntKind.i64.wrap 7 = 7 := by decide
theorem wl8 : IntKind.i64.wrap 8 = 8 := by decide
theorem wl16 : IntKind.i64.wrap 16 = 16 := by decide
theorem wl24 : IntKind.i64.wrap 24 = 24 := by decide
theorem wl32 : IntKind.i64.wrap 32 = 32 := by decide
theorem wl40 : IntKind.i64.wrap 40 = 40 := by decide
theorem wl48 : IntKind.i64.wrap 48 = 48 := by decide
theorem wl56 : IntKind.i64.wrap 56 = 56 := by decide
attribute [local go_sem] wl0 wl1 wl2 wl3 wl4 wl5 wl6 wl7 wl8 wl16 wl24 wl32 wl40 wl48 wl56
theorem len64_any (n : Nat) (hn : n < 18446744073709551616) (w : World) :
    Calls Tryd.prog 85 #[.int .u64 n] w fun e w' => e = .returned (.int .i64 (Lib.bitLen n)) ∧ w = w' :=
  (Tryd.bits_Len64 n w (by omega) (by omega)).mono fun e w' h => ⟨h.1, h.2.symm⟩
theorem sizeI_eq (n : Nat) (hn : n < 18446744073709551616) : minI (maxI (((Lib.bitLen n : Int) + 6) / 7) 1) 9 = (sizeU n : Int) := by
  rw [sizeU_eq n hn, minI_eq, maxI_eq]
  omega
theorem size_any (n : Nat) (hn : n < 18446744073709551616) (w : World) :
    Calls Tryd.prog 56 #[.int .u64 n] w fun e w' => e = .returned (.int .i64 (sizeU n)) ∧ w = w' := by
  have HS := Lib.hid (sizeI_eq n hn)
  have hb : Lib.bitLen n ≤ 64 := Lib.bitLen_le n 64 (by omega) (by omega)
  have HN := Lib.hid hn
  clear hn
  go_enter Tryd.func56, Tryd.ntmps56
  go_wp2_with ((go_at_call 85); (with_reducible refine (len64_any n HN.out _).mono ?_); rintro e w' ⟨rfl, rfl⟩; generalize Lib.bitLen n = b at *)
  go_ret
  exact ⟨ret_int HS.out, rfl⟩

theorem be_get (J N : Nat) : ∀ i, i < J → (be J N)[i]? = some (UInt8.ofNat (N / 256 ^ (J - 1 - i))) := by
  induction J with
  | zero => intro i hi; omega
  | succ J ih =>
    intro i hi
    cases i with
    | zero => simp [be]
    | succ i =>
      rw [be, List.getElem?_cons_succ, ih i (by omega)]
      congr 4
      omega
theorem be_step (J N r : Nat) (hr : r < J) : (be J N).take (J - r) = (be J N).take (J - (r + 1)) ++ [UInt8.ofNat (N / 256 ^ r)] := by
  have h := be_get J N (J - (r + 1)) (by omega)
  rw [show J - r = J - (r + 1) + 1 by omega, List.take_add_one, h, show J - 1 - (J - (r + 1)) = r by omega]
  rfl
theorem enc_step (l : List UInt8) (ns : List Int) (j : Nat) (hj : j < ns.length) : l ++ (ns.take (j + 1)).flatMap (fun x => encU x.toNat) = (l ++ (ns.take j).flatMap fun x => encU x.toNat) ++ encU (ns.getD j 0).toNat := by
  rw [List.take_add_one, List.getElem?_eq_getElem hj, List.getD_eq_getElem?_getD, List.getElem?_eq_getElem hj, Option.toList_some, List.flatMap_append, List.append_assoc]
  simp only [List.flatMap_cons, List.flatMap_nil, List.append_nil, Option.getD_some]
theorem enc_len (ns : List Int) (j : Nat) : ((ns.take j).flatMap fun x => encU x.toNat).length ≤ 9 * ns.length := by
  have : ∀ l : List Int, (l.flatMap fun x => encU x.toNat).length ≤ 9 * l.length := by
    intro l
    induction l with
    | nil => simp
    | cons a l ih =>
      rw [List.flatMap_cons, List.length_append, List.length_cons, encU_length]
      have := sizeU_le a.toNat
      omega
  have h := this (ns.take j)
  have h2 : (ns.take j).length ≤ ns.length := by rw [List.length_take]; omega
  omega
theorem or_add (m i b : Nat) (h : b < 2 ^ i) : m * 2 ^ i ||| b = m * 2 ^ i + b := by
  rw [← Nat.shiftLeft_eq, ← Nat.shiftLeft_add_eq_or_of_lt h]
theorem u8w (x : Int) : IntKind.u8.wrap x = x % 256 := by first | rfl | simp [IntKind.wrap]
theorem be_byte (N r : Nat) : (N : Int) / 2 ^ (8 * r) % 256 = ((UInt8.ofNat (N / 256 ^ r)).toNat : Int) := by
  have e : (2 : Nat) ^ (8 * r) = 256 ^ r := by rw [Nat.pow_mul]
  have h1 : ((N / 256 ^ r : Nat) : Int) = (N : Int) / 2 ^ (8 * r) := by rw [← e]; simp
  rw [← h1]
  simp
set_option maxRecDepth 20000 in
theorem head_or (k N : Nat) (a b : Int) (hk : 1 ≤ k) (hk8 : k ≤ 8) (hs : sizeU N = k) (hN : N < 18446744073709551616) (ha : a = 255 * 2 ^ (9 - k)) (hb : b = (N : Int) / 256 ^ (k - 1)) :
    bits BinOp.or IntKind.u8 (IntKind.u8.wrap a) (IntKind.u8.wrap b) = ((headU k N).toNat : Int) := by
  have hlt : N < 2 ^ (7 * k) := by
    rcases size_lt N hN with h | h
    · omega
    · rw [hs] at h; exact h
  have e := headU_toNat k N hk hk8 hlt
  have hb' : b = ((N / 256 ^ (k - 1) : Nat) : Int) := by rw [hb]; simp
  rw [e, u8w, u8w, hb']
  clear hb hb' e hs
  subst ha
  have : k = 1 ∨ k = 2 ∨ k = 3 ∨ k = 4 ∨ k = 5 ∨ k = 6 ∨ k = 7 ∨ k = 8 := by omega
  have key : ∀ m i q : Nat, m * 2 ^ i < 256 → q < 2 ^ i → i ≤ 8 → bits BinOp.or IntKind.u8 ((m * 2 ^ i : Nat) : Int) ((q : Int) % 256) = ((m * 2 ^ i + q : Nat) : Int) := by
    intro m i q h1 h2 h3
    have h4 : 2 ^ i ≤ 2 ^ 8 := Nat.pow_le_pow_right (by omega) h3
    have h5 : (q : Int) % 256 = (q : Nat) := by omega
    rw [h5, u8_or_nat _ _ h1 (by omega), or_add _ _ _ h2]
  rcases this with rfl | rfl | rfl | rfl | rfl | rfl | rfl | rfl <;> simp only [Nat.reduceMul, Nat.reducePow, Nat.reduceSub] at *
  · exact key 0 8 (N / 1) (by omega) (by omega) (by omega)
  · exact key 1 7 (N / 256) (by omega) (by omega) (by omega)
  · exact key 3 6 (N / 65536) (by omega) (by omega) (by omega)
  · exact key 7 5 (N / 16777216) (by omega) (by omega) (by omega)
  · exact key 15 4 (N / 4294967296) (by omega) (by omega) (by omega)
  · exact key 31 3 (N / 1099511627776) (by omega) (by omega) (by omega)
  · exact key 63 2 (N / 281474976710656) (by omega) (by omega) (by omega)
  · exact key 127 1 (N / 72057594037927936) (by omega) (by omega) (by omega)

set_option maxHeartbeats 2000000 in
set_option maxRecDepth 20000 in
theorem put_s (A A2 : Option Addr) (n c m c2 : Nat) (l : List UInt8) (ns : List Int) (hn : n = l.length) (hm : m = ns.length) (w : World) (h : Bs w w.heap.size A l) (h2 : Is .u64 w w.heap.size A2 ns) (hns : ∀ x ∈ ns, 0 ≤ x ∧ x < 18446744073709551616)
    (hc : n ≤ c ∧ c ≤ 9223372036854775807) (hl : l.length + 9 * ns.length ≤ 140737488000000) :
    Calls Tryd.prog 50 #[.slice A n c, .slice A2 m c2] w (fun e w' => ∃ A' c', e = .returned (.slice A' (l ++ ns.flatMap fun x => encU x.toNat).length c') ∧ AppS w' w.heap.size 5 A' (l ++ ns.flatMap fun x => encU x.toNat).length c' (l ++ ns.flatMap fun x => encU x.toNat) ∧ Below w.heap.size w w') := by
  subst hn hm
  have H := Lib.hid h
  have H2 := Lib.hid h2
  have HN := Lib.hid hns
  have HC := Lib.hid hc
  have HL := Lib.hid hl
  clear h h2 hns hc hl
  go_enter Tryd.func50, Tryd.ntmps50
  go_wp2_with ((go_at_call 83); (with_reducible refine (clip_any A l.length c _ HC.out.1 HC.out.2).mono ?_); rintro e w' ⟨rfl, rfl⟩)
  go_loopw [0, 13] (fun v0 v13 wr => ∃ (j : Nat) (A' : Option Addr) (n' c' : Nat), j ≤ ns.length ∧ v0 = .slice A' n' c' ∧ v13 = .int .i64 j ∧ Hid (AppS wr w.heap.size 5 A' n' c' (l ++ (ns.take j).flatMap fun x => encU x.toNat)) ∧ Hid (Below w.heap.size w wr)) (fun _ v13 _ => ns.length - (intOf v13).toNat)
  case atStart => exact ⟨0, A, l.length, l.length, Nat.zero_le _, rfl, rfl, Lib.hid (by simpa using AppS.full H.out), Lib.hid (Below.refl _ _)⟩
  case round =>
    obtain ⟨j, A', n', c', hj, rfl, rfl, hS, hB⟩ := hrel
    by_cases hlt : j < ns.length
    · have H2' := (H2.out.below hB.out)
      obtain ⟨b, o, rfl, cx⟩ := H2'.at_ hlt
      have hstep := Lib.hid (enc_step l ns j hlt)
      have hlen := Lib.hid (enc_len ns j)
      obtain ⟨N, hN, hNb⟩ : ∃ N : Nat, ns.getD j 0 = N ∧ N < 18446744073709551616 := by
        have := HN.out (ns.getD j 0) (by rw [List.getD_eq_getElem?_getD, List.getElem?_eq_getElem hlt]; exact List.getElem_mem hlt)
        exact ⟨(ns.getD j 0).toNat, by omega, by omega⟩
      rw [hN] at cx
      have HNB := Lib.hid hNb
      have HNE := Lib.hid hN
      clear hN hNb H2'
      generalize hpre : (l ++ (ns.take j).flatMap fun x => encU x.toNat) = pre at *
      have hk := sizeU_le N
      obtain ⟨k, hke⟩ : ∃ k, sizeU N = k := ⟨_, rfl⟩
      have HK := Lib.hid hke
      rw [hke] at hk
      clear hke
      have hpl : pre.length ≤ 140737488355000 := by
        have h1 := HL.out
        have h2 := hlen.out
        rw [← hpre, List.length_append]
        omega
      have hz := hB.out.size
      have HPL := Lib.hid hpl
      clear hlen hpl
      go_upto_if 20 with (first | ((go_at_call 56); (with_reducible refine (size_any N HNB.out _).mono ?_); rintro e w' ⟨rfl, rfl⟩; rw [HK.out]))
      go_cut [0] (fun s0 W => ∃ (A1 : Option Addr) (n1 c1 : Nat), s0 = .slice A1 n1 c1 ∧ Hid (AppS W w.heap.size 5 A1 n1 c1 (pre ++ [headU k N])) ∧ Hid (Below w.heap.size w W))
      case first =>
        by_cases h9 : k = 9
        · have hhd := Lib.hid (show headU k N = 255 by rw [h9]; rfl)
          subst h9
          go_wp2_with (first | ((with_reducible refine at_dst (N := 23) rfl ?_); go_loud (refine app_s rfl (.tmp 21) (.tmp 22) 22 rfl rfl (by kernel_rfl) (l := [255]) (pre) (pre ++ [255]) rfl (hS.out.keep ((Below.refl _ _).alloc (Nat.le_refl _) _) hz) rfl rfl (Bs.one _ 255 _) (by simp) rfl ?a23 ?b23 ?_); (case a23 => (have hpl_ := HPL.out; (try simp) <;> omega)); (case b23 => ((try simp) <;> omega)); intro A1 c1 w1 r1 b1))
          go_meet
          exact ⟨A1, _, c1, rfl, Lib.hid (by rw [hhd.out]; exact AppS.row (by simpa using r1) (by simp)), Lib.hid (hB.out.trans (((Below.refl _ _).alloc hz _).trans b1))⟩
        · have : k = 1 ∨ k = 2 ∨ k = 3 ∨ k = 4 ∨ k = 5 ∨ k = 6 ∨ k = 7 ∨ k = 8 := by omega
          rcases this with rfl | rfl | rfl | rfl | rfl | rfl | rfl | rfl
          · go_wp2_with fail
            go_region_held3 (fun _ => True) (exact trivial) ((refine app_s_if rfl (.tmp 24) (.tmp 35) 22 rfl rfl (by kernel_rfl) (l := [headU 1 N]) pre (pre ++ [headU 1 N]) rfl (hS.out.keep (((Below.refl _ _).drew).alloc (Nat.le_refl _) _) hz) rfl rfl (Bs.one' _ _ _ _ ?hv1) (by simp) rfl ?ha1 ?hb1 ?_; (case hv1 => exact head_or 1 N _ _ (by omega) (by omega) HK.out HNB.out (by first | rfl | decide) (by first | rfl | (simp; done))); (case ha1 => have := HPL.out; simp; omega); (case hb1 => simp; omega); intro A1 c1 w1 r1 b1))
            go_wp2_with fail
            go_meet
            exact ⟨A1, _, c1, rfl, Lib.hid (AppS.row (by simpa using r1) (by simp)), Lib.hid (hB.out.trans (((Below.refl _ _).drew.alloc hz _).trans b1))⟩
          · go_wp2_with fail
            go_region_held3 (fun _ => True) (exact trivial) ((refine app_s_if rfl (.tmp 24) (.tmp 35) 22 rfl rfl (by kernel_rfl) (l := [headU 2 N]) pre (pre ++ [headU 2 N]) rfl (hS.out.keep (((Below.refl _ _).drew).alloc (Nat.le_refl _) _) hz) rfl rfl (Bs.one' _ _ _ _ ?hv2) (by simp) rfl ?ha2 ?hb2 ?_; (case hv2 => exact head_or 2 N _ _ (by omega) (by omega) HK.out HNB.out (by first | rfl | decide) (by first | rfl | (simp; done))); (case ha2 => have := HPL.out; simp; omega); (case hb2 => simp; omega); intro A1 c1 w1 r1 b1))
            go_wp2_with fail
            go_meet
            exact ⟨A1, _, c1, rfl, Lib.hid (AppS.row (by simpa using r1) (by simp)), Lib.hid (hB.out.trans (((Below.refl _ _).drew.alloc hz _).trans b1))⟩
          · go_wp2_with fail
            go_region_held3 (fun _ => True) (exact trivial) ((refine app_s_if rfl (.tmp 24) (.tmp 35) 22 rfl rfl (by kernel_rfl) (l := [headU 3 N]) pre (pre ++ [headU 3 N]) rfl (hS.out.keep (((Below.refl _ _).drew).alloc (Nat.le_refl _) _) hz) rfl rfl (Bs.one' _ _ _ _ ?hv3) (by simp) rfl ?ha3 ?hb3 ?_; (case hv3 => exact head_or 3 N _ _ (by omega) (by omega) HK.out HNB.out (by first | rfl | decide) (by first | rfl | (simp; done))); (case ha3 => have := HPL.out; simp; omega); (case hb3 => simp; omega); intro A1 c1 w1 r1 b1))
            go_wp2_with fail
            go_meet
            exact ⟨A1, _, c1, rfl, Lib.hid (AppS.row (by simpa using r1) (by simp)), Lib.hid (hB.out.trans (((Below.refl _ _).drew.alloc hz _).trans b1))⟩
          · go_wp2_with fail
            go_region_held3 (fun _ => True) (exact trivial) ((refine app_s_if rfl (.tmp 24) (.tmp 35) 22 rfl rfl (by kernel_rfl) (l := [headU 4 N]) pre (pre ++ [headU 4 N]) rfl (hS.out.keep (((Below.refl _ _).drew).alloc (Nat.le_refl _) _) hz) rfl rfl (Bs.one' _ _ _ _ ?hv4) (by simp) rfl ?ha4 ?hb4 ?_; (case hv4 => exact head_or 4 N _ _ (by omega) (by omega) HK.out HNB.out (by first | rfl | decide) (by first | rfl | (simp; done))); (case ha4 => have := HPL.out; simp; omega); (case hb4 => simp; omega); intro A1 c1 w1 r1 b1))
            go_wp2_with fail
            go_meet
            exact ⟨A1, _, c1, rfl, Lib.hid (AppS.row (by simpa using r1) (by simp)), Lib.hid (hB.out.trans (((Below.refl _ _).drew.alloc hz _).trans b1))⟩
          · go_wp2_with fail
            go_region_held3 (fun _ => True) (exact trivial) ((refine app_s_if rfl (.tmp 24) (.tmp 35) 22 rfl rfl (by kernel_rfl) (l := [headU 5 N]) pre (pre ++ [headU 5 N]) rfl (hS.out.keep (((Below.refl _ _).drew).alloc (Nat.le_refl _) _) hz) rfl rfl (Bs.one' _ _ _ _ ?hv5) (by simp) rfl ?ha5 ?hb5 ?_; (case hv5 => exact head_or 5 N _ _ (by omega) (by omega) HK.out HNB.out (by first | rfl | decide) (by first | rfl | (simp; done))); (case ha5 => have := HPL.out; simp; omega); (case hb5 => simp; omega); intro A1 c1 w1 r1 b1))
            go_wp2_with fail
            go_meet
            exact ⟨A1, _, c1, rfl, Lib.hid (AppS.row (by simpa using r1) (by simp)), Lib.hid (hB.out.trans (((Below.refl _ _).drew.alloc hz _).trans b1))⟩
          · go_wp2_with fail
            go_region_held3 (fun _ => True) (exact trivial) ((refine app_s_if rfl (.tmp 24) (.tmp 35) 22 rfl rfl (by kernel_rfl) (l := [headU 6 N]) pre (pre ++ [headU 6 N]) rfl (hS.out.keep (((Below.refl _ _).drew).alloc (Nat.le_refl _) _) hz) rfl rfl (Bs.one' _ _ _ _ ?hv6) (by simp) rfl ?ha6 ?hb6 ?_; (case hv6 => exact head_or 6 N _ _ (by omega) (by omega) HK.out HNB.out (by first | rfl | decide) (by first | rfl | (simp; done))); (case ha6 => have := HPL.out; simp; omega); (case hb6 => simp; omega); intro A1 c1 w1 r1 b1))
            go_wp2_with fail
            go_meet
            exact ⟨A1, _, c1, rfl, Lib.hid (AppS.row (by simpa using r1) (by simp)), Lib.hid (hB.out.trans (((Below.refl _ _).drew.alloc hz _).trans b1))⟩
          · go_wp2_with fail
            go_region_held3 (fun _ => True) (exact trivial) ((refine app_s_if rfl (.tmp 24) (.tmp 35) 22 rfl rfl (by kernel_rfl) (l := [headU 7 N]) pre (pre ++ [headU 7 N]) rfl (hS.out.keep (((Below.refl _ _).drew).alloc (Nat.le_refl _) _) hz) rfl rfl (Bs.one' _ _ _ _ ?hv7) (by simp) rfl ?ha7 ?hb7 ?_; (case hv7 => exact head_or 7 N _ _ (by omega) (by omega) HK.out HNB.out (by first | rfl | decide) (by first | rfl | (simp; done))); (case ha7 => have := HPL.out; simp; omega); (case hb7 => simp; omega); intro A1 c1 w1 r1 b1))
            go_wp2_with fail
            go_meet
            exact ⟨A1, _, c1, rfl, Lib.hid (AppS.row (by simpa using r1) (by simp)), Lib.hid (hB.out.trans (((Below.refl _ _).drew.alloc hz _).trans b1))⟩
          · go_wp2_with fail
            go_region_held3 (fun _ => True) (exact trivial) ((refine app_s_if rfl (.tmp 24) (.tmp 35) 22 rfl rfl (by kernel_rfl) (l := [headU 8 N]) pre (pre ++ [headU 8 N]) rfl (hS.out.keep (((Below.refl _ _).drew).alloc (Nat.le_refl _) _) hz) rfl rfl (Bs.one' _ _ _ _ ?hv8) (by simp) rfl ?ha8 ?hb8 ?_; (case hv8 => exact head_or 8 N _ _ (by omega) (by omega) HK.out HNB.out (by first | rfl | decide) (by first | rfl | (simp; done))); (case ha8 => have := HPL.out; simp; omega); (case hb8 => simp; omega); intro A1 c1 w1 r1 b1))
            go_wp2_with fail
            go_meet
            exact ⟨A1, _, c1, rfl, Lib.hid (AppS.row (by simpa using r1) (by simp)), Lib.hid (hB.out.trans (((Below.refl _ _).drew.alloc hz _).trans b1))⟩
      case rest =>
        obtain ⟨A1, n1, c1, rfl, hS1, hB1⟩ := hcut
        have hz1 := hB1.out.size
        have HE := Lib.hid (show l ++ (ns.take (j + 1)).flatMap (fun x => encU x.toNat) = pre ++ headU k N :: be (k - 1) N by
          rw [hstep.out, HNE.out]
          show pre ++ encU N = _
          unfold encU
          rw [HK.out])
        clear hS hB hz hstep HNE cx hpre
        have hk2 : wrap64 ((k : Int) - 2) = (k : Int) - 2 := w64 (by omega) (by omega)
        go_wp2_with fail
        go_loopw [0, 8] (fun v0 v8 wq => ∃ (r : Nat) (A2 : Option Addr) (n2 c2 : Nat), r ≤ k - 1 ∧ v8 = .int .i64 ((r : Int) - 1) ∧ v0 = .slice A2 n2 c2 ∧ Hid (AppS wq w.heap.size 5 A2 n2 c2 (pre ++ headU k N :: (be (k - 1) N).take (k - 1 - r))) ∧ Hid (Below w.heap.size w wq)) (fun _ v8 _ => (intOf v8 + 1).toNat)
        case atStart => exact ⟨k - 1, A1, n1, c1, by omega, by rw [show ((k - 1 : Nat) : Int) - 1 = (k : Int) - 2 by omega], rfl, by simpa using hS1, hB1⟩
        case round =>
          obtain ⟨r, A2, n2, c2, hr, rfl, rfl, hS2, hB2⟩ := hrel
          cases r with
          | zero =>
            have hw := w64 (n := (j : Int) + 1) (by omega) (by have := HL.out; omega)
            go_wp2_with fail
            rw [hw]
            exact ⟨⟨j + 1, A2, n2, c2, by omega, rfl, rfl, Lib.hid (by rw [HE.out]; have := hS2.out; rw [Nat.sub_zero, List.take_of_length_le (by rw [be_length]; exact Nat.le_refl _)] at this; exact this), hB2⟩, cnt_m hlt⟩
          | succ r =>
            have e1 : ((r + 1 : Nat) : Int) - 1 = r := by omega
            rw [e1]
            clear e1
            have hz2 := hB2.out.size
            have hby := Lib.hid (be_step (k - 1) N r (by omega))
            have hr8 : wrap64 (8 * (r : Int)) = 8 * r := w64 (by omega) (by omega)
            have hr9 : (0 : Int) ≤ r := by omega
            have hbt : (pre ++ headU k N :: (be (k - 1) N).take (k - 1 - (r + 1))) ++ [UInt8.ofNat (N / 256 ^ r)] = pre ++ headU k N :: (be (k - 1) N).take (k - 1 - r) := by
              rw [hby.out, List.append_assoc, List.cons_append]
            have hbl : (pre ++ headU k N :: (be (k - 1) N).take (k - 1 - r)).length ≤ 140737488355328 := by
              have := HPL.out
              rw [List.length_append, List.length_cons, List.length_take]
              omega
            have HBT := Lib.hid hbt
            have HBL := Lib.hid hbl
            clear hby hbt hbl
            go_wp2_with ((with_reducible refine at_dst (N := 50) rfl ?_); refine app_s rfl (.tmp 43) (.tmp 49) 22 rfl rfl (by kernel_rfl) (l := [UInt8.ofNat (N / 256 ^ r)]) _ _ rfl (hS2.out.keep ((Below.refl _ _).alloc (Nat.le_refl _) _) hz2) rfl rfl (Bs.one' _ _ _ _ (be_byte N r)) (by simp) HBT.out.symm HBL.out ?b50 ?_; (case b50 => ((try simp) <;> omega)); intro A3 c3 w3 r3 b3)
            exact ⟨⟨r, A3, _, c3, by omega, rfl, rfl, Lib.hid (AppS.row (by simpa using r3) (by simp)), Lib.hid (hB2.out.trans (((Below.refl _ _).alloc hz2 _).trans b3))⟩, by simp only [intOf]; omega⟩
    · have hj2 : j = ns.length := by omega
      subst hj2
      rw [List.take_length] at hS
      have hz := hB.out.size
      go_wp2_with fail
      go_ret
      obtain ⟨q1, q2⟩ := hS.out
      subst q1
      exact ⟨A', c', rfl, ⟨rfl, q2⟩, hB.out⟩
theorem put_any (A A2 : Option Addr) (n c m c2 : Nat) (l : List UInt8) (ns : List Int) (hn : n = l.length) (hm : m = ns.length) (w : World) (h : Bs w w.heap.size A l) (h2 : Is .u64 w w.heap.size A2 ns) (hns : ∀ x ∈ ns, 0 ≤ x ∧ x < 18446744073709551616)
    (hc : n ≤ c ∧ c ≤ 9223372036854775807) (hl : l.length + 9 * ns.length ≤ 140737488000000) :
    Calls Tryd.prog 50 #[.slice A n c, .slice A2 m c2] w (RetBs w (l ++ ns.flatMap fun x => encU x.toNat)) := by
  subst hn hm
  refine (put_s A A2 _ c _ c2 l ns rfl rfl w h h2 hns hc hl).mono ?_
  rintro e w' ⟨A', c', rfl, hS, hB⟩
  have hlen := enc_len ns ns.length
  rw [List.take_length] at hlen
  have hcap := hS.cap (by rw [List.length_append]; omega)
  exact ⟨A', c', rfl, hS.bs hB.size, hcap.1, hcap.2, hB⟩
end Go.Proofs.YtmjdlofkjjofcaaDoor

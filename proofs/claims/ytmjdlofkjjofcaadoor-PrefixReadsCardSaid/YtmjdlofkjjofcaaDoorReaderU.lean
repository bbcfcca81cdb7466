/- The reader of numbers: Uint. -/
import Derived.Test.YtmjdlofkjjofcaaDoorProg
import Derived.Test.YtmjdlofkjjofcaaDoorKit
import Derived.Test.YtmjdlofkjjofcaaDoorKitb
import Derived.Test.YtmjdlofkjjofcaaDoorBytes
import Derived.Test.YtmjdlofkjjofcaaDoorOnly
import Derived.Test.YtmjdlofkjjofcaaDoorErr
import Derived.Test.YtmjdlofkjjofcaaDoorFault
import Derived.Test.YtmjdlofkjjofcaaDoorApp
import Derived.Test.YtmjdlofkjjofcaaDoorSlices
import Derived.Test.YtmjdlofkjjofcaaDoorShelf
import Derived.Test.YtmjdlofkjjofcaaDoorPrefixV
import Derived.Test.YtmjdlofkjjofcaaDoorPrefix
import Derived.Test.YtmjdlofkjjofcaaDoorReader
import Derived.Laws.BitsAllLaws
import Derived.Deep.QuietTactic
import Derived.BigQuiet
namespace Go.Proofs.YtmjdlofkjjofcaaDoor
open Go.RowKit
set_option linter.unusedVariables false
set_option linter.unusedSimpArgs false
attribute [local go_sem] max2_int min2_int max_two min_two

def uintE (at_ : Nat) (r : List UInt8) : Er := match decU r with | .ok _ _ => .nil | .cut => .fault byteS at_ (.num 2) | .form => .fault byteS at_ (.num 3)
theorem lz8_any (n : Nat) (hn : n < 256) (w : World) :
    Calls Tryd.prog 54 #[.int .u8 n] w fun e w' => e = .returned (.int .i64 (8 - (Lib.bitLen n : Int))) ∧ w = w' :=
  (Tryd.bits_LeadingZeros8 n w (by omega) (by omega)).mono fun e w' h => ⟨h.1, h.2.symm⟩

theorem uint_err (P : Nat) (l : List UInt8) (at_ : Nat) (er : Er) (w : World) (h : Rd w P l at_ er) (he : nilB er = false) :
    Calls Tryd.prog 10 #[.pointer (some ⟨P, 0, none⟩)] w fun e w' => e = .returned (.int .u64 0) ∧ w = w' := by
  obtain ⟨A, c, v, hp, hb, hev, h4⟩ := h
  rcases hev.val with ⟨rfl, _⟩ | ⟨_, t, a, rfl⟩
  · cases he
  have hv := fun w => neq_iface_nil (P := Tryd.prog) w (ti := 39) (ta := t) a Tryd.underlying39
  have c1 := hp.cell
  clear hp hb h4 hev he
  go_enter Tryd.func10, Tryd.ntmps10
  go_wp2_with fail
  go_ret
  exact ⟨rfl, rfl⟩

/-- What a call on a reader leaves. -/
def UintR (P : Nat) (l : List UInt8) (at_ : Nat) (w : World) (e : Ending) (w' : World) : Prop :=
  e = .returned (.int .u64 (uintN (l.drop at_))) ∧ Rd w' P l (at_ + uintK (l.drop at_)) (uintE at_ (l.drop at_)) ∧ Only P w w'

theorem uint_end (P : Nat) (l : List UInt8) (w : World) (h : Rd w P l l.length .nil) (hl : l.length ≤ 4611686018427387904) :
    Calls Tryd.prog 10 #[.pointer (some ⟨P, 0, none⟩)] w (UintR P l l.length w) := by
  have H := Lib.hid h
  obtain ⟨A, c, v, hp, hb, rfl, h4⟩ := h
  have hv := fun w => neq_nil_nil (P := Tryd.prog) w (ti := 39) Tryd.underlying39
  have c1 := hp.cell
  clear hp hb h4 hl
  go_enter Tryd.func10, Tryd.ntmps10
  go_wp2_with fail
  go_quiet (fail)
  have H1 := Lib.hid (H.out.only (below_dn (Below.refl _ _) nq))
  have HO := Lib.hid ((Only.refl P w).drewN nq)
  clear c1 H
  generalize w.drewN nq = w1 at *
  go_wp2_with ((go_at_call 53); (with_reducible refine (fail_any P l l.length 2 _ H1.out).mono ?_); rintro e w2 ⟨rfl, r2, o2⟩; have R2 := Lib.hid r2; have O2 := Lib.hid o2; clear r2 o2)
  go_ret
  have e : l.drop l.length = [] := by simp
  unfold UintR
  rw [e]
  exact ⟨rfl, R2.out, HO.out.trans O2.out⟩

theorem klenI (c : UInt8) : minI (8 - (Lib.bitLen (255 - c.toNat) : Int) + 1) 9 = (klen c : Int) := by
  have h1 := klen_eq c
  have h2 := klen_le c
  rw [minI_eq]
  omega
theorem not_u8 (c : UInt8) : (255 : Int) - (c.toNat : Int) = ((255 - c.toNat : Nat) : Int) := by
  have := c.toNat_lt
  omega
theorem xor255 (c : UInt8) : bits BinOp.xor IntKind.u8 (if IntKind.u8.signed = true then -1 else IntKind.u8.max) (c.toNat : Int) = ((255 - c.toNat : Nat) : Int) := by
  have h1 : (if IntKind.u8.signed = true then -1 else IntKind.u8.max) = ((255 : Nat) : Int) := by decide
  have h2 := u8_xor_nat 255 c.toNat (by omega) c.toNat_lt
  rw [h1, h2]
  have h3 : ∀ n : Fin 256, 255 ^^^ n.val = 255 - n.val := by decide +kernel
  rw [h3 ⟨c.toNat, c.toNat_lt⟩]
theorem dec_cut {l : List UInt8} {at_ : Nat} (hat : at_ < l.length) (hc : l.length < at_ + klen (l.getD at_ 0)) : decU (l.drop at_) = .cut := by
  rw [List.drop_eq_getElem_cons hat, decU, List.length_drop]
  rw [List.getD_eq_getElem?_getD, List.getElem?_eq_getElem hat] at hc
  simp only [Option.getD_some] at hc
  rw [if_pos (by omega)]
theorem Rd.err {w : World} {P : Nat} {l : List UInt8} {at_ : Nat} {er : Er} (h : Rd w P l at_ er) (he : nilB er = false) : ∃ t a, w.cell? ⟨P, 2, none⟩ = some (.iface t a) := by
  obtain ⟨A, c, v, hp, hb, hev, h4⟩ := h
  rcases hev.val with ⟨rfl, _⟩ | ⟨_, t, a, rfl⟩
  · cases he
  · exact ⟨t, a, by rw [hp.cell]; rfl⟩
theorem Rd.seek {w : World} {P : Nat} {l : List UInt8} {at_ : Nat} {er : Er} (h : Rd w P l at_ er) (n : Nat) (hn : n ≤ l.length) : Rd (w.setCell ⟨P, 1, none⟩ (.int .i64 n)) P l n er ∧ Only P w (w.setCell ⟨P, 1, none⟩ (.int .i64 n)) := by
  obtain ⟨A, c, v, hp, hb, hev, h4⟩ := h
  have ho := (Only.refl P w).setCell 1 (.int .i64 n)
  have hc := rd_cells A l.length c at_ v (by rcases hev.val with ⟨_, h⟩ | ⟨_, t, a, h⟩; exact .inl h; exact .inr ⟨t, a, h⟩)
  refine ⟨⟨A, c, v, ?_, hb.only hp hc.1 ho, EV.only hp hc.2 ho hev, hn, h4.2⟩, ho⟩
  have := hp.set 1 (.int .i64 n)
  simpa using this
theorem Rd.free {w : World} {P : Nat} {l : List UInt8} {at_ : Nat} {er : Er} (h : Rd w P l at_ er) : w.cell? ⟨P, 1, none⟩ = some (.int .i64 at_) ∧ w.frozen? ⟨P, 1, none⟩ = false := by
  obtain ⟨A, c, v, hp, hb, hev, h4⟩ := h
  exact ⟨by rw [hp.cell]; rfl, hp.frozen 1⟩
theorem Rd.noerr {w : World} {P : Nat} {l : List UInt8} {at_ : Nat} (h : Rd w P l at_ .nil) : w.cell? ⟨P, 2, none⟩ = some .nilIface := by
  obtain ⟨A, c, v, hp, hb, rfl, h4⟩ := h
  rw [hp.cell]; rfl
theorem uint_split {l : List UInt8} {at_ k : Nat} {ch : UInt8} (hat : at_ < l.length) (hch : l.getD at_ 0 = ch) (hk : 1 ≤ k) (hc : at_ + k ≤ l.length) :
    ∃ t, (l.drop at_).take k = ch :: t ∧ t.length = k - 1 ∧ (klen ch = k → decU (l.drop at_) = if sizeU (beVal (valU ch k) t) = k then .ok (beVal (valU ch k) t) k else .form) := by
  rw [List.drop_eq_getElem_cons hat]
  have e : l[at_] = ch := by rw [← hch, List.getD_eq_getElem?_getD, List.getElem?_eq_getElem hat]; rfl
  rw [e]
  obtain ⟨j, rfl⟩ : ∃ j, k = j + 1 := ⟨k - 1, by omega⟩
  refine ⟨(l.drop (at_ + 1)).take j, rfl, by rw [List.length_take, List.length_drop]; omega, fun hk => ?_⟩
  rw [decU, hk, List.length_drop, if_neg (by omega)]
  rfl
theorem byte_u64 (c : UInt8) : IntKind.u64.wrap (c.toNat : Int) = (c.toNat : Int) := by
  have hc := c.toNat_lt
  have e : ∀ x : Int, IntKind.u64.wrap x = x % 18446744073709551616 := fun x => by first | rfl | simp [IntKind.wrap]
  rw [e]; omega
theorem or_byte (m : Nat) (c : UInt8) (hm : m < 72057594037927936) : bits BinOp.or IntKind.u64 ((m : Int) * 256) (c.toNat : Int) = ((m * 256 + c.toNat : Nat) : Int) := by
  have hc := c.toNat_lt
  have e : ((m : Int) * 256) = ((m * 2 ^ 8 : Nat) : Int) := by omega
  rw [e, u64_or_nat _ _ (by omega) (by omega), or_add _ _ _ hc]
theorem and_mask (c : UInt8) (k : Nat) (hk : 1 ≤ k) (hk8 : k ≤ 8) : bits BinOp.and IntKind.u64 (c.toNat : Int) ((255 : Int) / 2 ^ k) = ((valU c k : Nat) : Int) := by
  have hc := c.toNat_lt
  have e : ((255 : Int) / 2 ^ k) = ((255 / 2 ^ k : Nat) : Int) := by simp
  have h0 : 255 / 2 ^ k ≤ 255 := Nat.div_le_self _ _
  rw [e, u64_and_nat _ _ (by omega) (by omega)]
  unfold valU
  rw [if_neg (by omega)]
  have : k = 1 ∨ k = 2 ∨ k = 3 ∨ k = 4 ∨ k = 5 ∨ k = 6 ∨ k = 7 ∨ k = 8 := by omega
  have h2 : ∀ j, c.toNat &&& (2 ^ j - 1) = c.toNat % 2 ^ j := fun j => Nat.and_two_pow_sub_one_eq_mod _ _
  rcases this with rfl | rfl | rfl | rfl | rfl | rfl | rfl | rfl
  · exact congrArg _ (h2 7)
  · exact congrArg _ (h2 6)
  · exact congrArg _ (h2 5)
  · exact congrArg _ (h2 4)
  · exact congrArg _ (h2 3)
  · exact congrArg _ (h2 2)
  · exact congrArg _ (h2 1)
  · exact congrArg _ (h2 0)
theorem beVal_snoc (a : Nat) (t : List UInt8) (j : Nat) (hj : j < t.length) : beVal a (t.take (j + 1)) = beVal a (t.take j) * 256 + (t.getD j 0).toNat := by
  rw [List.take_succ_eq_append_getElem hj, List.getD_eq_getElem?_getD, List.getElem?_eq_getElem hj]
  unfold beVal
  rw [List.foldl_append]
  rfl
set_option maxRecDepth 20000 in
set_option maxHeartbeats 4000000 in
theorem uint_main (P : Nat) (l : List UInt8) (at_ : Nat) (w : World) (h : Rd w P l at_ .nil) (hl : l.length ≤ 4611686018427387904) (hat : at_ < l.length) :
    Calls Tryd.prog 10 #[.pointer (some ⟨P, 0, none⟩)] w (UintR P l at_ w) := by
  have H := Lib.hid h
  obtain ⟨A, c, v, hp, hb, rfl, h4⟩ := h
  obtain ⟨b, o, rfl, cx⟩ := hb.at_ hat
  have hv := fun w => neq_nil_nil (P := Tryd.prog) w (ti := 39) Tryd.underlying39
  have c1 := hp.cell
  have HDC := Lib.hid (@dec_cut l at_ hat)
  obtain ⟨ch, hch⟩ : ∃ ch, l.getD at_ 0 = ch := ⟨_, rfl⟩
  have HCH := Lib.hid hch
  rw [hch] at cx HDC
  clear hch
  have hne : ((at_ : Int) == (l.length : Int)) = false := by rw [beq_eq_false_iff_ne]; omega
  have HK := Lib.hid (klenI ch)
  have hn2 := not_u8 ch
  have hx2 := xor255 ch
  have hb8 : Lib.bitLen (255 - ch.toNat) ≤ 8 := Lib.bitLen_le _ 8 (by omega) (by have := ch.toNat_lt; omega)
  have hnc : 255 - ch.toNat < 256 := by omega
  have HNC := Lib.hid hnc
  have HL := Lib.hid hl
  have hk := klen_le ch
  obtain ⟨k, hke⟩ : ∃ k, klen ch = k := ⟨_, rfl⟩
  have HKE := Lib.hid hke
  rw [hke] at hk HK HDC
  have hB := Lib.hid hb
  clear hp hb h4 hl hnc hke
  generalize 255 - ch.toNat = nc at *
  go_enter Tryd.func10, Tryd.ntmps10
  go_wp2_with fail
  go_quiet (fail)
  have H1 := Lib.hid (H.out.only (below_dn (Below.refl _ _) nq))
  have HO := Lib.hid ((Only.refl P w).drewN nq)
  have cx1 : (w.drewN nq).cell? ⟨b, o + at_, none⟩ = some (.int .u8 ch.toNat) := cx
  have c11 : ∀ i, (w.drewN nq).cell? ⟨P, i, none⟩ = _ := c1
  clear c1 cx H hB
  generalize w.drewN nq = w1 at *
  go_wp2_with fail
  go_quiet ((go_at_call 54; exact quiet_mine (lz8_any nc HNC.out _)))
  rw [HK.out]
  have H2 := Lib.hid (H1.out.only (below_dn (Below.refl _ _) nq))
  have HO2 := Lib.hid (HO.out.drewN nq)
  clear c11 cx1 H1 HO HK hx2 hn2 hb8 HNC hne
  generalize w1.drewN nq = w2 at *
  by_cases hct : l.length < at_ + k
  · have hdec := HDC.out hct
    have HD := Lib.hid hdec
    have hct' := Lib.hid (show (l.length : Int) - at_ < (k : Int) by omega)
    clear hdec hct
    have hvi := fun w t a => neq_iface_nil (P := Tryd.prog) w (ti := 39) (ta := t) a Tryd.underlying39
    obtain ⟨_, _, _, hp2, _, e2, _⟩ := H2.out
    have c22 := hp2.cell
    clear hp2 e2
    go_wp2_with ((go_at_call 55); (with_reducible refine (take_cut P l at_ k _ H2.out HL.out hct'.out).mono ?_); rintro e w3 ⟨rfl, r3, o3⟩; have R3 := Lib.hid r3; have O3 := Lib.hid o3; obtain ⟨t3, a3, c3⟩ := r3.err rfl; clear r3 o3 c22)
    go_ret
    unfold UintR uintN uintK uintE
    rw [HD.out]
    exact ⟨rfl, R3.out, HO2.out.trans O3.out⟩
  · obtain ⟨t, hs1, hs2, hs3⟩ := uint_split hat HCH.out hk.1 (by omega)
    have hct' := Lib.hid (show at_ + k ≤ l.length by omega)
    have HS1 := Lib.hid hs1
    have HS2 := Lib.hid hs2
    have HS3 := Lib.hid (hs3 HKE.out)
    clear hs1 hs2 hs3 hct HDC
    obtain ⟨_, _, _, hp2, _, e2, _⟩ := H2.out
    have c22 := hp2.cell
    clear hp2 e2
    have hm : min k 64 = k := by omega
    have hk0 : (0 : Int) ≤ k := by omega
    obtain ⟨v0, hv0⟩ : ∃ v, valU ch k = v := ⟨_, rfl⟩
    have HV0 := Lib.hid hv0
    rw [hv0] at HS3
    clear hv0
    have h3 : (k = 1 ∧ ((k : Int) == 9) = false ∧ bits BinOp.and IntKind.u64 (ch.toNat : Int) ((255 : Int) / 2 ^ k) = (v0 : Int)) ∨ (¬ k = 1 ∧ ((k : Int) == 9) = true ∧ v0 = 0) ∨ (¬ k = 1 ∧ ((k : Int) == 9) = false ∧ bits BinOp.and IntKind.u64 (ch.toNat : Int) ((255 : Int) / 2 ^ k) = (v0 : Int)) := by
      have hv := HV0.out
      by_cases h1 : k = 1
      · exact .inl ⟨h1, by subst h1; rfl, by rw [and_mask ch k (by omega) (by omega), hv]⟩
      · by_cases h9 : k = 9
        · refine .inr (.inl ⟨h1, by subst h9; rfl, ?_⟩)
          rw [← hv, h9]; rfl
        · exact .inr (.inr ⟨h1, by rw [beq_eq_false_iff_ne]; omega, by rw [and_mask ch k (by omega) (by omega), hv]⟩)
    have hk2 : ¬ k = 1 → 1 < k := by omega
    have hcw := byte_u64 ch
    rcases h3 with ⟨h1, h9, hma⟩ | ⟨h1, h9, hz0⟩ | ⟨h1, h9, hma⟩
    · have HK1 := Lib.hid h1
      have hk1 : (1 : Int) ≤ k := by omega
      clear h1
      have ht0 : t = [] := List.eq_nil_of_length_eq_zero (by have := HS2.out; have := HK1.out; omega)
      subst ht0
      have hN : v0 < 18446744073709551616 := by
        have h4 := beVal_all ch [] (by have := HKE.out; have := HK1.out; simp; omega)
        have := HV0.out
        have h5 := HKE.out
        subst h5
        subst this
        exact h4
      have HNN := Lib.hid hN
      clear hN
      have hS3 : decU (l.drop at_) = if sizeU v0 = k then .ok v0 k else .form := HS3.out
      have HS3 := Lib.hid hS3
      clear hS3
      go_wp2_with ((go_at_call 55); (with_reducible refine (take_ok P l at_ k _ H2.out HL.out hct'.out).mono ?_); rintro e w3 ⟨⟨A3, rfl, bs3⟩, r3, o3⟩; have R3 := Lib.hid r3; have O3 := Lib.hid o3; have c3 := r3.noerr; rw [HS1.out] at bs3; have HB3 := Lib.hid bs3; obtain ⟨b3, p3, rfl, cb3⟩ := bs3.at_ (k := 0) (by simp); simp only [List.getD_cons_zero, Nat.add_zero] at cb3; clear r3 o3 c22 bs3)
      · have c1f := R3.out.free
        obtain ⟨c31, f31⟩ := c1f
        go_loop [6, 70] (fun n i => i = .int .i64 0 ∧ n = .int .u64 v0) (fun _ _ => 0)
        case atStart => exact ⟨rfl, rfl⟩
        case round =>
        obtain ⟨rfl, rfl⟩ := hrel
        by_cases hsz : sizeU v0 = k
        · have hq : ((sizeU v0 : Int) != (k : Int)) = false := by rw [hsz]; simp
          have HSZ := Lib.hid hsz
          clear hsz
          go_wp2_with ((go_at_call 56); (with_reducible refine (size_any v0 HNN.out _).mono ?_); rintro e w' ⟨rfl, rfl⟩)
          go_ret
          unfold UintR uintN uintK uintE
          rw [HS3.out, if_pos HSZ.out]
          exact ⟨rfl, R3.out, HO2.out.trans O3.out⟩
        · have hq : ((sizeU v0 : Int) != (k : Int)) = true := by rw [bne_iff_ne]; omega
          have HSZ := Lib.hid hsz
          have R4 := Lib.hid (R3.out.seek at_ (by omega))
          clear hsz
          go_wp2_with (first | ((go_at_call 56); (with_reducible refine (size_any v0 HNN.out _).mono ?_); rintro e w' ⟨rfl, rfl⟩) | ((go_at_call 53); (with_reducible refine (fail_any P l at_ 3 _ R4.out.1).mono ?_); rintro e w5 ⟨rfl, r5, o5⟩; have R5 := Lib.hid r5; have O5 := Lib.hid o5; clear r5 o5))
          go_ret
          unfold UintR uintN uintK uintE
          rw [HS3.out, if_neg HSZ.out]
          exact ⟨rfl, R5.out, (HO2.out.trans O3.out).trans (R4.out.2.trans O5.out)⟩
    · have HZ0 := Lib.hid hz0
      clear hz0
      have hk1 : (1 : Int) ≤ k := by omega
      go_wp2_with ((go_at_call 55); (with_reducible refine (take_ok P l at_ k _ H2.out HL.out hct'.out).mono ?_); rintro e w3 ⟨⟨A3, rfl, bs3⟩, r3, o3⟩; have R3 := Lib.hid r3; have O3 := Lib.hid o3; have c3 := r3.noerr; rw [HS1.out] at bs3; have HB3 := Lib.hid bs3; obtain ⟨b3, p3, rfl, cb3⟩ := bs3.at_ (k := 0) (by simp); simp only [List.getD_cons_zero, Nat.add_zero] at cb3; clear r3 o3 c22 bs3)
      go_loop [6, 70] (fun n i => ∃ j : Nat, j ≤ t.length ∧ i = .int .i64 j ∧ n = .int .u64 (beVal v0 (t.take j))) (fun _ i => t.length - (intOf i).toNat)
      case atStart => exact ⟨0, by omega, rfl, by first | rfl | (rw [HZ0.out]; rfl)⟩
      case round =>
        obtain ⟨j, hj, rfl, rfl⟩ := hrel
        by_cases hlt : j < t.length
        · have hjk : (j : Int) < (k : Int) - 1 := by have := HS2.out; omega
          have hj0 : (0 : Int) ≤ j := by omega
          obtain ⟨b4, p4, e4, cx4⟩ := HB3.out.at_ (k := j + 1) (by simp; omega)
          injection e4 with e4
          injection e4 with e4 e5
          subst e4 e5
          have hst := Lib.hid (beVal_snoc v0 t j hlt)
          have hroom : beVal v0 (t.take j) < 72057594037927936 := by
            have := HV0.out
            have h5 := HKE.out
            subst h5
            subst this
            exact beVal_room ch t HS2.out j hlt
          rw [List.getD_cons_succ] at cx4
          generalize t.getD j 0 = x at *
          generalize beVal v0 (t.take j) = m at *
          have hor := or_byte m x hroom
          have hxw := byte_u64 x
          have hoff : p3 + (j + 1) = p3 + 1 + j := by omega
          rw [hoff] at cx4
          clear hoff
          go_wp2_with fail
          exact ⟨⟨j + 1, by omega, rfl, by rw [hst.out, Int.natCast_add, Int.natCast_mul]; rfl⟩, cnt_m hlt⟩
        · have hj2 : j = t.length := by omega
          subst hj2
          rw [List.take_length]
          have hge : (k : Int) - 1 ≤ (t.length : Int) := by have := HS2.out; omega
          have hN : beVal v0 t < 18446744073709551616 := by
            have := HV0.out
            have h5 := HKE.out
            subst h5
            subst this
            exact beVal_all ch t HS2.out
          have HNN := Lib.hid hN
          have c1f := R3.out.free
          obtain ⟨c31, f31⟩ := c1f
          clear hN
          generalize beVal v0 t = N at *
          by_cases hsz : sizeU N = k
          · have hq : ((sizeU N : Int) != (k : Int)) = false := by rw [hsz]; simp
            have HSZ := Lib.hid hsz
            clear hsz
            go_wp2_with ((go_at_call 56); (with_reducible refine (size_any N HNN.out _).mono ?_); rintro e w' ⟨rfl, rfl⟩)
            go_ret
            unfold UintR uintN uintK uintE
            rw [HS3.out, if_pos HSZ.out]
            exact ⟨rfl, R3.out, HO2.out.trans O3.out⟩
          · have hq : ((sizeU N : Int) != (k : Int)) = true := by rw [bne_iff_ne]; omega
            have HSZ := Lib.hid hsz
            have R4 := Lib.hid (R3.out.seek at_ (by omega))
            clear hsz
            go_wp2_with (first | ((go_at_call 56); (with_reducible refine (size_any N HNN.out _).mono ?_); rintro e w' ⟨rfl, rfl⟩) | ((go_at_call 53); (with_reducible refine (fail_any P l at_ 3 _ R4.out.1).mono ?_); rintro e w5 ⟨rfl, r5, o5⟩; have R5 := Lib.hid r5; have O5 := Lib.hid o5; clear r5 o5))
            go_ret
            unfold UintR uintN uintK uintE
            rw [HS3.out, if_neg HSZ.out]
            exact ⟨rfl, R5.out, (HO2.out.trans O3.out).trans (R4.out.2.trans O5.out)⟩
    · have hk1 : (1 : Int) ≤ k := by omega
      go_wp2_with ((go_at_call 55); (with_reducible refine (take_ok P l at_ k _ H2.out HL.out hct'.out).mono ?_); rintro e w3 ⟨⟨A3, rfl, bs3⟩, r3, o3⟩; have R3 := Lib.hid r3; have O3 := Lib.hid o3; have c3 := r3.noerr; rw [HS1.out] at bs3; have HB3 := Lib.hid bs3; obtain ⟨b3, p3, rfl, cb3⟩ := bs3.at_ (k := 0) (by simp); simp only [List.getD_cons_zero, Nat.add_zero] at cb3; clear r3 o3 c22 bs3)
      go_loop [6, 70] (fun n i => ∃ j : Nat, j ≤ t.length ∧ i = .int .i64 j ∧ n = .int .u64 (beVal v0 (t.take j))) (fun _ i => t.length - (intOf i).toNat)
      case atStart => exact ⟨0, by omega, rfl, rfl⟩
      case round =>
        obtain ⟨j, hj, rfl, rfl⟩ := hrel
        by_cases hlt : j < t.length
        · have hjk : (j : Int) < (k : Int) - 1 := by have := HS2.out; omega
          have hj0 : (0 : Int) ≤ j := by omega
          obtain ⟨b4, p4, e4, cx4⟩ := HB3.out.at_ (k := j + 1) (by simp; omega)
          injection e4 with e4
          injection e4 with e4 e5
          subst e4 e5
          have hst := Lib.hid (beVal_snoc v0 t j hlt)
          have hroom : beVal v0 (t.take j) < 72057594037927936 := by
            have := HV0.out
            have h5 := HKE.out
            subst h5
            subst this
            exact beVal_room ch t HS2.out j hlt
          rw [List.getD_cons_succ] at cx4
          generalize t.getD j 0 = x at *
          generalize beVal v0 (t.take j) = m at *
          have hor := or_byte m x hroom
          have hxw := byte_u64 x
          have hoff : p3 + (j + 1) = p3 + 1 + j := by omega
          rw [hoff] at cx4
          clear hoff
          go_wp2_with fail
          exact ⟨⟨j + 1, by omega, rfl, by rw [hst.out, Int.natCast_add, Int.natCast_mul]; rfl⟩, cnt_m hlt⟩
        · have hj2 : j = t.length := by omega
          subst hj2
          rw [List.take_length]
          have hge : (k : Int) - 1 ≤ (t.length : Int) := by have := HS2.out; omega
          have hN : beVal v0 t < 18446744073709551616 := by
            have := HV0.out
            have h5 := HKE.out
            subst h5
            subst this
            exact beVal_all ch t HS2.out
          have HNN := Lib.hid hN
          have c1f := R3.out.free
          obtain ⟨c31, f31⟩ := c1f
          clear hN
          generalize beVal v0 t = N at *
          by_cases hsz : sizeU N = k
          · have hq : ((sizeU N : Int) != (k : Int)) = false := by rw [hsz]; simp
            have HSZ := Lib.hid hsz
            clear hsz
            go_wp2_with ((go_at_call 56); (with_reducible refine (size_any N HNN.out _).mono ?_); rintro e w' ⟨rfl, rfl⟩)
            go_ret
            unfold UintR uintN uintK uintE
            rw [HS3.out, if_pos HSZ.out]
            exact ⟨rfl, R3.out, HO2.out.trans O3.out⟩
          · have hq : ((sizeU N : Int) != (k : Int)) = true := by rw [bne_iff_ne]; omega
            have HSZ := Lib.hid hsz
            have R4 := Lib.hid (R3.out.seek at_ (by omega))
            clear hsz
            go_wp2_with (first | ((go_at_call 56); (with_reducible refine (size_any N HNN.out _).mono ?_); rintro e w' ⟨rfl, rfl⟩) | ((go_at_call 53); (with_reducible refine (fail_any P l at_ 3 _ R4.out.1).mono ?_); rintro e w5 ⟨rfl, r5, o5⟩; have R5 := Lib.hid r5; have O5 := Lib.hid o5; clear r5 o5))
            go_ret
            unfold UintR uintN uintK uintE
            rw [HS3.out, if_neg HSZ.out]
            exact ⟨rfl, R5.out, (HO2.out.trans O3.out).trans (R4.out.2.trans O5.out)⟩
end Go.Proofs.YtmjdlofkjjofcaaDoor

/- PrefixReads, walked: under way (does not build to its end). -/
import Derived.Test.YtmjdlofkjjofcaaDoorProg
import Derived.Test.YtmjdlofkjjofcaaDoorKit
import Derived.Test.YtmjdlofkjjofcaaDoorKitb
import Derived.Test.YtmjdlofkjjofcaaDoorBytes
import Derived.Test.YtmjdlofkjjofcaaDoorOnly
import Derived.Test.YtmjdlofkjjofcaaDoorInts
import Derived.Test.YtmjdlofkjjofcaaDoorErr
import Derived.Test.YtmjdlofkjjofcaaDoorFault
import Derived.Test.YtmjdlofkjjofcaaDoorStr
import Derived.Test.YtmjdlofkjjofcaaDoorApp
import Derived.Test.YtmjdlofkjjofcaaDoorAppSet
import Derived.Test.YtmjdlofkjjofcaaDoorAppS
import Derived.Test.YtmjdlofkjjofcaaDoorSlices
import Derived.Test.YtmjdlofkjjofcaaDoorPrefixV
import Derived.Test.YtmjdlofkjjofcaaDoorReader
import Derived.Test.YtmjdlofkjjofcaaDoorReaderM
import Derived.Test.YtmjdlofkjjofcaaDoorPrefixL
import Derived.Test.YtmjdlofkjjofcaaDoorRdMore
import Derived.Test.YtmjdlofkjjofcaaDoorRefRd
import Derived.Test.YtmjdlofkjjofcaaDoorRdB
import Derived.Test.YtmjdlofkjjofcaaDoorRdP
import Derived.Test.YtmjdlofkjjofcaaDoorRdR
import Derived.Test.YtmjdlofkjjofcaaDoorRdQ
import Derived.Test.YtmjdlofkjjofcaaDoorPrEnd
import Derived.Deep.RegionHeld3
import Derived.Test.YtmjdlofkjjofcaaDoorAs
import Derived.Test.YtmjdlofkjjofcaaDoorAsE
import Derived.Deep.QuietTactic
import Derived.BigQuiet
import Derived.Deep.RegionWith
import Derived.Deep.DeepCutAuto
import Derived.Deep.CutBlock
import Derived.Deep.DrawnRows
namespace Go.Proofs.YtmjdlofkjjofcaaDoor
open Go.RowKit
set_option linter.unusedVariables false
set_option linter.unusedSimpArgs false
def gOf : Option Addr → Nat
  | some a => a.block
  | none => 0
theorem xor_255 (x : UInt8) : bits BinOp.xor IntKind.u8 (x.toNat : Int) 255 = (((255 : UInt8) ^^^ x).toNat : Int) := by
  have h1 := u8_xor_nat x.toNat 255 x.toNat_lt (by decide)
  rw [show (255 : Int) = ((255 : Nat) : Int) from rfl, h1, UInt8.toNat_xor, Nat.xor_comm]
  rfl
theorem Row.drewR {W : World} {B : Nat} {e : TypeId} {v : Value} {l : List UInt8} (h : Row W B e v l) : Row W.drew B e v l := h
theorem Only.setNewQ {P : Nat} {w w' : World} (h : Only P w w') {Q : Nat} (hQ : w.heap.size ≤ Q) (o : Nat) (v : Value) : Only P w (w'.setCell ⟨Q, o, none⟩ v) :=
  ⟨h.os, h.tape, h.output, by rw [World.size_setCell]; exact h.size, fun b hb hP => by
    rw [Below.heap_setCell _ _ _ _ (by show b ≠ Q; omega)]
    exact h.block b hb hP⟩
theorem pt_beside {w : World} {M g : Nat} {cs : Array Value} {T : TypeId} (h : Pt w M cs T) (hne : M ≠ g) (o : Nat) (v : Value) : Pt (w.setCell ⟨g, o, none⟩ v) M cs T := h.only ((Only.refl g w).setCell o v) hne
theorem most_num (km : Nat) (h : km ≤ 63) : ∃ mo : Nat, IntKind.u64.wrap (IntKind.u64.wrap (2 ^ km) - 1) = (mo : Int) ∧ mo < 18446744073709551616 := by
  have h1 : (2 : Nat) ^ km ≤ 2 ^ 63 := Nat.pow_le_pow_right (by decide) h
  have h2 : 0 < (2 : Nat) ^ km := Nat.two_pow_pos km
  have h3 : (2 : Nat) ^ 63 = 9223372036854775808 := by decide
  refine ⟨2 ^ km - 1, ?_, by omega⟩
  rw [u64w, u64w]
  have h4 : ((2 : Int) ^ km) = ((2 ^ km : Nat) : Int) := by push_cast; rfl
  rw [h4]
  omega
set_option maxHeartbeats 40000000 in
set_option maxRecDepth 100000 in
theorem prefixReads_in (A : Option Addr) (c : Nat) (l : List UInt8) (A1 : Option Addr) (c1 : Nat) (xs : List Int) (w : World) (h : Bs w w.heap.size A l) (h1 : Is .u16 w w.heap.size A1 xs) (hxs : ∀ x ∈ xs, 0 ≤ x ∧ x ≤ 65535) (hl : l.length ≤ 2000) (hx : xs.length ≤ 60) (hg : HT w) :
    Calls Tryd.prog 3 #[.slice A l.length c, .slice A1 xs.length c1] w fun e w' => e = .returned (.bool true) ∧ Below w.heap.size w w' := by
  have g1 : decide ((l.length : Int) > 2000) = false := decide_eq_false (by omega)
  have g2 : decide ((xs.length : Int) > 60) = false := decide_eq_false (by omega)
  have H := Lib.hid h
  have H1 := Lib.hid h1
  have HX := Lib.hid hxs
  have HL := Lib.hid (And.intro hl hx)
  have HG := Lib.hid hg
  clear h h1 hxs hl hx hg
  go_enter Tryd.func3, Tryd.ntmps3
  go_upto_region 3 with ((go_at_call 8); (with_reducible refine (lives2_any _).mono ?_); rintro e w1 ⟨rfl, b1⟩; have B1 := Lib.hid b1; clear b1)
  clear g1 g2
  go_upto_region 4 with ((with_reducible refine at_dst (N := 33) rfl ?_); refine app_bytes2 rfl (.tmp 31) (.tmp 32) 22 rfl rfl (by kernel_rfl) [] l rfl (Row.mk0 _ _) rfl rfl (bs_at H.out (B1.out.alloc B1.out.size _)) rfl ?ra ?rb ?_; (case ra => have := HL.out; omega); (case rb => simp only [World.size_alloc]; omega); intro A5 c5 w5 r5 b5 _; have R5 := Lib.hid r5; have B5 := Lib.hid (B1.out.trans ((((Below.refl w1.heap.size w1).alloc (Nat.le_refl _) (.cells #[] 5)).trans b5).mono B1.out.size)); clear r5 b5)
  go_upto_region 5 with (first | ((go_at_call 9); (with_reducible refine (read_new A5 l.length c5 l rfl _ R5.out.bs' (by have := HL.out; omega)).mono ?_); rintro e w6 ⟨P, A6, c6, rfl, p6, r6, z6, b6⟩; have P6 := Lib.hid p6; have R6 := Lib.hid r6; have Z6 := Lib.hid z6; have Q6 := Lib.hid (R5.out.keep b6); have B6 := Lib.hid (b_next B5.out b6); clear p6 r6 z6 b6) | ((with_reducible refine at_dst (N := 38) rfl ?_); refine app_bytes2 rfl (.tmp 36) (.tmp 37) 22 rfl rfl (by kernel_rfl) [] l rfl (Row.mk0 _ _) rfl rfl (bs_at H.out (B6.out.alloc B6.out.size _)) rfl ?rc ?rd ?_; (case rc => have := HL.out; omega); (case rd => simp only [World.size_alloc]; omega); intro A7 c7 w7 r7 b7 _; have R7 := Lib.hid r7; have D7 := Lib.hid (((Below.refl w6.heap.size w6).alloc (Nat.le_refl _) (.cells #[] 5)).trans b7); clear r7 b7))
  have hb8 : Below w7.heap.size w7 (w7.alloc (.cells #[.slice A7 l.length c7, .int .i64 0, .int .i64 0, .int .i64 0] 29)) := (Below.refl _ _).alloc (Nat.le_refl _) _
  have hd7 : Below w6.heap.size w6 (w7.alloc (.cells #[.slice A7 l.length c7, .int .i64 0, .int .i64 0, .int .i64 0] 29)) := D7.out.trans (hb8.mono D7.out.size)
  have P8 := Lib.hid (P6.out.keep hd7)
  have R8 := Lib.hid (R6.out.keep hd7)
  have Q8 := Lib.hid (Q6.out.keep hd7)
  have M8 := Lib.hid (Pt.new w7 #[.slice A7 l.length c7, .int .i64 0, .int .i64 0, .int .i64 0] 29)
  have N8 := Lib.hid (R7.out.keep hb8)
  have B8 := Lib.hid (b_next B6.out hd7)
  have hgo : gOf A5 < w5.heap.size := by
    obtain ⟨_, h2⟩ := R5.out
    rcases h2 with ⟨h0, _⟩ | ⟨g, cap, cur, hv, h3, h4, _⟩
    · injection h0 with h0
      subst h0
      exact Nat.lt_of_lt_of_le HG.out.pos B5.out.size
    · injection hv with hv
      subst hv
      exact (Array.getElem?_eq_some_iff.1 h4).1
  have HGo := Lib.hid (show gOf A5 < w5.heap.size ∧ gOf A5 < w6.heap.size ∧ P ≠ gOf A5 ∧ w7.heap.size ≠ gOf A5 ∧ P ≠ w7.heap.size ∧ w.heap.size ≤ P ∧ w.heap.size ≤ w7.heap.size by
    have h1 := Z6.out
    have h2 := D7.out.size
    have h3 := B5.out.size
    have h4 := B6.out.size
    have h6 := P6.out.lt
    have h5 : w5.heap.size ≤ w6.heap.size := by omega
    omega)
  clear hb8 hd7 hgo P6 R6 Q6 R7 D7 Z6 B6 B5
  generalize w7.alloc (.cells #[.slice A7 l.length c7, .int .i64 0, .int .i64 0, .int .i64 0] 29) = w8 at *
  go_wp2_with fail
  go_loopw [43] (fun v43 wr => ∃ j : Nat, j ≤ l.length ∧ v43 = .int .i64 j ∧ Hid (∃ X, X.length = l.length ∧ Row wr w1.heap.size 5 (.slice A5 l.length c5) X) ∧ Hid (Only (gOf A5) w8 wr) ∧ Hid (Below w.heap.size w wr)) (fun v43 _ => l.length - (intOf v43).toNat)
  case atStart => exact ⟨0, Nat.zero_le _, rfl, Lib.hid ⟨l, rfl, Q8.out⟩, Lib.hid (Only.refl _ _), B8⟩
  case round =>
    obtain ⟨j, hj, rfl, hXr, hO, hBw⟩ := hrel
    by_cases hlt : j < l.length
    · obtain ⟨X, hXl, hrow⟩ := hXr.out
      obtain ⟨g, cur, rfl, _, hgb, _⟩ := hrow.block (by omega)
      have HGB := Lib.hid (Nat.le_trans B1.out.size hgb)
      have cx := hrow.cell (q := j) (by omega)
      have fx := hrow.free j
      have hor := xor_255 (X.getD j 0)
      have HRow := Lib.hid (hrow.set (q := j) (by omega) (255 ^^^ X.getD j 0))
      have HXl := Lib.hid (show (X.set j (255 ^^^ X.getD j 0)).length = l.length by rw [List.length_set]; exact hXl)
      have HM := Lib.hid (show l.length - (j + 1) < l.length - j by omega)
      have HJ := Lib.hid (show j + 1 ≤ l.length by omega)
      have HJW := Lib.hid (show wrap64 ((j : Int) + 1) = ((j + 1 : Nat) : Int) by have := HL.out; rw [w64 (by omega) (by omega)]; rfl)
      have i0 : (0 : Int) ≤ (j : Int) := by omega
      have i1 : (j : Int) < (l.length : Int) := by omega
      generalize X.getD j 0 = x at *
      generalize X.set j (255 ^^^ x) = X2 at *
      clear hrow hXl hXr hj hlt hgb
      go_wp2_with fail
      have hjw := HJW.out
      exact ⟨⟨j + 1, HJ.out, by first | rfl | rw [hjw], Lib.hid ⟨X2, HXl.out, HRow.out⟩, Lib.hid (hO.out.setCell j _), Lib.hid (Below.setCell hBw.out HGB.out _)⟩, by first | exact HM.out | (rw [hjw]; exact HM.out)⟩
    · obtain rfl : j = l.length := by omega
      have BO := Lib.hid (show Both wr P w7.heap.size A7 c7 l 0 0 0 from ⟨HGo.out.2.2.2.2.1, rd_of (P8.out.only hO.out HGo.out.2.2.1) (R8.out.above HGo.out.1 hO.out) (by have := HL.out; omega), rm_of (M8.out.only hO.out HGo.out.2.2.2.1) (N8.out.above HGo.out.2.1 hO.out) (by have := HL.out; omega)⟩)
      have HPM := Lib.hid HGo.out.2.2.2.2.2
      clear hlt hj hXr hO P8 R8 Q8 M8 N8 B8 HGo B1 R5
      generalize w7.heap.size = M at *
      go_wp2_with fail
      rename World => w9
      go_loopw [55] (fun v55 wr => ∃ j at_ E F : Nat, j ≤ xs.length ∧ v55 = .int .i64 j ∧ Hid (Both wr P M A7 c7 l at_ E F) ∧ Hid (Below w.heap.size w wr)) (fun v55 _ => xs.length - (intOf v55).toNat)
      case atStart => exact ⟨0, 0, 0, 0, Nat.zero_le _, rfl, BO, hBw⟩
      case round =>
        clear BO hBw
        obtain ⟨j, at_, E, F, hj, rfl, hBO, hBw⟩ := hrel
        by_cases hlt : j < xs.length
        · have hmem : xs.getD j 0 ∈ xs := by rw [List.getD_eq_getElem?_getD, List.getElem?_eq_getElem hlt]; exact List.getElem_mem hlt
          obtain ⟨hx0, hx1⟩ := HX.out _ hmem
          obtain ⟨b, o, rfl, hcell⟩ := ((H1.out.below hBw.out).at_ hlt)
          obtain ⟨k, hk⟩ : ∃ k : Nat, xs.getD j 0 = k := ⟨_, (Int.toNat_of_nonneg hx0).symm⟩
          rw [hk] at hcell hx1
          have i0 : (0 : Int) ≤ (j : Int) := by omega
          have i1 : (j : Int) < (xs.length : Int) := by omega
          clear hmem hx0 hk
          go_upto_block 4 with fail
          obtain ⟨kk, hkk, hkl, hku⟩ : ∃ kk : Int, (k : Int) / 4 % 80 - 2 = kk ∧ -2 ≤ kk ∧ kk ≤ 77 := ⟨_, rfl, by omega, by omega⟩
          obtain ⟨q, hq, hq4⟩ : ∃ q : Int, (k : Int) % 4 = q ∧ (q = 0 ∨ q = 1 ∨ q = 2 ∨ q = 3) := ⟨_, rfl, by omega⟩
          rw [hkk, hq]
          clear hcell hkk hq hx1 i0 i1
          go_cut [11] (fun s11 W => s11 = .bool true ∧ ∃ at1 E1 F1 : Nat, Hid (Both W P M A7 c7 l at1 E1 F1) ∧ Hid (Below w.heap.size w W))
          case first =>
            rcases hq4 with rfl | rfl | rfl | rfl
            · obtain ⟨n, at1, E1, F1, hd1, hd2⟩ := duo_uint hBO.out (by have := HL.out; omega)
              have HD1 := Lib.hid hd1
              have HD2 := Lib.hid hd2
              clear hd1 hd2 hBO
              go_wp2_with (first | ((go_at_call 10); (with_reducible refine (HD1.out).mono ?_); rintro e w2 ⟨rfl, o2, r2, m2⟩; have HM := Lib.hid (HD2.out _ r2 m2); have B2 := Lib.hid (hBw.out.trans (o2.below HPM.out.1 hBw.out.size)); clear o2 r2 m2) | ((go_at_call 11); (with_reducible refine (HM.out).mono ?_); rintro e w3 ⟨rfl, o3, b3⟩; have B3 := Lib.hid (B2.out.trans (o3.below HPM.out.2 B2.out.size)); have BO3 := Lib.hid b3; clear o3 b3))
              go_meet
              exact ⟨by first | rfl | simp, at1, E1, F1, BO3, B3⟩
            · obtain ⟨n, at1, E1, F1, hd1, hd2⟩ := duo_int hBO.out (by have := HL.out; omega)
              have HD1 := Lib.hid hd1
              have HD2 := Lib.hid hd2
              clear hd1 hd2 hBO
              go_wp2_with (first | ((go_at_call 12); (with_reducible refine (HD1.out).mono ?_); rintro e w2 ⟨rfl, o2, r2, m2⟩; have HM := Lib.hid (HD2.out _ r2 m2); have B2 := Lib.hid (hBw.out.trans (o2.below HPM.out.1 hBw.out.size)); clear o2 r2 m2) | ((go_at_call 13); (with_reducible refine (HM.out).mono ?_); rintro e w3 ⟨rfl, o3, b3⟩; have B3 := Lib.hid (B2.out.trans (o3.below HPM.out.2 B2.out.size)); have BO3 := Lib.hid b3; clear o3 b3))
              go_meet
              exact ⟨by first | rfl | simp, at1, E1, F1, BO3, B3⟩
            · obtain ⟨km, hkm, hkm2⟩ : ∃ km : Nat, (min (max kk 0) 63).toNat = km ∧ km ≤ 63 := ⟨_, rfl, by omega⟩
              obtain ⟨mo, hmo, hmo2⟩ := most_num km hkm2
              obtain ⟨n, at1, E1, F1, hd1, hd2⟩ := duo_upto mo hmo2 hBO.out (by have := HL.out; omega)
              have HD1 := Lib.hid hd1
              have HD2 := Lib.hid hd2
              clear hd1 hd2 hBO hmo2
              go_upto_region 29 with fail
              clear hkm hmo
              go_wp2_with (first | ((go_at_call 14); (with_reducible refine (HD1.out).mono ?_); rintro e w2 ⟨rfl, o2, r2, m2⟩; have HM := Lib.hid (HD2.out _ r2 m2); have B2 := Lib.hid (hBw.out.trans (o2.below HPM.out.1 hBw.out.size)); clear o2 r2 m2) | ((go_at_call 15); (with_reducible refine (HM.out).mono ?_); rintro e w3 ⟨rfl, o3, b3⟩; have B3 := Lib.hid (B2.out.trans (o3.below HPM.out.2 B2.out.size)); have BO3 := Lib.hid b3; clear o3 b3))
              go_meet
              exact ⟨by first | rfl | simp, at1, E1, F1, BO3, B3⟩
            · obtain ⟨X, at1, E1, F1, hX, ha1, hd1, hd2⟩ := duo_bytes kk hBO.out (by have := HL.out; omega)
              have HD1 := Lib.hid hd1
              have HD2 := Lib.hid hd2
              have HXA := Lib.hid (And.intro hX ha1)
              clear hd1 hd2 hX ha1
              unfold BytR RetRow at HD1
              go_upto_region 17 with ((go_at_call 16); (with_reducible refine (HD1.out).mono ?_); rintro e w2 ⟨wm, om, rm, A2, c2, rfl, row2, b2⟩; have RMm := Lib.hid (hBO.out.2.2.past hBO.out.2.1 om hBO.out.1); have HM := Lib.hid fun W (k : Below wm.heap.size wm W) => HD2.out W (RMm.out.keep k); have Row2 := Lib.hid row2; have Rm := Lib.hid rm; have B2 := Lib.hid b2; have Bm := Lib.hid (hBw.out.trans (om.below HPM.out.1 hBw.out.size)); clear om rm row2 b2)
              have HMl := Lib.hid RMm.out.1.lt
              have hBP := hBO.out.1
              have hb2 := B2.out
              have hh0 : Holds w2.drew A2 X := Row.bs' Row2.out
              have hcv0 := conv_holds Tryd.prog 22 9 5 Tryd.underlying22 Tryd.underlying5 Tryd.underlying9 A2 X.length c2 X rfl
              have hcv1 := fun (A' : Option Addr) (c' : Nat) => conv_holds Tryd.prog 22 9 5 Tryd.underlying22 Tryd.underlying5 Tryd.underlying9 A' X.length c' X rfl
              clear HD1 HD2 hBO
              go_cut [11] (fun s11 W => s11 = .bool true ∧ Hid (RM W M A7 c7 l at1 E1 F1) ∧ Hid (Only M wm W) ∧ Hid (Row W wm.heap.size 5 (.slice A2 X.length c2) X))
              case first =>
                go_region_with ((go_at_call 17); (with_reducible refine (HM.out _ (by (repeat' (first | (with_reducible exact Below.refl _ _) | (with_reducible assumption) | (with_reducible refine Below.setCell ?_ ?_ _) | (with_reducible refine Below.alloc ?_ ?_ _) | (with_reducible refine below_dn ?_ _) | (with_reducible refine below_call ?_ ?_ (by assumption)) | (with_reducible refine Below.drew ?_) | go_size)))).mono ?_); rintro e w3 ⟨⟨A3, c3, rfl, bs3⟩, rm3, o3⟩; have hh3 : Holds w3 A3 X := bs3; have row3 := Row.above (Row.drewR Row2.out) HMl.out o3; have hh2 : Holds w3 A2 X := Row.bs' row3; have Row3 := Lib.hid row3; have RM3 := Lib.hid rm3; have O3 := Lib.hid ((Only.of (show Below wm.heap.size wm _ from by (repeat' (first | (with_reducible exact Below.refl _ _) | (with_reducible assumption) | (with_reducible refine Below.setCell ?_ ?_ _) | (with_reducible refine Below.alloc ?_ ?_ _) | (with_reducible refine below_dn ?_ _) | (with_reducible refine below_call ?_ ?_ (by assumption)) | (with_reducible refine Below.drew ?_) | go_size)))).trans o3); clear row3 rm3 o3 bs3)
                all_goals (go_wp2_with fail; go_meet)
                all_goals exact ⟨by first | rfl | simp, RM3, O3, Row3⟩
              case rest =>
                obtain ⟨rfl, hRM, hOn, hRw⟩ := hcut
                have hPt := Lib.hid hRM.out.1
                clear hRM hh0 hcv0 hcv1 hb2 HM Row2 B2
                go_wp2_with fail
                go_loopw [78] (fun v78 wq => ∃ i : Nat, i ≤ X.length ∧ v78 = .int .i64 i ∧ Hid (Only M wm wq) ∧ Hid (Pt wq M #[.slice A7 l.length c7, .int .i64 at1, .int .i64 E1, .int .i64 F1] 29) ∧ Hid (∃ X' : List UInt8, X'.length = X.length ∧ Row wq wm.heap.size 5 (.slice A2 X.length c2) X')) (fun v78 _ => X.length - (intOf v78).toNat)
                case atStart => exact ⟨0, Nat.zero_le _, rfl, hOn, hPt, Lib.hid ⟨X, rfl, hRw.out⟩⟩
                case round =>
                  clear hOn hPt hRw
                  obtain ⟨i, hi, rfl, hOq, hPq, hXq⟩ := hrel
                  by_cases hlt2 : i < X.length
                  · obtain ⟨X1, hXl, hrow⟩ := hXq.out
                    obtain ⟨g, cur, rfl, _, hgb, _⟩ := hrow.block (by omega)
                    have HGB := Lib.hid hgb
                    have HGM := Lib.hid (show M ≠ g by have := HMl.out; omega)
                    have cx := hrow.cell (q := i) (by omega)
                    have fx := hrow.free i
                    have hor := xor_255 (X1.getD i 0)
                    have HRow := Lib.hid (hrow.set (q := i) (by omega) (255 ^^^ X1.getD i 0))
                    have HXl := Lib.hid (show (X1.set i (255 ^^^ X1.getD i 0)).length = X.length by rw [List.length_set]; exact hXl)
                    have HM := Lib.hid (show X.length - (i + 1) < X.length - i by omega)
                    have HJ := Lib.hid (show i + 1 ≤ X.length by omega)
                    have HJW := Lib.hid (show wrap64 ((i : Int) + 1) = ((i + 1 : Nat) : Int) by have := HXA.out; rw [w64 (by omega) (by omega)]; rfl)
                    have i0 : (0 : Int) ≤ (i : Int) := by omega
                    have i1 : (i : Int) < (X.length : Int) := by omega
                    generalize X1.getD i 0 = x at *
                    generalize X1.set i (255 ^^^ x) = X2 at *
                    clear hrow hXl hXq hi hlt2 hgb
                    go_wp2_with fail
                    have hjw := HJW.out
                    exact ⟨⟨i + 1, HJ.out, by first | rfl | rw [hjw], Lib.hid (hOq.out.setNewQ HGB.out _ _), Lib.hid (pt_beside hPq.out HGM.out _ _), Lib.hid ⟨X2, HXl.out, HRow.out⟩⟩, by first | exact HM.out | (rw [hjw]; exact HM.out)⟩
                  · obtain rfl : i = X.length := by omega
                    clear hlt2 hi hXq
                    go_wp2_with fail
                    go_meet
                    exact ⟨rfl, at1, E1, F1, Lib.hid ⟨hBP, Rm.out.past RMm.out hOq.out hBP, RMm.out.mix hOq.out hPq.out HXA.out.2⟩, Lib.hid (Bm.out.trans (hOq.out.below HPM.out.2 Bm.out.size))⟩
          case rest =>
            obtain ⟨rfl, at1, E1, F1, hB1, hBl1⟩ := hcut
            clear hq4 hkl hku hBO hBw
            have HJ := Lib.hid (show j + 1 ≤ xs.length by omega)
            have HJW := Lib.hid (show wrap64 ((j : Int) + 1) = ((j + 1 : Nat) : Int) by have := HL.out; rw [w64 (by omega) (by omega)]; rfl)
            have HM := Lib.hid (show xs.length - (j + 1) < xs.length - j by omega)
            go_upto_region 30 with fail
            have cM := hB1.out.2.2.1.cell
            go_quiet (fail)
            have hB2 := Lib.hid (hB1.out.keep (below_dn (Below.refl _ wc) nq))
            have hBl2 := Lib.hid (hBl1.out.trans (below_dn (Below.refl _ wc) nq |>.mono hBl1.out.size))
            clear hB1 hBl1 cM
            generalize wc.drewN nq = w30 at *
            obtain ⟨ve, e1, en, ea, hcs, hwe, hEr, hEn, hLe⟩ := ends hB2.out (HG.out.keep hBl2.out) (by have := HL.out; omega)
            have HWE := Lib.hid hwe
            have HER := Lib.hid hEr
            have HEN := Lib.hid hEn
            have HLE := Lib.hid hLe
            clear hwe hEr hEn hLe
            have hatl := hB2.out.2.2.2.2.1
            have cM1 := fun (W : World) (k : Below w30.heap.size w30 W) => (hB2.out.2.2.1.keep k).cell 1
            have cM2 := fun (W : World) (k : Below w30.heap.size w30 W) => (hB2.out.2.2.1.keep k).cell 2
            have cM3 := fun (W : World) (k : Below w30.heap.size w30 W) => (hB2.out.2.2.1.keep k).cell 3
            have cM := hB2.out.2.2.1.cell
            have hsub : IntKind.i64.wrap ((l.length : Int) - (at1 : Int)) = (l.length : Int) - at1 := by have := HL.out; rw [i64_w, w64 (by omega) (by omega)]
            have he1 : e1 = (E1 : Int) := by rcases hcs with ⟨h1, _, h2, _, _⟩ | ⟨h1, _, h2, _, _⟩ | ⟨_, h2, _, _⟩ <;> omega
            obtain ⟨t, ht⟩ : ∃ t : Bool, t = decide (E1 = 0 ∧ at1 < l.length) := ⟨_, rfl⟩
            subst he1
            go_upto_region 31 with fail
            go_cut [134] (fun s134 W => s134 = .bool t ∧ Hid (Below w30.heap.size w30 W))
            case first =>
              rcases hcs with ⟨rfl, hlt1, he1, rfl, rfl⟩ | ⟨rfl, hlt1, he1, rfl, rfl⟩ | ⟨hE, he1, rfl, rfl⟩
              · obtain rfl : t = true := by rw [ht]; exact decide_eq_true ⟨rfl, hlt1⟩
                clear ht he1
                go_wp2_with fail
                go_meet
                exact ⟨rfl, Lib.hid (Below.refl _ _)⟩
              · obtain rfl : t = false := by rw [ht]; exact decide_eq_false fun h => hlt1 h.2
                clear ht he1
                go_wp2_with fail
                go_meet
                exact ⟨rfl, Lib.hid (Below.refl _ _)⟩
              · obtain rfl : t = false := by rw [ht]; exact decide_eq_false fun h => hE h.1
                clear ht he1
                go_wp2_with fail
                go_meet
                exact ⟨rfl, Lib.hid (Below.refl _ _)⟩
            case rest =>
              obtain ⟨rfl, hB3⟩ := hcut
              have c1M := cM1 _ hB3.out
              have hee : (t = true ∧ en = 5 ∧ ea = at1) ∨ (t = false ∧ en = E1 ∧ ea = F1) := by
                rcases hcs with ⟨h1, h2, h3, h4, h5⟩ | ⟨h1, h2, h3, h4, h5⟩ | ⟨h1, h3, h4, h5⟩
                · exact .inl ⟨by rw [ht]; exact decide_eq_true ⟨h1, h2⟩, h4, h5⟩
                · exact .inr ⟨by rw [ht]; exact decide_eq_false fun h => h2 h.2, by rw [h4, h1]; rfl, h5⟩
                · exact .inr ⟨by rw [ht]; exact decide_eq_false fun h => h1 h.1, h4, h5⟩
              clear hcs ht cM
              go_upto_if 134 with fail
              go_cut [16, 17] (fun s16 s17 W => s16 = .int .i64 en ∧ s17 = .int .i64 ea ∧ Hid (Below w30.heap.size w30 W))
              case first =>
                rcases hee with ⟨rfl, rfl, rfl⟩ | ⟨rfl, rfl, rfl⟩
                · go_upto_region 32 with fail
                  go_quiet (fail)
                  go_wp2_with fail
                  go_meet
                  exact ⟨rfl, rfl, Lib.hid (below_dn hB3.out nq)⟩
                · go_wp2_with fail
                  go_meet
                  exact ⟨rfl, rfl, hB3⟩
              case rest =>
                obtain ⟨rfl, rfl, hB4⟩ := hcut
                have hb4 := hB4.out
                clear hee c1M hB3
                go_upto_region 33 with fail
                go_region_held3 (fun W => Below w30.heap.size w30 W) ((repeat' (first | (with_reducible exact Below.refl _ _) | (with_reducible assumption) | (with_reducible refine Below.setCell ?_ ?_ _) | (with_reducible refine Below.alloc ?_ ?_ _) | (with_reducible refine below_dn ?_ _) | (with_reducible refine below_call ?_ ?_ (by assumption)) | (with_reducible refine Below.drew ?_) | go_size))) (first | ((go_at_call 18); (with_reducible refine (HLE.out _ (by (repeat' (first | (with_reducible exact Below.refl _ _) | (with_reducible assumption) | (with_reducible refine Below.setCell ?_ ?_ _) | (with_reducible refine Below.alloc ?_ ?_ _) | (with_reducible refine below_dn ?_ _) | (with_reducible refine below_call ?_ ?_ (by assumption)) | (with_reducible refine Below.drew ?_) | go_size)))).mono ?_); rintro e w31 ⟨rfl, bl31⟩) | ((go_at_call 20); (with_reducible refine (HER.out _ (by (repeat' (first | (with_reducible exact Below.refl _ _) | (with_reducible assumption) | (with_reducible refine Below.setCell ?_ ?_ _) | (with_reducible refine Below.alloc ?_ ?_ _) | (with_reducible refine below_dn ?_ _) | (with_reducible refine below_call ?_ ?_ (by assumption)) | (with_reducible refine Below.drew ?_) | go_size)))).mono ?_); rintro e w31 ⟨rfl, bl31⟩) | ((go_at_call 21); (with_reducible refine (HEN.out _ (by (repeat' (first | (with_reducible exact Below.refl _ _) | (with_reducible assumption) | (with_reducible refine Below.setCell ?_ ?_ _) | (with_reducible refine Below.alloc ?_ ?_ _) | (with_reducible refine below_dn ?_ _) | (with_reducible refine below_call ?_ ?_ (by assumption)) | (with_reducible refine Below.drew ?_) | go_size)))).mono ?_); rintro e w31 ⟨vn, rfl, be31, hwn⟩; have HWN := Lib.hid hwn; clear hwn) | ((go_at_call 19); (with_reducible refine (HWN.out _ (by (repeat' (first | (with_reducible exact Below.refl _ _) | (with_reducible assumption) | (with_reducible refine Below.setCell ?_ ?_ _) | (with_reducible refine Below.alloc ?_ ?_ _) | (with_reducible refine below_dn ?_ _) | (with_reducible refine below_call ?_ ?_ (by assumption)) | (with_reducible refine Below.drew ?_) | go_size)))).mono ?_); rintro e w31 ⟨rfl, bw31⟩) | ((go_at_call 19); (with_reducible refine (HWE.out _ (by (repeat' (first | (with_reducible exact Below.refl _ _) | (with_reducible assumption) | (with_reducible refine Below.setCell ?_ ?_ _) | (with_reducible refine Below.alloc ?_ ?_ _) | (with_reducible refine below_dn ?_ _) | (with_reducible refine below_call ?_ ?_ (by assumption)) | (with_reducible refine Below.drew ?_) | go_size)))).mono ?_); rintro e w31 ⟨rfl, bw31⟩))
                go_wp2_with fail
                have hjw := HJW.out
                exact ⟨⟨j + 1, at1, _, F1, HJ.out, by first | rfl | rw [hjw], Lib.hid (hB2.out.keep (by (repeat' (first | (with_reducible exact Below.refl _ _) | (with_reducible assumption) | (with_reducible refine Below.setCell ?_ ?_ _) | (with_reducible refine Below.alloc ?_ ?_ _) | (with_reducible refine below_dn ?_ _) | (with_reducible refine below_call ?_ ?_ (by assumption)) | (with_reducible refine Below.drew ?_) | go_size)))), Lib.hid (hBl2.out.trans ((show Below w30.heap.size w30 _ from by (repeat' (first | (with_reducible exact Below.refl _ _) | (with_reducible assumption) | (with_reducible refine Below.setCell ?_ ?_ _) | (with_reducible refine Below.alloc ?_ ?_ _) | (with_reducible refine below_dn ?_ _) | (with_reducible refine below_call ?_ ?_ (by assumption)) | (with_reducible refine Below.drew ?_) | go_size))).mono hBl2.out.size))⟩, by first | exact HM.out | (rw [hjw]; exact HM.out)⟩
        · obtain rfl : j = xs.length := by omega
          clear hlt hj hBO
          go_wp2_with fail
          go_ret
          exact ⟨rfl, hBw.out⟩
end Go.Proofs.YtmjdlofkjjofcaaDoor

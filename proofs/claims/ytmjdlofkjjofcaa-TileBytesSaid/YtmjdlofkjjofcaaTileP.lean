/- Package tile: Put. -/
import Derived.Test.YtmjdlofkjjofcaaProg
import Derived.Test.YtmjdlofkjjofcaaKit
import Derived.Test.YtmjdlofkjjofcaaKitb
import Derived.Test.YtmjdlofkjjofcaaBytes
import Derived.Test.YtmjdlofkjjofcaaInts
import Derived.Test.YtmjdlofkjjofcaaSlices
import Derived.Test.YtmjdlofkjjofcaaPrefixV
import Derived.Test.YtmjdlofkjjofcaaReaderM
import Derived.Test.YtmjdlofkjjofcaaRdMore
import Derived.Test.YtmjdlofkjjofcaaShelf
import Derived.Test.YtmjdlofkjjofcaaTileV
import Derived.Test.YtmjdlofkjjofcaaTile
import Derived.Laws.BitsAllLaws
import Derived.Laws.Rows
import Derived.Deep.QuietTactic
import Derived.BigQuiet
namespace Go.Proofs.Ytmjdlofkjjofcaa
open Go.RowKit
set_option linter.unusedVariables false
set_option linter.unusedSimpArgs false

theorem size_tile (bs : List Nat) (h16 : bs.length = 16) : (Try.prog.info? 71).map (·.size) = some (cellsT bs).size := by
  have h0 : (Try.prog.info? 71).map (·.size) = some 16 := by kernel_rfl
  rw [h0]
  unfold cellsT
  simp [h16]
theorem below_of_alloc {w w' : World} {O : Obj} (b : Below (w.alloc O).heap.size (w.alloc O) w') : Below w.heap.size w w' := ((Below.refl _ w).alloc (Nat.le_refl _) O).trans (b.mono (by simp only [World.size_alloc]; omega))
/-- A tile's bytes. -/
def encT (ns : List Nat) : List UInt8 := ns.flatMap encU
theorem encT_cons (n : Nat) (ns : List Nat) : encT (n :: ns) = encU n ++ encT ns := by unfold encT; rw [List.flatMap_cons]
set_option maxHeartbeats 4000000 in
set_option maxRecDepth 20000 in
theorem tput_any (A : Option Addr) (n c : Nat) (l : List UInt8) (bs : List Nat) (h16 : bs.length = 16) (hb16 : ∀ v ∈ bs, v < 65536) (hn : n = l.length) (w : World) (h : Bs w w.heap.size A l) (hc : n ≤ c ∧ c ≤ 9223372036854775807) (hl : l.length ≤ 140737480000000) :
    Calls Try.prog 51 #[.slice A n c, .agg (cellsT bs)] w (RetBs w (l ++ encT (numsT 0 0 bs))) := by
  have hfl := flat_cells bs
  have HP := Lib.hid (Pt.new w (cellsT bs) 71)
  have HW := Lib.hid (show Below w.heap.size w (w.alloc (.cells (cellsT bs) 71)) from (Below.refl _ _).alloc (Nat.le_refl _) _)
  have HB := Lib.hid h16
  have HV := Lib.hid hb16
  have HL := Lib.hid hl
  have HS := Lib.hid (bs_at h HW.out)
  have HC := Lib.hid hc
  subst hn
  clear h16 hb16 hl h hc
  go_enter Try.func51, Try.ntmps51
  go_wp2_with fail
  clear hfl
  generalize w.alloc (.cells (cellsT bs) 71) = w1 at *
  generalize hP : w.heap.size = P at *
  have HPP := Lib.hid hP
  clear hP
  go_loopw [0, 5, 6] (fun v0 v5 v6 wr => ∃ (y last : Nat) (A' : Option Addr) (c' : Nat) (X : List UInt8), y ≤ 16 ∧ v0 = .slice A' X.length c' ∧ v5 = .int .u16 last ∧ v6 = .int .i64 y ∧ Hid (last < 65536) ∧ Hid (Bs wr wr.heap.size A' X) ∧ Hid (X.length ≤ c' ∧ c' ≤ 9223372036854775807) ∧ Hid (X ++ encT (numsT 0 last (bs.drop y)) = l ++ encT (numsT 0 0 bs)) ∧ Hid (X.length ≤ l.length + 9 * y) ∧ Hid (Below w1.heap.size w1 wr)) (fun _ _ v6 _ => 16 - (intOf v6).toNat)
  case atStart => exact ⟨0, 0, A, c, l, by omega, rfl, rfl, rfl, Lib.hid (by omega), HS, HC, Lib.hid rfl, Lib.hid (by omega), Lib.hid (Below.refl _ _)⟩
  case round =>
    obtain ⟨y, last, A', c', X, hy, rfl, rfl, rfl, hla, hS, hC, hX, hXl, hB⟩ := hrel
    have hPt := HP.out.keep hB.out
    by_cases hlt : y < 16
    · have i1 : (y : Int) < 16 := by omega
      have HPT := Lib.hid hPt
      have HR := Lib.hid (runs_any bs HB.out y last hy wr)
      have hk := runT_le last (bs.drop y)
      rw [List.length_drop, HB.out] at hk
      by_cases hr : runT last (bs.drop y) = 0
      · rw [hr] at HR
        have hdy := List.drop_eq_getElem_cons (show y < bs.length by rw [HB.out]; exact hlt)
        obtain ⟨v, hv⟩ : ∃ v, v = bs.getD y 0 := ⟨_, rfl⟩
        have hv2 : bs[y]'(by rw [HB.out]; exact hlt) = v := by rw [hv, List.getD_eq_getElem?_getD, List.getElem?_eq_getElem (by rw [HB.out]; exact hlt)]; rfl
        rw [hv2] at hdy
        rw [hdy] at hr hX
        obtain ⟨hvl, hn⟩ := nums_row last v _ hr
        rw [hn, encT_cons] at hX
        have hv16 : v < 65536 := HV.out v (by rw [← hv2]; exact List.getElem_mem _)
        have HC2 := Lib.hid fun W (p : Pt W P (cellsT bs) 71) => (p.cell y).trans (cellsT_at bs y (by rw [HB.out]; exact hlt))
        rw [← hv] at HC2
        have hx := u16_xor_nat v last hv16 hla.out
        have hx16 := xor_lt16 hv16 hla.out
        have L1 := Lib.hid fun w => len16_any (v ^^^ last) hx16 w
        have L2 := Lib.hid fun w => len16_any v hv16 w
        have hw1 : IntKind.u64.wrap (v : Int) = v := by rw [show IntKind.u64.wrap (v : Int) = (v : Int) % 18446744073709551616 by first | rfl | simp [IntKind.wrap]]; omega
        have hw2 : IntKind.u64.wrap ((v ^^^ last : Nat) : Int) = ((v ^^^ last : Nat) : Int) := by rw [show IntKind.u64.wrap ((v ^^^ last : Nat) : Int) = ((v ^^^ last : Nat) : Int) % 18446744073709551616 by first | rfl | simp [IntKind.wrap]]; omega
        have hrw : rowN v last = if Lib.bitLen (v ^^^ last) < Lib.bitLen v then 4 * (v ^^^ last) + 2 else 4 * v + 1 := rfl
        have o1 := or_1w v hv16
        have o2 := or_2w (v ^^^ last) hx16
        have hR64 := rowN_lt hv16 hla.out
        have hXl' : X.length ≤ 140737487000000 := by have := hXl.out; have := HL.out; omega
        have hel := encU_length (rowN v last)
        have hsz := sizeU_le (rowN v last)
        generalize rowN v last = N at *
        have hX2 : (X ++ encU N) ++ encT (numsT 0 v (bs.drop (y + 1))) = l ++ encT (numsT 0 0 bs) := by rw [List.append_assoc]; exact hX.out
        have hXl2 : (X ++ encU N).length ≤ l.length + 9 * (y + 1) := by have := hXl.out; rw [List.length_append]; omega
        have HPut := Lib.hid fun W (b : Below wr.heap.size wr W) => put_one A' X.length c' X N rfl (by omega) b hS.out hC.out hXl'
        generalize X ++ encU N = X' at *
        generalize v ^^^ last = d at *
        generalize Lib.bitLen d = D at *
        generalize Lib.bitLen v = V at *
        have HX2 := Lib.hid hX2
        have HXL2 := Lib.hid hXl2
        have HI := Lib.hid (show y + 1 ≤ 16 ∧ 16 - (y + 1) < 16 - y by omega)
        have HV16 := Lib.hid hv16
        have i2 : (0 : Int) ≤ (y : Int) := by omega
        by_cases hD : D < V
        · rw [if_pos hD] at hrw
          have j1 : (D : Int) < (V : Int) := by omega
          rw [← hrw] at o2
          clear hD hrw hr hdy hv hv2 hvl hn hv16 hx16 hR64 hXl' hel hsz hX2 hXl2 hk hlt hy hPt hw1 o1 hX hXl
          go_wp2_with (first | ((with_reducible refine at_dst (N := 13) rfl ?_); refine wpList_load_row rfl 71 (.tmp 3) rfl P rfl 71 (cellsT bs) (0, 0) _ HPT.out Try.underlying71 rfl (size_tile bs HB.out) ?_) | ((go_at_call 87); (with_reducible refine (HR.out).mono ?_); rintro e w2 ⟨rfl, b2⟩; have B2 := Lib.hid b2; clear b2))
          have cq := fun q => HC2.out _ ((HPT.out.keep B2.out).keep (below_dn (Below.refl _ _) q))
          go_quiet (fail)
          have B3 := Lib.hid (below_dn B2.out nq)
          clear cq B2 HR
          generalize w2.drewN nq = w3 at *
          have c3 := HC2.out _ (HPT.out.keep B3.out)
          go_wp2_with (first | ((go_at_call 88); (with_reducible refine (L1.out _).mono ?_); rintro e w' ⟨rfl, rfl⟩) | ((go_at_call 88); (with_reducible refine (L2.out _).mono ?_); rintro e w' ⟨rfl, rfl⟩) | ((go_at_call 42); (with_reducible refine (HPut.out _ B3.out).mono ?_); rintro e w5 ⟨A5, c5, rfl, s5, k5, m5, b5⟩; have S5 := Lib.hid s5; have K5 := Lib.hid (And.intro k5 m5); have B5 := Lib.hid (B3.out.trans ((below_of_alloc b5).mono B3.out.size)); have c5' := HC2.out _ (HPT.out.keep B5.out); clear s5 k5 m5 b5))
          exact ⟨⟨y + 1, v, A5, c5, X', HI.out.1, rfl, rfl, rfl, HV16, S5, K5, HX2, HXL2, Lib.hid (hB.out.trans (B5.out.mono hB.out.size))⟩, HI.out.2⟩
        · rw [if_neg hD] at hrw
          have j1 : ¬ (D : Int) < (V : Int) := by omega
          rw [← hrw] at o1
          clear hD hrw hr hdy hv hv2 hvl hn hv16 hx16 hR64 hXl' hel hsz hX2 hXl2 hk hlt hy hPt hw2 o2 hX hXl
          go_wp2_with (first | ((with_reducible refine at_dst (N := 13) rfl ?_); refine wpList_load_row rfl 71 (.tmp 3) rfl P rfl 71 (cellsT bs) (0, 0) _ HPT.out Try.underlying71 rfl (size_tile bs HB.out) ?_) | ((go_at_call 87); (with_reducible refine (HR.out).mono ?_); rintro e w2 ⟨rfl, b2⟩; have B2 := Lib.hid b2; clear b2))
          have cq := fun q => HC2.out _ ((HPT.out.keep B2.out).keep (below_dn (Below.refl _ _) q))
          go_quiet (fail)
          have B3 := Lib.hid (below_dn B2.out nq)
          clear cq B2 HR
          generalize w2.drewN nq = w3 at *
          have c3 := HC2.out _ (HPT.out.keep B3.out)
          go_wp2_with (first | ((go_at_call 88); (with_reducible refine (L1.out _).mono ?_); rintro e w' ⟨rfl, rfl⟩) | ((go_at_call 88); (with_reducible refine (L2.out _).mono ?_); rintro e w' ⟨rfl, rfl⟩) | ((go_at_call 42); (with_reducible refine (HPut.out _ B3.out).mono ?_); rintro e w5 ⟨A5, c5, rfl, s5, k5, m5, b5⟩; have S5 := Lib.hid s5; have K5 := Lib.hid (And.intro k5 m5); have B5 := Lib.hid (B3.out.trans ((below_of_alloc b5).mono B3.out.size)); have c5' := HC2.out _ (HPT.out.keep B5.out); clear s5 k5 m5 b5))
          exact ⟨⟨y + 1, v, A5, c5, X', HI.out.1, rfl, rfl, rfl, HV16, S5, K5, HX2, HXL2, Lib.hid (hB.out.trans (B5.out.mono hB.out.size))⟩, HI.out.2⟩
      · have hp : 0 < runT last (bs.drop y) := by omega
        have hn := nums_pos last (bs.drop y) hp
        rw [List.drop_drop] at hn
        generalize hkk : runT last (bs.drop y) = k at *
        have hn4 : k < 65536 := by omega
        have hwk : IntKind.u64.wrap (k : Int) = (k : Int) := by rw [show IntKind.u64.wrap (k : Int) = (k : Int) % 18446744073709551616 by first | rfl | simp [IntKind.wrap]]; omega
        obtain ⟨N, hN⟩ : ∃ N, N = 4 * k := ⟨_, rfl⟩
        rw [← hN] at hn
        rw [hn, encT_cons] at hX
        have hor : bits BinOp.or IntKind.u64 ((k : Int) * 4) 0 = (N : Int) := by
          rw [hN, show ((k : Int) * 4) = ((4 * k : Nat) : Int) by omega, show (0 : Int) = ((0 : Nat) : Int) from rfl, u64_or_nat _ _ (by omega) (by omega), Nat.or_zero]
        have hXl' : X.length ≤ 140737487000000 := by have := hXl.out; have := HL.out; omega
        have hel := encU_length N
        have hsz := sizeU_le N
        have hX2 : (X ++ encU N) ++ encT (numsT 0 last (bs.drop (y + k))) = l ++ encT (numsT 0 0 bs) := by rw [List.append_assoc]; exact hX.out
        have hXl2 : (X ++ encU N).length ≤ l.length + 9 * (y + k) := by have := hXl.out; rw [List.length_append]; omega
        have HPut := Lib.hid fun W (b : Below wr.heap.size wr W) => put_one A' X.length c' X N rfl (by omega) b hS.out hC.out hXl'
        generalize X ++ encU N = X' at *
        have HX2 := Lib.hid hX2
        have HXL2 := Lib.hid hXl2
        have HI := Lib.hid (show y + k ≤ 16 ∧ 16 - (y + k) < 16 - y by omega)
        have i3 : (0 : Int) < (k : Int) := by omega
        have i4 : (y : Int) + (k : Int) ≤ 16 := by omega
        clear hkk hr hp hN hXl' hel hsz hX2 hXl2 hk hlt hy hPt hX hXl hn4 hn
        go_wp2_with (first | ((with_reducible refine at_dst (N := 13) rfl ?_); refine wpList_load_row rfl 71 (.tmp 3) rfl P rfl 71 (cellsT bs) (0, 0) _ HPT.out Try.underlying71 rfl (size_tile bs HB.out) ?_) | ((go_at_call 87); (with_reducible refine (HR.out).mono ?_); rintro e w2 ⟨rfl, b2⟩; have B2 := Lib.hid b2; clear b2) | ((go_at_call 42); (with_reducible refine (HPut.out _ B2.out).mono ?_); rintro e w5 ⟨A5, c5, rfl, s5, k5, m5, b5⟩; have S5 := Lib.hid s5; have K5 := Lib.hid (And.intro k5 m5); have B5 := Lib.hid (B2.out.trans ((below_of_alloc b5).mono B2.out.size)); clear s5 k5 m5 b5))
        exact ⟨⟨y + k, last, A5, c5, X', HI.out.1, rfl, rfl, rfl, hla, S5, K5, HX2, HXL2, Lib.hid (hB.out.trans (B5.out.mono hB.out.size))⟩, HI.out.2⟩
    · obtain rfl : y = 16 := by omega
      have hd : bs.drop 16 = [] := List.drop_eq_nil_of_le (by rw [HB.out]; exact Nat.le_refl _)
      rw [hd] at hX
      have hXe : X = l ++ encT (numsT 0 0 bs) := by
        have := hX.out
        rw [← this]
        simp [numsT, encT]
      have HXE := Lib.hid hXe
      clear hXe hd hlt
      go_wp2_with fail
      go_ret
      obtain rfl := HXE.out
      obtain rfl := HPP.out
      exact ⟨A', c', rfl, hS.out, hC.out.1, hC.out.2, HW.out.trans (hB.out.mono HW.out.size)⟩
end Go.Proofs.Ytmjdlofkjjofcaa

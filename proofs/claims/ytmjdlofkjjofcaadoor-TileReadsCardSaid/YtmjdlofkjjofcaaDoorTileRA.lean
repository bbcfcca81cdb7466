/- TileReads where there is a tile. -/
import Derived.Test.YtmjdlofkjjofcaaDoorProg
import Derived.Test.YtmjdlofkjjofcaaDoorKit
import Derived.Test.YtmjdlofkjjofcaaDoorKitb
import Derived.Test.YtmjdlofkjjofcaaDoorBytes
import Derived.Test.YtmjdlofkjjofcaaDoorOnly
import Derived.Test.YtmjdlofkjjofcaaDoorInts
import Derived.Test.YtmjdlofkjjofcaaDoorErr
import Derived.Test.YtmjdlofkjjofcaaDoorFault
import Derived.Test.YtmjdlofkjjofcaaDoorStr
import Derived.Test.YtmjdlofkjjofcaaDoorPrefixV
import Derived.Test.YtmjdlofkjjofcaaDoorReader
import Derived.Test.YtmjdlofkjjofcaaDoorReaderM
import Derived.Test.YtmjdlofkjjofcaaDoorRdMore
import Derived.Test.YtmjdlofkjjofcaaDoorRefRd
import Derived.Test.YtmjdlofkjjofcaaDoorTileV
import Derived.Test.YtmjdlofkjjofcaaDoorTile
import Derived.Test.YtmjdlofkjjofcaaDoorTileP
import Derived.Test.YtmjdlofkjjofcaaDoorTileG
import Derived.Test.YtmjdlofkjjofcaaDoorTileL
import Derived.Test.YtmjdlofkjjofcaaDoorTileRG
import Derived.Test.YtmjdlofkjjofcaaDoorTileEq
import Derived.Test.YtmjdlofkjjofcaaDoorAs
import Derived.Test.YtmjdlofkjjofcaaDoorAsE
import Derived.Test.YtmjdlofkjjofcaaDoorTileRC
import Derived.Deep.QuietTactic
import Derived.BigQuiet
import Derived.Deep.RegionWith
import Derived.Deep.DeepCutAuto
import Derived.Deep.WholeRow
import Derived.Deep.DrawnRows
namespace Go.Proofs.YtmjdlofkjjofcaaDoor
open Go.RowKit
set_option linter.unusedVariables false
set_option linter.unusedSimpArgs false

attribute [local go_sem ↓] Go.wp_at_zero Go.wp_at_succ
set_option maxHeartbeats 40000000 in
set_option maxRecDepth 20000 in
theorem tileReads_ok (A : Option Addr) (c : Nat) (l : List UInt8) (rows : List Nat) (to_ : Nat) (w : World) (h : Bs w w.heap.size A l) (hc : l.length ≤ c ∧ c ≤ 4611686018427387904) (hl : l.length ≤ 300) (hg : HT w)
    (ho : getT l 16 0 [] 0 true = .ok rows to_) :
    Calls Tryd.prog 4 #[.slice A l.length c] w fun e w' => e = .returned (.bool true) ∧ Below w.heap.size w w' := by
  obtain ⟨add, h1, h16, hv, h4, h5, h6, h7⟩ := nums_get l 16 0 [] 0 true rows to_ ho (by decide) (by decide) (Nat.zero_le _) (by decide) (by simp)
  simp only [List.nil_append] at h1
  subst h1
  simp only [List.drop_zero, Nat.sub_zero] at h7
  have H := Lib.hid h
  have HC := Lib.hid hc
  have HL := Lib.hid hl
  have H16 := Lib.hid h16
  have HV := Lib.hid hv
  have HTO := Lib.hid h5
  have H7 := Lib.hid h7
  have g1 : decide ((l.length : Int) > 300) = false := decide_eq_false (by omega)
  have HRd := Lib.hid fun W (b : Below w.heap.size w W) => read_any A l.length c l rfl W (bs_at h b) (by omega)
  have HG := Lib.hid fun (W : World) (P : Nat) (r : Rd W P l 0 .nil) => (by
    have := tget_any P l 0 W r (by omega)
    rw [ho] at this
    exact this : Calls Tryd.prog 23 #[.pointer (some ⟨P, 0, none⟩)] W (GotT P l W (.ok rows to_)))
  have HGR := Lib.hid fun (W : World) (M : Nat) (r : RM W M A c l 0 0 0) => (by
    have := rget_any M A c l 0 0 W r
    rw [ho] at this
    exact this : Calls Tryd.prog 24 #[.pointer (some ⟨M, 0, none⟩)] W (GotR M A c l 0 W (.ok rows to_)))
  unfold GotT at HG
  unfold GotR at HGR
  simp only at HG HGR
  have HCode := Lib.hid fun (W : World) (b : Below w.heap.size w W) => code_any .nil .nilIface W (hg.keep b) rfl
  have nq1 := fun w => neq_same (P := Tryd.prog) Tryd.underlying46 Tryd.underlying30 Tryd.isAgg30 Tryd.sizeOf30 rows h16 w
  have qg := qg_tile
  clear h hc hl h16 hv h4 h5 h6 h7 ho hg
  go_enter Tryd.func4, Tryd.ntmps4
  go_upto_region 7 with (first | ((go_at_call 22); (with_reducible refine (lives15_any _).mono ?_); rintro e w1 ⟨rfl, b1⟩; have B1 := Lib.hid b1; clear b1) | ((go_at_call 9); (with_reducible refine (HRd.out _ B1.out).mono ?_); rintro e w2 ⟨⟨P, rfl, r2, z2⟩, b2⟩; have B2 := Lib.hid (b_next B1.out b2); have R2 := Lib.hid r2; have Z2 := Lib.hid (Nat.le_trans B1.out.size z2); clear r2 z2 b2) | ((go_at_call 23); (with_reducible refine (HG.out _ P R2.out).mono ?_); rintro e w3 ⟨o3, rfl, r3⟩; have B3 := Lib.hid (B2.out.trans (o3.below Z2.out B2.out.size)); have R3 := Lib.hid r3; clear r3 o3) | (refine wpList_store_tile rfl 43 (.tmp 4) (.tmp 24) rfl w3.heap.size zeroT rows rfl rfl 43 (Pt.new w3 _ _) (by rw [H16.out]; rfl) (size_tile rows H16.out) ?_; rw [World.setRow_alloc_new]; have B4 := Lib.hid (B3.out.alloc B3.out.size (.cells (cellsT rows) 43)); have RM4 := Lib.hid (box_rm' (w3.alloc (.cells (cellsT rows) 43)) (w3.heap.size + 1) (by simp only [World.size_alloc]) A c l (bs_at H.out B4.out) HC.out); have HM4 := Lib.hid (HGR.out _ _ RM4.out)) | ((go_at_call 24); (with_reducible refine (HM4.out).mono ?_); rintro e w5 ⟨o5, rfl, r5⟩; have O5 := Lib.hid o5; have R5 := Lib.hid r5; clear o5 r5) | (refine wpList_store_tile rfl 46 (.tmp 7) (.tmp 32) rfl w5.heap.size zeroT rows rfl rfl 46 (Pt.new w5 _ _) (by rw [H16.out]; rfl) (size_tileR rows H16.out) ?_; rw [World.setRow_alloc_new]))
  have hlt : P < w3.heap.size := R3.out.lt
  have hB5 : Below w.heap.size w w5 := (B4.out.alloc B4.out.size _).trans (O5.out.below (Nat.le_succ_of_le B3.out.size) (by simp only [World.size_alloc]; have := B3.out.size; omega))
  have hX5 : Pt w5 w3.heap.size (cellsT rows) 43 := ((Pt.new w3 _ _).alloc _).only O5.out (by omega)
  have hR5 : Rd w5 P l to_ .nil := ((R3.out.only ((Below.refl _ _).alloc (Nat.le_refl _) _)).only ((Below.refl _ _).alloc (Nat.le_refl _) _)).beside RM4.out.1 (rm_cells _ _ _ _ _ _) (rm_st _ _ _ _ _ _) O5.out (by omega)
  have hb6 : Below w5.heap.size w5 (w5.alloc (.cells (cellsT rows) 46)) := (Below.refl _ _).alloc (Nat.le_refl _) _
  have B6 := Lib.hid (b_next hB5 hb6)
  have X6 := Lib.hid (hX5.keep hb6)
  have Y6 := Lib.hid (show Pt (w5.alloc (.cells (cellsT rows) 46)) w5.heap.size (cellsT rows) 46 from Pt.new _ _ _)
  have R6 := Lib.hid (hR5.only hb6)
  have M6 := Lib.hid (R5.out.keep hb6)
  clear hB5 hX5 hR5 hb6 RM4 HM4 O5 R5 R3 B4 B3 R2 B2 B1 Z2 HRd HG HGR hlt
  generalize w5.alloc (.cells (cellsT rows) 46) = w6 at *
  generalize w5.heap.size = Y at *
  generalize w3.heap.size + 1 = M at *
  generalize w3.heap.size = X at *
  go_upto_region 10 with (first | ((with_reducible refine at_dst (N := 35) rfl ?_); refine wpList_load_row rfl 43 (.tmp 4) rfl X rfl 43 (cellsT rows) (0, 0) _ X6.out Tryd.underlying43 rfl (size_tile rows H16.out) ?_) | ((with_reducible refine at_dst (N := 36) rfl ?_); refine wpList_load_row rfl 46 (.tmp 7) rfl Y rfl 46 (cellsT rows) (0, 0) _ Y6.out Tryd.underlying46 rfl (size_tileR rows H16.out) ?_) | ((go_at_call 25); (with_reducible refine (HCode.out _ B6.out).mono ?_); rintro e w7 ⟨rfl, b7⟩; have B7 := Lib.hid (b_next B6.out b7); have R7 := Lib.hid (R6.out.only b7); have M7 := Lib.hid (M6.out.keep b7); have X7 := Lib.hid (X6.out.keep b7); clear b7))
  obtain ⟨a0, a1, a2, a3, a4, a5, a6, a7, a8, a9, a10, a11, a12, a13, a14, a15, hrows⟩ := list16 rows H16.out
  subst hrows
  have hcl : cellsT [a0, a1, a2, a3, a4, a5, a6, a7, a8, a9, a10, a11, a12, a13, a14, a15] = #[Value.int .u16 ((a0 : Nat) : Int), Value.int .u16 ((a1 : Nat) : Int), Value.int .u16 ((a2 : Nat) : Int), Value.int .u16 ((a3 : Nat) : Int), Value.int .u16 ((a4 : Nat) : Int), Value.int .u16 ((a5 : Nat) : Int), Value.int .u16 ((a6 : Nat) : Int), Value.int .u16 ((a7 : Nat) : Int), Value.int .u16 ((a8 : Nat) : Int), Value.int .u16 ((a9 : Nat) : Int), Value.int .u16 ((a10 : Nat) : Int), Value.int .u16 ((a11 : Nat) : Int), Value.int .u16 ((a12 : Nat) : Int), Value.int .u16 ((a13 : Nat) : Int), Value.int .u16 ((a14 : Nat) : Int), Value.int .u16 ((a15 : Nat) : Int)] := rfl
  obtain ⟨L, hL⟩ : ∃ L, L = l.take to_ := ⟨_, rfl⟩
  have hlen : to_ = L.length := by rw [hL, List.length_take]; have := HTO.out; omega
  have hBL : Bs w7 w7.heap.size A L := by rw [hL]; exact (bs_at H.out B7.out).take to_
  have hcv0 := conv_below Tryd.prog 22 9 5 Tryd.underlying22 Tryd.underlying5 Tryd.underlying9 A to_ c L hlen hBL
  have hcv1 := fun (A' : Option Addr) (c' : Nat) => conv_holds Tryd.prog 22 9 5 Tryd.underlying22 Tryd.underlying5 Tryd.underlying9 A' L.length c' L rfl
  have HPut := Lib.hid fun (W : World) => (by
    have := tput_any none 0 0 [] _ H16.out HV.out rfl W (Or.inl rfl) (by omega) (by decide)
    rw [hcl, List.nil_append, show encT (numsT 0 0 [a0, a1, a2, a3, a4, a5, a6, a7, a8, a9, a10, a11, a12, a13, a14, a15]) = L by rw [hL]; exact H7.out.symm] at this
    exact this : Calls Tryd.prog 26 #[.slice none 0 0, .agg #[Value.int .u16 ((a0 : Nat) : Int), Value.int .u16 ((a1 : Nat) : Int), Value.int .u16 ((a2 : Nat) : Int), Value.int .u16 ((a3 : Nat) : Int), Value.int .u16 ((a4 : Nat) : Int), Value.int .u16 ((a5 : Nat) : Int), Value.int .u16 ((a6 : Nat) : Int), Value.int .u16 ((a7 : Nat) : Int), Value.int .u16 ((a8 : Nat) : Int), Value.int .u16 ((a9 : Nat) : Int), Value.int .u16 ((a10 : Nat) : Int), Value.int .u16 ((a11 : Nat) : Int), Value.int .u16 ((a12 : Nat) : Int), Value.int .u16 ((a13 : Nat) : Int), Value.int .u16 ((a14 : Nat) : Int), Value.int .u16 ((a15 : Nat) : Int)]] W (RetBs W L))
  have hX7 := X7.out.cell
  rw [hcl] at hX7
  have cX : ∀ W, Below w7.heap.size w7 W → ∀ o, W.cell? ⟨X, o, none⟩ = (#[Value.int .u16 ((a0 : Nat) : Int), Value.int .u16 ((a1 : Nat) : Int), Value.int .u16 ((a2 : Nat) : Int), Value.int .u16 ((a3 : Nat) : Int), Value.int .u16 ((a4 : Nat) : Int), Value.int .u16 ((a5 : Nat) : Int), Value.int .u16 ((a6 : Nat) : Int), Value.int .u16 ((a7 : Nat) : Int), Value.int .u16 ((a8 : Nat) : Int), Value.int .u16 ((a9 : Nat) : Int), Value.int .u16 ((a10 : Nat) : Int), Value.int .u16 ((a11 : Nat) : Int), Value.int .u16 ((a12 : Nat) : Int), Value.int .u16 ((a13 : Nat) : Int), Value.int .u16 ((a14 : Nat) : Int), Value.int .u16 ((a15 : Nat) : Int)] : Array Value)[o]? := fun W b o => (b.cell (p := ⟨X, o, none⟩) X7.out.lt).trans (hX7 o)
  have cM : ∀ W, Below w7.heap.size w7 W → W.cell? ⟨M, 1, none⟩ = some (.int .i64 to_) := fun W b => (b.cell (p := ⟨M, 1, none⟩) M7.out.1.lt).trans (M7.out.1.cell 1)
  have hi1 : IntKind.i64.wrap ((l.length : Int) - (to_ : Int)) = (l.length : Int) - (to_ : Int) := by have := HTO.out; have := HL.out; rw [i64_w, w64 (by omega) (by omega)]
  have hk0 : (0 : Int) ≤ to_ := by omega
  have hkc : (to_ : Int) ≤ c := by have := HTO.out; have := HC.out; omega
  have hLl : l.length ≤ 4611686018427387904 := by have := HL.out; omega
  have HLl := Lib.hid hLl
  clear hX7 hBL hlen hL hcl nq1 qg H7 H16 HV hLl X6 Y6 R6 M6 B6
  have hdr : ∀ W n, Below w7.heap.size w7 W → Below w7.heap.size w7 (W.drewN n) := fun W n h => below_dn h n
  have hd1 : ∀ W, Below w7.heap.size w7 W → Below w7.heap.size w7 W.drew := fun W h => h.drew
  have hB7 := Below.refl w7.heap.size w7
  go_region_with (first | ((go_at_call 18); (with_reducible refine (left_any P l to_ .nil _ (R7.out.only (by (repeat' (first | (with_reducible exact Below.refl _ _) | (with_reducible assumption) | (with_reducible refine Below.setCell ?_ ?_ _) | (with_reducible refine Below.alloc ?_ ?_ _) | (with_reducible refine below_dn ?_ _) | (with_reducible refine below_call ?_ ?_ (by assumption)) | (with_reducible refine Below.drew ?_) | go_size)))) HLl.out).mono ?_); rintro e w' ⟨rfl, q, rfl⟩; (try have hh5 := hh4.drewN q)) | ((go_at_call 26); (with_reducible refine (HPut.out _).mono ?_); rintro e w8 ⟨A8, c8, rfl, s8, _, _, b8⟩; have hh4 : Holds w8 A8 L := s8; have hbw : Below w7.heap.size w7 w8 := b_next (by (repeat' (first | (with_reducible exact Below.refl _ _) | (with_reducible assumption) | (with_reducible refine Below.setCell ?_ ?_ _) | (with_reducible refine Below.alloc ?_ ?_ _) | (with_reducible refine below_dn ?_ _) | (with_reducible refine below_call ?_ ?_ (by assumption)) | (with_reducible refine Below.drew ?_) | go_size))) b8))
  all_goals (try go_wp2_with fail)
  all_goals go_ret
  all_goals exact ⟨ret_bool (by first | rfl | simp), b_next B7.out (by (repeat' (first | (with_reducible exact Below.refl _ _) | (with_reducible assumption) | (with_reducible refine Below.setCell ?_ ?_ _) | (with_reducible refine Below.alloc ?_ ?_ _) | (with_reducible refine below_dn ?_ _) | (with_reducible refine below_call ?_ ?_ (by assumption)) | (with_reducible refine Below.drew ?_) | go_size)))⟩
end Go.Proofs.YtmjdlofkjjofcaaDoor

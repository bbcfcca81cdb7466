/- TileReads where there is none. -/
import Derived.Test.YtmjdlofkjjofcaaDoorProg
import Derived.Test.YtmjdlofkjjofcaaDoorKit
import Derived.Test.YtmjdlofkjjofcaaDoorKitb
import Derived.Test.YtmjdlofkjjofcaaDoorBytes
import Derived.Test.YtmjdlofkjjofcaaDoorOnly
import Derived.Test.YtmjdlofkjjofcaaDoorInts
import Derived.Test.YtmjdlofkjjofcaaDoorErr
import Derived.Test.YtmjdlofkjjofcaaDoorFault
import Derived.Test.YtmjdlofkjjofcaaDoorStr
import Derived.Test.YtmjdlofkjjofcaaDoorPrefixV
import Derived.Test.YtmjdlofkjjofcaaDoorReader
import Derived.Test.YtmjdlofkjjofcaaDoorReaderM
import Derived.Test.YtmjdlofkjjofcaaDoorRdMore
import Derived.Test.YtmjdlofkjjofcaaDoorRefRd
import Derived.Test.YtmjdlofkjjofcaaDoorTileV
import Derived.Test.YtmjdlofkjjofcaaDoorTile
import Derived.Test.YtmjdlofkjjofcaaDoorTileP
import Derived.Test.YtmjdlofkjjofcaaDoorTileG
import Derived.Test.YtmjdlofkjjofcaaDoorTileL
import Derived.Test.YtmjdlofkjjofcaaDoorTileRG
import Derived.Test.YtmjdlofkjjofcaaDoorTileEq
import Derived.Test.YtmjdlofkjjofcaaDoorAs
import Derived.Test.YtmjdlofkjjofcaaDoorAsE
import Derived.Test.YtmjdlofkjjofcaaDoorTileRC
import Derived.Deep.QuietTactic
import Derived.BigQuiet
import Derived.Deep.RegionWith
import Derived.Deep.DeepCutAuto
import Derived.Deep.WholeRow
import Derived.Deep.DrawnRows
namespace Go.Proofs.YtmjdlofkjjofcaaDoor
open Go.RowKit
set_option linter.unusedVariables false
set_option linter.unusedSimpArgs false

theorem getT_read (l : List UInt8) : ∀ (f at_ : Nat) (rows : List Nat) (last : Nat) (fresh : Bool) (E a : Nat), getT l f at_ rows last fresh = .read E a → E = 2 ∨ E = 3 ∨ E = 5
  | 0, _, _, _, _, _, _, h => by cases h
  | f + 1, at_, rows, last, fresh, E, a, h => by
    unfold getT at h
    by_cases hl : 16 ≤ rows.length
    · rw [if_pos hl] at h; cases h
    · rw [if_neg hl] at h
      cases hd : decU (l.drop at_) with
      | cut => rw [hd] at h; injection h with h1 h2; omega
      | form => rw [hd] at h; injection h with h1 h2; omega
      | ok n k =>
        rw [hd] at h
        simp only at h
        by_cases hn : 262143 < n
        · rw [if_pos hn] at h; injection h with h1 h2; omega
        · rw [if_neg hn] at h
          cases hs : stepT rows.length last fresh n with
          | none => rw [hs] at h; cases h
          | some q =>
            obtain ⟨add, last', fresh'⟩ := q
            rw [hs] at h
            exact getT_read l f _ _ _ _ E a h
set_option maxHeartbeats 4000000 in
set_option maxRecDepth 20000 in
theorem tileReads_read (A : Option Addr) (c : Nat) (l : List UInt8) (E a : Nat) (w : World) (h : Bs w w.heap.size A l) (hc : l.length ≤ c ∧ c ≤ 4611686018427387904) (hl : l.length ≤ 300) (hg : HT w)
    (ho : getT l 16 0 [] 0 true = .read E a) (hE : E = 2 ∨ E = 3 ∨ E = 5) :
    Calls Tryd.prog 4 #[.slice A l.length c] w fun e w' => e = .returned (.bool true) ∧ Below w.heap.size w w' := by
  have H := Lib.hid h
  have HC := Lib.hid hc
  have g1 : decide ((l.length : Int) > 300) = false := decide_eq_false (by omega)
  have HRd := Lib.hid fun W (b : Below w.heap.size w W) => read_any A l.length c l rfl W (bs_at h b) (by omega)
  have HG := Lib.hid fun (W : World) (P : Nat) (r : Rd W P l 0 .nil) => (by
    have := tget_any P l 0 W r (by omega)
    rw [ho] at this
    exact this : Calls Tryd.prog 23 #[.pointer (some ⟨P, 0, none⟩)] W (GotT P l W (.read E a)))
  have HGR := Lib.hid fun (W : World) (M : Nat) (r : RM W M A c l 0 0 0) => (by
    have := rget_any M A c l 0 0 W r
    rw [ho] at this
    exact this : Calls Tryd.prog 24 #[.pointer (some ⟨M, 0, none⟩)] W (GotR M A c l 0 W (.read E a)))
  unfold GotT at HG
  unfold GotR at HGR
  simp only at HG HGR
  have HCode := Lib.hid fun (W : World) (v : Value) (b : Below w.heap.size w W) (k : EV W (.fault byteS (a : Nat) (.num (E : Nat))) v) => code_any _ v W (hg.keep b) k
  have HT0 := Lib.hid hg
  have nq1 := fun w => neq_same (P := Tryd.prog) Tryd.underlying46 Tryd.underlying30 Tryd.isAgg30 Tryd.sizeOf30 zeroT rfl w
  have qg := qg_tile
  have hcode : codeE (.fault byteS a (.num E)) = (E : Int) := rfl
  have e0 : ((E : Int) == 0) = false := by rw [beq_eq_false_iff_ne]; omega
  have e1 : ((E : Int) != (E : Int)) = false := by simp
  clear hE
  clear h hc hl ho hg
  go_enter Tryd.func4, Tryd.ntmps4
  go_upto_region 7 with (first | ((go_at_call 22); (with_reducible refine (lives15_any _).mono ?_); rintro e w1 ⟨rfl, b1⟩; have B1 := Lib.hid b1; clear b1) | ((go_at_call 9); (with_reducible refine (HRd.out _ B1.out).mono ?_); rintro e w2 ⟨⟨P, rfl, r2, z2⟩, b2⟩; have B2 := Lib.hid (b_next B1.out b2); have R2 := Lib.hid r2; have Z2 := Lib.hid (Nat.le_trans B1.out.size z2); clear r2 z2 b2) | ((go_at_call 23); (with_reducible refine (HG.out _ P R2.out).mono ?_); rintro e w3 ⟨o3, ve, rfl, ⟨eb, vi, rfl, ep, ei⟩, r3⟩; have B3 := Lib.hid (B2.out.trans (o3.below Z2.out B2.out.size)); have R3 := Lib.hid r3; have EP := Lib.hid ep; have EI := Lib.hid ei; clear r3 o3 ep ei) | (refine wpList_store_tile rfl 43 (.tmp 4) (.tmp 24) rfl w3.heap.size zeroT zeroT rfl rfl 43 (Pt.new w3 _ _) rfl (size_tile zeroT rfl) ?_; rw [World.setRow_alloc_new]; have B4 := Lib.hid (B3.out.alloc B3.out.size (.cells (cellsT zeroT) 43)); have RM4 := Lib.hid (box_rm' (w3.alloc (.cells (cellsT zeroT) 43)) (w3.heap.size + 1) (by simp only [World.size_alloc]) A c l (bs_at H.out B4.out) HC.out); have HM4 := Lib.hid (HGR.out _ _ RM4.out)) | ((go_at_call 24); (with_reducible refine (HM4.out).mono ?_); rintro e w5 ⟨o5, rfl, r5⟩; have O5 := Lib.hid o5; have R5 := Lib.hid r5; clear o5 r5) | (refine wpList_store_tile rfl 46 (.tmp 7) (.tmp 32) rfl w5.heap.size zeroT zeroT rfl rfl 46 (Pt.new w5 _ _) rfl (size_tileR zeroT rfl) ?_; rw [World.setRow_alloc_new]))
  have hB5 : Below w.heap.size w w5 := (B4.out.alloc B4.out.size _).trans (O5.out.below (Nat.le_succ_of_le B3.out.size) (by simp only [World.size_alloc]; have := B3.out.size; omega))
  have hX5 : Pt w5 w3.heap.size (cellsT zeroT) 43 := ((Pt.new w3 _ _).alloc _).only O5.out (by omega)
  have hE5 : Pt w5 eb #[.string byteS, .int .i64 (a : Nat), vi] 56 := ((EP.out.alloc _).alloc _).only O5.out (by have := EP.out.lt; omega)
  have hI5 : vi = .iface 49 (.int .i64 ((E : Nat))) := EI.out
  have hb6 : Below w5.heap.size w5 (w5.alloc (.cells (cellsT zeroT) 46)) := (Below.refl _ _).alloc (Nat.le_refl _) _
  have B6 := Lib.hid (b_next hB5 hb6)
  have X6 := Lib.hid (hX5.keep hb6)
  have Y6 := Lib.hid (show Pt (w5.alloc (.cells (cellsT zeroT) 46)) w5.heap.size (cellsT zeroT) 46 from Pt.new _ _ _)
  have E6 := Lib.hid (hE5.keep hb6)
  have M6 := Lib.hid (R5.out.keep hb6)
  subst hI5
  clear hB5 hX5 hE5 hb6 RM4 HM4 O5 R5 R3 B4 B3 R2 B2 B1 Z2 HRd HG HGR EP EI
  generalize w5.alloc (.cells (cellsT zeroT) 46) = w6 at *
  generalize w5.heap.size = Y at *
  generalize w3.heap.size + 1 = M at *
  generalize w3.heap.size = X at *
  have V6 := Lib.hid (show EV w6 (.fault byteS (a : Nat) (.num (E : Nat))) (.iface 52 (.pointer (some ⟨eb, 0, none⟩))) from ⟨eb, _, rfl, E6.out, rfl⟩)
  go_upto_region 11 with (first | ((with_reducible refine at_dst (N := 35) rfl ?_); refine wpList_load_row rfl 43 (.tmp 4) rfl X rfl 43 (cellsT zeroT) (0, 0) _ X6.out Tryd.underlying43 rfl (size_tile zeroT rfl) ?_) | ((with_reducible refine at_dst (N := 36) rfl ?_); refine wpList_load_row rfl 46 (.tmp 7) rfl Y rfl 46 (cellsT zeroT) (0, 0) _ Y6.out Tryd.underlying46 rfl (size_tileR zeroT rfl) ?_) | ((go_at_call 25); (with_reducible refine (HCode.out _ _ B6.out V6.out).mono ?_); rintro e w7 ⟨rfl, b7⟩; rw [hcode]; have B7 := Lib.hid (b_next B6.out b7); have E7 := Lib.hid (E6.out.keep b7); have M7 := Lib.hid (M6.out.keep b7); clear b7))
  have B8 := Lib.hid (B7.out.alloc B7.out.size (.cells #[.pointer none] 52))
  have HAs := Lib.hid (as_fault_ff ⟨eb, 0, none⟩ w7.heap.size (.pointer none) (w7.alloc (.cells #[.pointer none] 52)) (HT0.out.keep B8.out) (Pt.new _ _ _))
  have hlt1 := E7.out.lt
  have hlt2 := M7.out.lt
  have E8 := Lib.hid (E7.out.alloc (.cells #[.pointer none] 52))
  have M8 := Lib.hid (M7.out.1.alloc (.cells #[.pointer none] 52))
  go_upto_region 14 with ((go_at_call 27); (with_reducible refine (HAs.out).mono ?_); rintro e w9 ⟨rfl, p9, o9⟩; have P9 := Lib.hid p9; have E9 := Lib.hid (E8.out.only o9 (by omega)); have M9 := Lib.hid (M8.out.only o9 (by omega)); have B9 := Lib.hid (B8.out.trans (o9.below B7.out.size B8.out.size)); clear p9 o9)
  have c1 := P9.out.cell
  have c2 := E9.out.cell
  have c3 := M9.out.cell
  clear HAs nq1 qg
  go_quiet (fail)
  go_wp2_with fail
  go_ret
  exact ⟨ret_bool (by first | rfl | simp), below_dn B9.out nq⟩
set_option maxHeartbeats 4000000 in
set_option maxRecDepth 20000 in
theorem tileReads_row (A : Option Addr) (c : Nat) (l : List UInt8) (y a : Nat) (w : World) (h : Bs w w.heap.size A l) (hc : l.length ≤ c ∧ c ≤ 4611686018427387904) (hl : l.length ≤ 300) (hg : HT w)
    (ho : getT l 16 0 [] 0 true = .row y a) :
    Calls Tryd.prog 4 #[.slice A l.length c] w fun e w' => e = .returned (.bool true) ∧ Below w.heap.size w w' := by
  have H := Lib.hid h
  have HC := Lib.hid hc
  have g1 : decide ((l.length : Int) > 300) = false := decide_eq_false (by omega)
  have HRd := Lib.hid fun W (b : Below w.heap.size w W) => read_any A l.length c l rfl W (bs_at h b) (by omega)
  have HG := Lib.hid fun (W : World) (P : Nat) (r : Rd W P l 0 .nil) => (by
    have := tget_any P l 0 W r (by omega)
    rw [ho] at this
    exact this : Calls Tryd.prog 23 #[.pointer (some ⟨P, 0, none⟩)] W (GotT P l W (.row y a)))
  have HGR := Lib.hid fun (W : World) (M : Nat) (r : RM W M A c l 0 0 0) => (by
    have := rget_any M A c l 0 0 W r
    rw [ho] at this
    exact this : Calls Tryd.prog 24 #[.pointer (some ⟨M, 0, none⟩)] W (GotR M A c l 0 W (.row y a)))
  unfold GotT at HG
  unfold GotR at HGR
  simp only at HG HGR
  have HCode := Lib.hid fun (W : World) (v : Value) (b : Below w.heap.size w W) (k : EV W (.fault rowS (y : Nat) (.num 3)) v) => code_any _ v W (hg.keep b) k
  have HT0 := Lib.hid hg
  have nq1 := fun w => neq_same (P := Tryd.prog) Tryd.underlying46 Tryd.underlying30 Tryd.isAgg30 Tryd.sizeOf30 zeroT rfl w
  have qg := qg_tile
  have hcode : codeE (.fault rowS y (.num 3)) = (3 : Int) := rfl
  have e2 : (0 : Int) ≤ (y : Int) := by omega
  clear h hc hl ho hg
  go_enter Tryd.func4, Tryd.ntmps4
  go_upto_region 7 with (first | ((go_at_call 22); (with_reducible refine (lives15_any _).mono ?_); rintro e w1 ⟨rfl, b1⟩; have B1 := Lib.hid b1; clear b1) | ((go_at_call 9); (with_reducible refine (HRd.out _ B1.out).mono ?_); rintro e w2 ⟨⟨P, rfl, r2, z2⟩, b2⟩; have B2 := Lib.hid (b_next B1.out b2); have R2 := Lib.hid r2; have Z2 := Lib.hid (Nat.le_trans B1.out.size z2); clear r2 z2 b2) | ((go_at_call 23); (with_reducible refine (HG.out _ P R2.out).mono ?_); rintro e w3 ⟨o3, ve, rfl, ⟨eb, vi, rfl, ep, ei⟩, r3⟩; have B3 := Lib.hid (B2.out.trans (o3.below Z2.out B2.out.size)); have R3 := Lib.hid r3; have EP := Lib.hid ep; have EI := Lib.hid ei; clear r3 o3 ep ei) | (refine wpList_store_tile rfl 43 (.tmp 4) (.tmp 24) rfl w3.heap.size zeroT zeroT rfl rfl 43 (Pt.new w3 _ _) rfl (size_tile zeroT rfl) ?_; rw [World.setRow_alloc_new]; have B4 := Lib.hid (B3.out.alloc B3.out.size (.cells (cellsT zeroT) 43)); have RM4 := Lib.hid (box_rm' (w3.alloc (.cells (cellsT zeroT) 43)) (w3.heap.size + 1) (by simp only [World.size_alloc]) A c l (bs_at H.out B4.out) HC.out); have HM4 := Lib.hid (HGR.out _ _ RM4.out)) | ((go_at_call 24); (with_reducible refine (HM4.out).mono ?_); rintro e w5 ⟨o5, rfl, r5⟩; have O5 := Lib.hid o5; have R5 := Lib.hid r5; clear o5 r5) | (refine wpList_store_tile rfl 46 (.tmp 7) (.tmp 32) rfl w5.heap.size zeroT zeroT rfl rfl 46 (Pt.new w5 _ _) rfl (size_tileR zeroT rfl) ?_; rw [World.setRow_alloc_new]))
  have hB5 : Below w.heap.size w w5 := (B4.out.alloc B4.out.size _).trans (O5.out.below (Nat.le_succ_of_le B3.out.size) (by simp only [World.size_alloc]; have := B3.out.size; omega))
  have hX5 : Pt w5 w3.heap.size (cellsT zeroT) 43 := ((Pt.new w3 _ _).alloc _).only O5.out (by omega)
  have hE5 : Pt w5 eb #[.string rowS, .int .i64 (y : Nat), vi] 56 := ((EP.out.alloc _).alloc _).only O5.out (by have := EP.out.lt; omega)
  have hI5 : vi = .iface 49 (.int .i64 (3)) := EI.out
  have hb6 : Below w5.heap.size w5 (w5.alloc (.cells (cellsT zeroT) 46)) := (Below.refl _ _).alloc (Nat.le_refl _) _
  have B6 := Lib.hid (b_next hB5 hb6)
  have X6 := Lib.hid (hX5.keep hb6)
  have Y6 := Lib.hid (show Pt (w5.alloc (.cells (cellsT zeroT) 46)) w5.heap.size (cellsT zeroT) 46 from Pt.new _ _ _)
  have E6 := Lib.hid (hE5.keep hb6)
  have M6 := Lib.hid (R5.out.keep hb6)
  subst hI5
  clear hB5 hX5 hE5 hb6 RM4 HM4 O5 R5 R3 B4 B3 R2 B2 B1 Z2 HRd HG HGR EP EI
  generalize w5.alloc (.cells (cellsT zeroT) 46) = w6 at *
  generalize w5.heap.size = Y at *
  generalize w3.heap.size + 1 = M at *
  generalize w3.heap.size = X at *
  have V6 := Lib.hid (show EV w6 (.fault rowS (y : Nat) (.num 3)) (.iface 52 (.pointer (some ⟨eb, 0, none⟩))) from ⟨eb, _, rfl, E6.out, rfl⟩)
  go_upto_region 11 with (first | ((with_reducible refine at_dst (N := 35) rfl ?_); refine wpList_load_row rfl 43 (.tmp 4) rfl X rfl 43 (cellsT zeroT) (0, 0) _ X6.out Tryd.underlying43 rfl (size_tile zeroT rfl) ?_) | ((with_reducible refine at_dst (N := 36) rfl ?_); refine wpList_load_row rfl 46 (.tmp 7) rfl Y rfl 46 (cellsT zeroT) (0, 0) _ Y6.out Tryd.underlying46 rfl (size_tileR zeroT rfl) ?_) | ((go_at_call 25); (with_reducible refine (HCode.out _ _ B6.out V6.out).mono ?_); rintro e w7 ⟨rfl, b7⟩; rw [hcode]; have B7 := Lib.hid (b_next B6.out b7); have E7 := Lib.hid (E6.out.keep b7); have M7 := Lib.hid (M6.out.keep b7); clear b7))
  have B8 := Lib.hid (B7.out.alloc B7.out.size (.cells #[.pointer none] 52))
  have HAs := Lib.hid (as_fault_ff ⟨eb, 0, none⟩ w7.heap.size (.pointer none) (w7.alloc (.cells #[.pointer none] 52)) (HT0.out.keep B8.out) (Pt.new _ _ _))
  have hlt1 := E7.out.lt
  have hlt2 := M7.out.lt
  have E8 := Lib.hid (E7.out.alloc (.cells #[.pointer none] 52))
  have M8 := Lib.hid (M7.out.1.alloc (.cells #[.pointer none] 52))
  go_upto_region 14 with ((go_at_call 27); (with_reducible refine (HAs.out).mono ?_); rintro e w9 ⟨rfl, p9, o9⟩; have P9 := Lib.hid p9; have E9 := Lib.hid (E8.out.only o9 (by omega)); have M9 := Lib.hid (M8.out.only o9 (by omega)); have B9 := Lib.hid (B8.out.trans (o9.below B7.out.size B8.out.size)); clear p9 o9)
  have c1 := P9.out.cell
  have c2 := E9.out.cell
  have c3 := M9.out.cell
  clear HAs nq1 qg
  go_quiet (fail)
  go_wp2_with fail
  go_ret
  exact ⟨ret_bool (by first | rfl | simp), below_dn B9.out nq⟩
end Go.Proofs.YtmjdlofkjjofcaaDoor

/- TileBytes, walked. -/
import Derived.Test.YtmjdlofkjjofcaaProg
import Derived.Test.YtmjdlofkjjofcaaKit
import Derived.Test.YtmjdlofkjjofcaaKitb
import Derived.Test.YtmjdlofkjjofcaaBytes
import Derived.Test.YtmjdlofkjjofcaaOnly
import Derived.Test.YtmjdlofkjjofcaaInts
import Derived.Test.YtmjdlofkjjofcaaApp
import Derived.Test.YtmjdlofkjjofcaaAppS
import Derived.Test.YtmjdlofkjjofcaaAppE
import Derived.Test.YtmjdlofkjjofcaaErr
import Derived.Test.YtmjdlofkjjofcaaFault
import Derived.Test.YtmjdlofkjjofcaaStr
import Derived.Test.YtmjdlofkjjofcaaSlices
import Derived.Test.YtmjdlofkjjofcaaPrefixV
import Derived.Test.YtmjdlofkjjofcaaReader
import Derived.Test.YtmjdlofkjjofcaaReaderM
import Derived.Test.YtmjdlofkjjofcaaRdMore
import Derived.Test.YtmjdlofkjjofcaaPuts
import Derived.Test.YtmjdlofkjjofcaaTileV
import Derived.Test.YtmjdlofkjjofcaaTile
import Derived.Test.YtmjdlofkjjofcaaTileP
import Derived.Test.YtmjdlofkjjofcaaTileG
import Derived.Test.YtmjdlofkjjofcaaTileL
import Derived.Test.YtmjdlofkjjofcaaTileN
import Derived.Test.YtmjdlofkjjofcaaTileB
import Derived.Test.YtmjdlofkjjofcaaTileEq
import Derived.Deep.QuietTactic
import Derived.BigQuiet
import Derived.Deep.RegionWith
import Derived.Deep.RegionLaw
import Derived.Deep.MidRow
import Derived.Deep.DeepCutAuto
import Derived.Deep.WholeRow
import Derived.Deep.DrawnRows
namespace Go.Proofs.Ytmjdlofkjjofcaa
open Go.RowKit
set_option linter.unusedVariables false
set_option linter.unusedSimpArgs false
attribute [local go_sem ↓] Go.wp_at_zero Go.wp_at_succ
theorem qgE_tile (a b : Array Value) (x y : Operand) (w : World) : (eqGuard .eql 71 x y (.agg a) (.agg b)).run Try.prog w = .ok () w := by
  simp only [eqGuard]
  kernel_rfl
theorem str_addB (X Y : List UInt8) : (⟨X.toArray⟩ : ByteArray) ++ (⟨Y.toArray⟩ : ByteArray) = ⟨(X ++ Y).toArray⟩ := by
  apply ByteArray.ext
  simp
theorem Row.drewR {W : World} {B : Nat} {e : TypeId} {v : Value} {l : List UInt8} (h : Row W B e v l) : Row W.drew B e v l := h
theorem mk0_b {W : World} {B b : Nat} {T : TypeId} (hb : b = W.heap.size) (hB : B ≤ W.heap.size) : Row (W.alloc (.cells #[] T)) B T (.slice (some ⟨b, 0, none⟩) 0 0) [] := by
  subst hb
  exact ⟨rfl, Or.inr ⟨W.heap.size, 0, #[], rfl, hB, heap_alloc_new W _, Nat.le_refl _, Nat.zero_le _, rfl, rfl⟩⟩
def ldT (v : Value) : Sem Value := Instr.loadAt 71 v
theorem ldT_eq (v : Value) : Instr.loadAt 71 v = ldT v := rfl
attribute [local go_sem ↓] ldT_eq
theorem ldT_run {W : World} {b : Nat} {cs : Array Value} {T : TypeId} (h : Pt W b cs T) (hi : (Try.prog.info? 71).map (·.size) = some cs.size) : (ldT (.pointer (some ⟨b, 0, none⟩))).run Try.prog W = .ok (.agg cs) W := by
  unfold ldT
  simp only [Instr.loadAt, Instr.sureAddr, Sem.run_bind, Sem.run_pure, Result.andThen]
  exact run_loadVar_row W b T 71 cs (0, 0) _ h Try.underlying71 rfl hi
set_option maxHeartbeats 40000000 in
set_option maxRecDepth 20000 in
theorem tileBytes_in (bs : List Nat) (h16 : bs.length = 16) (hb16 : ∀ v ∈ bs, v < 65536) (A : Option Addr) (c : Nat) (l : List UInt8) (w : World) (h : Bs w w.heap.size A l) (hl : l.length ≤ 200) :
    Calls Try.prog 7 #[.agg (cellsT bs), .slice A l.length c] w fun e w' => e = .returned (.bool true) ∧ Below w.heap.size w w' := by
  have H := Lib.hid h
  have HL := Lib.hid hl
  have g1 : decide ((l.length : Int) > 200) = false := decide_eq_false (by omega)
  have hns := numsT_lt bs 0 0 hb16 (by decide) (by omega)
  have hel := encT_len (numsT 0 0 bs)
  have HEL := Lib.hid (show (encT (numsT 0 0 bs)).length ≤ 300 by have := hns.2; omega)
  have hget : getT (encT (numsT 0 0 bs)) 16 0 [] 0 true = .ok bs (encT (numsT 0 0 bs)).length := by
    have := get_nums [] [] 16 bs [] 0 true (by omega) (by simp [h16]) (by decide) hb16 (.inl rfl) (encT (numsT 0 0 bs)) [] (by simp [encT])
    simpa [encT] using this
  have HG := Lib.hid fun (W : World) (P : Nat) (r : Rd W P (encT (numsT 0 0 bs)) 0 .nil) => (by
    have := tget_any P (encT (numsT 0 0 bs)) 0 W r (by omega)
    rw [hget] at this
    exact this : Calls Try.prog 52 #[.pointer (some ⟨P, 0, none⟩)] W (GotT P (encT (numsT 0 0 bs)) W (.ok bs (encT (numsT 0 0 bs)).length)))
  unfold GotT at HG
  simp only at HG
  have HRB := Lib.hid fun W => rbytes_any bs h16 hb16 W
  have HPt := Lib.hid fun (W : World) (A' : Option Addr) (n' c' : Nat) (X : List UInt8) (hn : n' = X.length) (s : Bs W W.heap.size A' X) (hc : n' ≤ c' ∧ c' ≤ 9223372036854775807) (hx : X.length ≤ 200) => tput_any A' n' c' X bs h16 hb16 hn W s hc (by omega)
  have H16 := Lib.hid h16
  have hE := Lib.hid (hb16)
  have hfl := flat_cells bs
  have PB := Lib.hid (Pt.new w (cellsT bs) 71)
  have B0 := Lib.hid (show Below w.heap.size w (w.alloc (.cells (cellsT bs) 71)) from (Below.refl _ _).alloc (Nat.le_refl _) _)
  generalize encT (numsT 0 0 bs) = E at *
  clear h hl hns hel hget h16 hb16
  go_enter Try.func7, Try.ntmps7
  go_upto_region 3 with ((go_at_call 49); (with_reducible refine (lives15_any _).mono ?_); rintro e w1 ⟨rfl, b1⟩; have P1 := Lib.hid (PB.out.keep b1); have B1 := Lib.hid (b_next B0.out b1); clear b1)
  generalize w.heap.size = X at PB P1 ⊢
  clear hfl PB B0
  have LX : ∀ W, Below w1.heap.size w1 W → (ldT (.pointer (some ⟨X, 0, none⟩))).run Try.prog W = .ok (.agg (cellsT bs)) W := fun W b => ldT_run (P1.out.keep b) (size_tile bs H16.out)
  have hcv0 := conv_below Try.prog 39 9 5 Try.underlying39 Try.underlying5 Try.underlying9 A l.length c l rfl (bs_at H.out B1.out)
  have hcv1 := fun (A' : Option Addr) (c' : Nat) => conv_holds Try.prog 39 9 5 Try.underlying39 Try.underlying5 Try.underlying9 A' E.length c' E rfl
  have hdr : ∀ W n, Below w1.heap.size w1 W → Below w1.heap.size w1 (W.drewN n) := fun W n h => below_dn h n
  have hd1 : ∀ W, Below w1.heap.size w1 W → Below w1.heap.size w1 W.drew := fun W h => h.drew
  have hB1 := Below.refl w1.heap.size w1
  have hno : ¬ 9223372036854775807 < l.length + E.length := by have := HL.out; have := HEL.out; omega
  go_cut [5] (fun s5 W => s5 = .string ⟨(l ++ E).toArray⟩ ∧ Hid (Below w1.heap.size w1 W))
  case first =>
    go_region_with ((go_at_call 50); (with_reducible refine (HRB.out _).mono ?_); rintro e w4 ⟨A4, c4, rfl, s4, _, _, b4⟩; have hh4 : Holds w4 A4 E := s4; have hbw : Below w1.heap.size w1 w4 := b_next (by (repeat' (first | (with_reducible exact Below.refl _ _) | (with_reducible assumption) | (with_reducible refine Below.setCell ?_ ?_ _) | (with_reducible refine Below.alloc ?_ ?_ _) | (with_reducible refine below_dn ?_ _) | (with_reducible refine below_call ?_ ?_ (by assumption)) | (with_reducible refine Below.drew ?_) | go_size))) b4)
    all_goals (go_wp2_with fail; go_meet)
    all_goals exact ⟨by rw [str_addB], Lib.hid (by (repeat' (first | (with_reducible exact Below.refl _ _) | (with_reducible assumption) | (with_reducible refine Below.setCell ?_ ?_ _) | (with_reducible refine Below.alloc ?_ ?_ _) | (with_reducible refine below_dn ?_ _) | (with_reducible refine below_call ?_ ?_ (by assumption)) | (with_reducible refine Below.drew ?_) | go_size)))⟩
  case rest =>
    obtain ⟨rfl, B2⟩ := hcut
    clear hno LX hcv0 hcv1 hdr hd1 hB1 HRB
    generalize hLE' : l ++ E = LE at *
    have P2 := Lib.hid (P1.out.keep B2.out)
    have B3 := Lib.hid (b_next B1.out B2.out)
    have HPn := Lib.hid fun (W : World) => (by
      have := HPt.out W none 0 0 [] rfl (Or.inl rfl) (by omega) (by decide)
      rw [List.nil_append] at this
      exact this : Calls Try.prog 51 #[.slice none 0 0, .agg (cellsT bs)] W (RetBs W E))
    clear P1 B1 B2
    go_upto_region 6 with (first       | ((with_reducible refine at_dst (N := 23) rfl ?_); refine wpList_load_row rfl 71 (.tmp 2) rfl X rfl 71 (cellsT bs) (0, 0) _ P2.out Try.underlying71 rfl (size_tile bs H16.out) ?_)       | ((go_at_call 51); (with_reducible refine (HPn.out _).mono ?_); rintro e w5 ⟨A5, c5, rfl, s5, k5, m5, b5⟩; have B5 := Lib.hid (b_next B3.out b5); have P5 := Lib.hid (P2.out.keep b5); have S5 := Lib.hid s5; clear s5 k5 m5 b5)       | ((go_at_call 44); (with_reducible refine (read_any A5 E.length c5 E rfl w5 S5.out (by have := HEL.out; omega)).mono ?_); rintro e w6 ⟨⟨P, rfl, r6, z6⟩, b6⟩; have B6 := Lib.hid (b_next B5.out b6); have P6 := Lib.hid (P5.out.keep b6); have R6 := Lib.hid r6; have Z6 := Lib.hid z6; have HG6 := Lib.hid (HG.out _ P r6); clear r6 z6 b6)       | ((go_at_call 52); (with_reducible refine (HG6.out).mono ?_); rintro e w7 ⟨o7, rfl, r7⟩; have P7 := Lib.hid (P6.out.only o7 (by have := P5.out.lt; have := Z6.out; omega)); have R7 := Lib.hid r7; have B7 := Lib.hid (B6.out.trans (o7.below (Nat.le_trans B5.out.size Z6.out) B6.out.size)); clear o7 r7)       | (refine wpList_store_tile rfl 71 (.tmp 7) (.tmp 29) rfl w7.heap.size zeroT bs rfl rfl 71 (Pt.new w7 _ _) (by rw [H16.out]; rfl) (size_tile bs H16.out) ?_; rw [World.setRow_alloc_new]))
    have hb8 : Below w7.heap.size w7 (w7.alloc (.cells (cellsT bs) 71)) := (Below.refl _ _).alloc (Nat.le_refl _) _
    have B8 := Lib.hid (b_next B7.out hb8)
    have X8 := Lib.hid (P7.out.keep hb8)
    have Y8 := Lib.hid (show Pt (w7.alloc (.cells (cellsT bs) 71)) w7.heap.size (cellsT bs) 71 from Pt.new _ _ _)
    have R8 := Lib.hid (R7.out.only hb8)
    clear hb8 B7 P7 R7 B6 P6 R6 Z6 HG6 B5 P5 S5 P2 B3 HPn HG
    generalize w7.alloc (.cells (cellsT bs) 71) = w8 at *
    generalize w7.heap.size = Y at *
    have LX : ∀ W, Below w8.heap.size w8 W → (ldT (.pointer (some ⟨X, 0, none⟩))).run Try.prog W = .ok (.agg (cellsT bs)) W := fun W b => ldT_run (X8.out.keep b) (size_tile bs H16.out)
    have LXa : ∀ O, (ldT (.pointer (some ⟨X, 0, none⟩))).run Try.prog (w8.alloc O).drew = .ok (.agg (cellsT bs)) (w8.alloc O).drew := fun O => LX _ ((Below.refl _ w8).alloc (Nat.le_refl _) O).drew
    have hald : ∀ O, Below w8.heap.size w8 (w8.alloc O).drew := fun O => ((Below.refl _ w8).alloc (Nat.le_refl _) O).drew
    have LY : ∀ W, Below w8.heap.size w8 W → (ldT (.pointer (some ⟨Y, 0, none⟩))).run Try.prog W = .ok (.agg (cellsT bs)) W := fun W b => ldT_run (Y8.out.keep b) (size_tile bs H16.out)
    have qe := fun w => eql_same (P := Try.prog) Try.underlying71 Try.underlying69 Try.isAgg69 Try.sizeOf69 bs H16.out w
    have qg := qgE_tile
    have hnil := fun w => eql_nil_nil (P := Try.prog) w (ti := 66) Try.underlying66
    have hcv1 := fun (A' : Option Addr) (c' : Nat) => conv_holds Try.prog 39 9 5 Try.underlying39 Try.underlying5 Try.underlying9 A' LE.length c' LE rfl
    have hdr : ∀ W n, Below w8.heap.size w8 W → Below w8.heap.size w8 (W.drewN n) := fun W n h => below_dn h n
    have hd1 : ∀ W, Below w8.heap.size w8 W → Below w8.heap.size w8 W.drew := fun W h => h.drew
    have hal : ∀ (W : World) (O : Obj), Below w8.heap.size w8 W → Below w8.heap.size w8 (W.alloc O) := fun W O h => h.alloc h.size O
    have hB8 := Below.refl w8.heap.size w8
    have HLm := Lib.hid (show l.length ≤ 140737488355328 ∧ l.length ≤ 9223372036854775807 by have := HL.out; omega)
    have HPL := Lib.hid fun (W : World) (A' : Option Addr) (c' : Nat) (s : AppS W w8.heap.size 5 A' l.length c' l) (hb : w8.heap.size ≤ W.heap.size) => (by
      have := HPt.out W A' l.length c' l rfl (s.bs hb) (s.cap HLm.out.2) HL.out
      rw [hLE'] at this
      exact this : Calls Try.prog 51 #[.slice A' l.length c', .agg (cellsT bs)] W (RetBs W LE))
    have HEnd := Lib.hid fun (W : World) (r : Rd W P E E.length .nil) => end_any P E W r (by have := HEL.out; omega)
    clear HPt X8 Y8 hLE' H16
    go_region_law (first       | (refine app_e_if (base := w8.heap.size) rfl (.tmp 31) (.tmp 32) 39 rfl rfl (by kernel_rfl) (l := l) [] l rfl (AppS.row (by (repeat' (first | (with_reducible refine Row.drewR ?_) | (with_reducible refine mk0_b (by first | rfl | go_size) ?_) | (with_reducible exact Nat.le_refl _) | go_size))) rfl) rfl rfl (bs_at H.out (b_next B8.out (by (repeat' (first | (with_reducible exact Below.refl _ _) | (with_reducible assumption) | (with_reducible refine Below.setCell ?_ ?_ _) | (with_reducible refine Below.alloc ?_ ?_ _) | (with_reducible refine below_dn ?_ _) | (with_reducible refine below_call ?_ ?_ (by assumption)) | (with_reducible refine Below.drew ?_) | go_size))))) rfl HLm.out.1 (Below.size (show Below w8.heap.size w8 _ from by (repeat' (first | (with_reducible exact Below.refl _ _) | (with_reducible assumption) | (with_reducible refine Below.setCell ?_ ?_ _) | (with_reducible refine Below.alloc ?_ ?_ _) | (with_reducible refine below_dn ?_ _) | (with_reducible refine below_call ?_ ?_ (by assumption)) | (with_reducible refine Below.drew ?_) | go_size)))) ?_; intro A9 c9 w9 s9 b9; have hbw9 : Below w8.heap.size w8 w9 := (show Below w8.heap.size w8 _ from by (repeat' (first | (with_reducible exact Below.refl _ _) | (with_reducible assumption) | (with_reducible refine Below.setCell ?_ ?_ _) | (with_reducible refine Below.alloc ?_ ?_ _) | (with_reducible refine below_dn ?_ _) | (with_reducible refine below_call ?_ ?_ (by assumption)) | (with_reducible refine Below.drew ?_) | go_size))).trans b9)       | (go_simp; ((go_at_call 51); (with_reducible refine (HPL.out _ A9 c9 (s9.keep (by (repeat' (first | (with_reducible exact Below.refl _ _) | (with_reducible assumption) | (with_reducible refine Below.setCell ?_ ?_ _) | (with_reducible refine Below.alloc ?_ ?_ _) | (with_reducible refine below_dn ?_ _) | (with_reducible refine below_call ?_ ?_ (by assumption)) | (with_reducible refine Below.drew ?_) | go_size))) hbw9.size) (Below.size (show Below w8.heap.size w8 _ from by (repeat' (first | (with_reducible exact Below.refl _ _) | (with_reducible assumption) | (with_reducible refine Below.setCell ?_ ?_ _) | (with_reducible refine Below.alloc ?_ ?_ _) | (with_reducible refine below_dn ?_ _) | (with_reducible refine below_call ?_ ?_ (by assumption)) | (with_reducible refine Below.drew ?_) | go_size))))).mono ?_); rintro e w10 ⟨A10, c10, rfl, s10, _, _, b10⟩; have hh10 : Holds w10 A10 LE := s10; have hbw10 : Below w8.heap.size w8 w10 := b_next (by (repeat' (first | (with_reducible exact Below.refl _ _) | (with_reducible assumption) | (with_reducible refine Below.setCell ?_ ?_ _) | (with_reducible refine Below.alloc ?_ ?_ _) | (with_reducible refine below_dn ?_ _) | (with_reducible refine below_call ?_ ?_ (by assumption)) | (with_reducible refine Below.drew ?_) | go_size))) b10))       | (go_simp; ((go_at_call 47); (with_reducible refine (HEnd.out _ (R8.out.only (by (repeat' (first | (with_reducible exact Below.refl _ _) | (with_reducible assumption) | (with_reducible refine Below.setCell ?_ ?_ _) | (with_reducible refine Below.alloc ?_ ?_ _) | (with_reducible refine below_dn ?_ _) | (with_reducible refine below_call ?_ ?_ (by assumption)) | (with_reducible refine Below.drew ?_) | go_size))))).mono ?_); rintro e w11 ⟨rfl, b11⟩; have hbw11 : Below w8.heap.size w8 w11 := b_next (by (repeat' (first | (with_reducible exact Below.refl _ _) | (with_reducible assumption) | (with_reducible refine Below.setCell ?_ ?_ _) | (with_reducible refine Below.alloc ?_ ?_ _) | (with_reducible refine below_dn ?_ _) | (with_reducible refine below_call ?_ ?_ (by assumption)) | (with_reducible refine Below.drew ?_) | go_size))) b11)))
    all_goals (try go_wp2_with fail)
    all_goals go_ret
    all_goals exact ⟨ret_bool (by first | rfl | simp), b_next B8.out (by (repeat' (first | (with_reducible exact Below.refl _ _) | (with_reducible assumption) | (with_reducible refine Below.setCell ?_ ?_ _) | (with_reducible refine Below.alloc ?_ ?_ _) | (with_reducible refine below_dn ?_ _) | (with_reducible refine below_call ?_ ?_ (by assumption)) | (with_reducible refine Below.drew ?_) | go_size)))⟩
end Go.Proofs.Ytmjdlofkjjofcaa

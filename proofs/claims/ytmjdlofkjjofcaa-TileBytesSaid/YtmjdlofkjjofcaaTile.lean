/- Package tile: rows, runs, and what is told. -/
import Derived.Test.YtmjdlofkjjofcaaProg
import Derived.Test.YtmjdlofkjjofcaaKit
import Derived.Test.YtmjdlofkjjofcaaKitb
import Derived.Test.YtmjdlofkjjofcaaBytes
import Derived.Test.YtmjdlofkjjofcaaShelf
import Derived.Test.YtmjdlofkjjofcaaTileV
import Derived.Laws.BitsAllLaws
import Derived.Deep.QuietTactic
import Derived.BigQuiet
namespace Go.Proofs.Ytmjdlofkjjofcaa
open Go.RowKit
set_option linter.unusedVariables false
set_option linter.unusedSimpArgs false

/-- A tile's rows as cells. -/
def cellsT (bs : List Nat) : Array Value := (bs.map fun (v : Nat) => Value.int .u16 v).toArray
theorem cellsT_at (bs : List Nat) (j : Nat) (hj : j < bs.length) : (cellsT bs)[j]? = some (.int .u16 ((bs.getD j 0 : Nat) : Int)) := by
  unfold cellsT
  simp [List.getD_eq_getElem?_getD, List.getElem?_eq_getElem hj]
theorem flat_cells (bs : List Nat) : (Value.agg (cellsT bs)).cells = cellsT bs := by
  have : ∀ l : List Nat, (l.map fun (v : Nat) => Value.int .u16 v).flatMap (fun v => v.cells.toList) = l.map fun (v : Nat) => Value.int .u16 v := by
    intro l
    induction l with
    | nil => rfl
    | cons v r ih => rw [List.map_cons, List.flatMap_cons, ih]; rfl
  apply Array.ext'
  unfold cellsT
  simp [Value.cells]
theorem run_ge (last : Nat) (l : List Nat) (k : Nat) (hk : k ≤ l.length) (h : l.take k = List.replicate k last) : k ≤ runT last l := by
  induction l generalizing k with
  | nil => simp at hk; omega
  | cons v r ih =>
    cases k with
    | zero => omega
    | succ k =>
      rw [List.take_succ_cons, List.replicate_succ] at h
      injection h with h1 h2
      have e : runT last (v :: r) = runT last r + 1 := by simp [runT, h1]
      rw [e]
      have := ih k (by simpa using hk) h2
      omega
theorem take_more (last : Nat) (l : List Nat) (k : Nat) (hk : k < l.length) (h : l.take k = List.replicate k last) (he : l.getD k 0 = last) : l.take (k + 1) = List.replicate (k + 1) last := by
  rw [List.take_succ_eq_append_getElem hk, h, List.replicate_succ']
  rw [List.getD_eq_getElem?_getD, List.getElem?_eq_getElem hk] at he
  simp only [Option.getD_some] at he
  rw [he]
theorem runs_any (bs : List Nat) (h16 : bs.length = 16) (y last : Nat) (hy : y ≤ 16) (w : World) :
    Calls Try.prog 87 #[.agg (cellsT bs), .int .i64 y, .int .u16 last] w fun e w' => e = .returned (.int .i64 (runT last (bs.drop y))) ∧ Below w.heap.size w w' := by
  have hfl := flat_cells bs
  have cs := (Pt.new w (cellsT bs) 71).cell
  have HC := Lib.hid fun j (hj : j < bs.length) => (cs j).trans (cellsT_at bs j hj)
  have HB := Lib.hid h16
  have HY := Lib.hid hy
  have hbel := Lib.hid (show Below w.heap.size w (w.alloc (.cells (cellsT bs) 71)) from (Below.refl _ _).alloc (Nat.le_refl _) _)
  clear cs h16 hy
  go_enter Try.func87, Try.ntmps87
  go_wp2_with fail
  clear hfl
  generalize w.alloc (.cells (cellsT bs) 71) = w1 at *
  go_loop [7] (fun v7 => ∃ k : Nat, y + k ≤ 16 ∧ v7 = .int .i64 k ∧ Hid ((bs.drop y).take k = List.replicate k last)) (fun v7 => 16 - (intOf v7).toNat)
  case atStart => exact ⟨0, by have := HY.out; omega, rfl, Lib.hid (by simp)⟩
  case round =>
    obtain ⟨k, hk, rfl, ht⟩ := hrel
    have hlen : (bs.drop y).length = 16 - y := by rw [List.length_drop, HB.out]
    have hw : wrap64 ((y : Int) + k) = ((y + k : Nat) : Int) := by rw [w64 (by omega) (by omega)]; rfl
    have hw2 : wrap64 ((k : Int) + 1) = ((k + 1 : Nat) : Int) := by rw [w64 (by omega) (by omega)]; rfl
    by_cases hlt : y + k < 16
    · have cy := HC.out (y + k) (by rw [HB.out]; exact hlt)
      have hg : (bs.drop y).getD k 0 = bs.getD (y + k) 0 := by simp [List.getD_eq_getElem?_getD]
      have hm := Lib.hid (run_more last (bs.drop y) k (by omega) ht.out)
      have hn := Lib.hid fun he => take_more last (bs.drop y) k (by omega) ht.out he
      have HK := Lib.hid (show k ≤ runT last (bs.drop y) from run_ge last _ k (by omega) ht.out)
      rw [hg] at hm hn
      generalize bs.getD (y + k) 0 = v at *
      have i1 : ((y + k : Nat) : Int) < 16 := by omega
      have HI := Lib.hid (show y + (k + 1) ≤ 16 ∧ 16 - (k + 1) < 16 - k by omega)
      have i2 : (0 : Int) ≤ ((y + k : Nat) : Int) := by omega
      clear hg hlen hk hlt
      by_cases he : v = last
      · have hq : ((v : Int) == (last : Int)) = true := by rw [he]; simp
        have HE := Lib.hid he
        clear he
        go_wp2_with fail
        exact ⟨⟨k + 1, HI.out.1, rfl, Lib.hid (hn.out HE.out)⟩, HI.out.2⟩
      · have hq : ((v : Int) == (last : Int)) = false := by rw [beq_eq_false_iff_ne]; omega
        have HE := Lib.hid (show runT last (bs.drop y) = k by have := hm.out; have := HK.out; omega)
        clear he
        go_wp2_with fail
        go_ret
        exact ⟨by rw [HE.out]; rfl, hbel.out⟩
    · have HE := Lib.hid (show runT last (bs.drop y) = k by have := run_ge last (bs.drop y) k (by omega) ht.out; have := runT_le last (bs.drop y); omega)
      have i1 : ¬ ((y + k : Nat) : Int) < 16 := by omega
      clear hlen hk hlt
      go_wp2_with fail
      go_ret
      exact ⟨by rw [HE.out]; rfl, hbel.out⟩

theorem len16_any (n : Nat) (hn : n < 65536) (w : World) :
    Calls Try.prog 88 #[.int .u16 n] w fun e w' => e = .returned (.int .i64 (Lib.bitLen n)) ∧ w = w' :=
  (Try.bits_Len16 n w (by omega) (by omega)).mono fun e w' h => ⟨by rw [h.1, Int.toNat_natCast], h.2.symm⟩
theorem or_1 (n : Nat) (hn : n < 65536) : bits BinOp.or IntKind.u64 ((n : Int) * 4) 1 = ((4 * n + 1 : Nat) : Int) := by
  rw [show ((n : Int) * 4) = ((4 * n : Nat) : Int) by omega]
  rw [show (1 : Int) = ((1 : Nat) : Int) from rfl, u64_or_nat _ _ (by omega) (by omega)]
  congr 1
  rw [show 4 * n = n <<< 2 by rw [Nat.shiftLeft_eq]; omega, Nat.shiftLeft_add_eq_or_of_lt (by omega)]
theorem or_2 (n : Nat) (hn : n < 65536) : bits BinOp.or IntKind.u64 ((n : Int) * 4) 2 = ((4 * n + 2 : Nat) : Int) := by
  rw [show ((n : Int) * 4) = ((4 * n : Nat) : Int) by omega]
  rw [show (2 : Int) = ((2 : Nat) : Int) from rfl, u64_or_nat _ _ (by omega) (by omega)]
  congr 1
  rw [show 4 * n = n <<< 2 by rw [Nat.shiftLeft_eq]; omega, Nat.shiftLeft_add_eq_or_of_lt (by omega)]
theorem w4 (n : Nat) (hn : n < 65536) : IntKind.u64.wrap ((n : Int) * 4) = (n : Int) * 4 := by rw [show IntKind.u64.wrap ((n : Int) * 4) = ((n : Int) * 4) % 18446744073709551616 by first | rfl | simp [IntKind.wrap]]; omega
theorem or_1w (n : Nat) (hn : n < 65536) : bits BinOp.or IntKind.u64 (IntKind.u64.wrap ((n : Int) * 4)) 1 = ((4 * n + 1 : Nat) : Int) := by rw [w4 n hn]; exact or_1 n hn
theorem or_2w (n : Nat) (hn : n < 65536) : bits BinOp.or IntKind.u64 (IntKind.u64.wrap ((n : Int) * 4)) 2 = ((4 * n + 2 : Nat) : Int) := by rw [w4 n hn]; exact or_2 n hn
set_option maxHeartbeats 1000000 in
theorem told_any (v last n : Nat) (hv : v < 65536) (hl : last < 65536) (hn : n < 262144) (w : World) :
    Calls Try.prog 90 #[.int .u16 v, .int .u16 last, .int .u64 n] w fun e w' => e = .returned (.bool (decide (v ≠ last ∧ rowN v last = n))) ∧ w = w' := by
  have hx := u16_xor_nat v last hv hl
  have hx16 := xor_lt16 hv hl
  have L1 := Lib.hid fun w => len16_any (v ^^^ last) hx16 w
  have L2 := Lib.hid fun w => len16_any v hv w
  have hw1 : IntKind.u64.wrap (v : Int) = v := by rw [show IntKind.u64.wrap (v : Int) = (v : Int) % 18446744073709551616 by first | rfl | simp [IntKind.wrap]]; omega
  have hw2 : IntKind.u64.wrap ((v ^^^ last : Nat) : Int) = ((v ^^^ last : Nat) : Int) := by rw [show IntKind.u64.wrap ((v ^^^ last : Nat) : Int) = ((v ^^^ last : Nat) : Int) % 18446744073709551616 by first | rfl | simp [IntKind.wrap]]; omega
  have hr : rowN v last = if Lib.bitLen (v ^^^ last) < Lib.bitLen v then 4 * (v ^^^ last) + 2 else 4 * v + 1 := rfl
  have o1 := or_1 v hv
  have o2 := or_2 (v ^^^ last) hx16
  generalize rowN v last = R at *
  generalize v ^^^ last = d at *
  generalize Lib.bitLen d = D at *
  generalize Lib.bitLen v = V at *
  by_cases hvl : v = last
  · have hq : ((v : Int) != (last : Int)) = false := by rw [hvl]; simp
    have hout := Lib.hid (show decide (v ≠ last ∧ R = n) = false by simp [hvl])
    by_cases hD : D < V
    · have i1 : (D : Int) < (V : Int) := by omega
      clear hD hvl hr
      go_enter Try.func90, Try.ntmps90
      go_wp2_with (first | ((go_at_call 88); (with_reducible refine (L1.out _).mono ?_); rintro e w' ⟨rfl, rfl⟩) | ((go_at_call 88); (with_reducible refine (L2.out _).mono ?_); rintro e w' ⟨rfl, rfl⟩))
      go_ret
      exact ⟨ret_bool hout.out.symm, rfl⟩
    · have i1 : ¬ (D : Int) < (V : Int) := by omega
      clear hD hvl hr
      go_enter Try.func90, Try.ntmps90
      go_wp2_with (first | ((go_at_call 88); (with_reducible refine (L1.out _).mono ?_); rintro e w' ⟨rfl, rfl⟩) | ((go_at_call 88); (with_reducible refine (L2.out _).mono ?_); rintro e w' ⟨rfl, rfl⟩))
      go_ret
      exact ⟨ret_bool hout.out.symm, rfl⟩
  · have hq : ((v : Int) != (last : Int)) = true := by rw [bne_iff_ne]; omega
    by_cases hD : D < V
    · have i1 : (D : Int) < (V : Int) := by omega
      rw [if_pos hD] at hr
      have hout := Lib.hid (show ((n : Int) == ((4 * d + 2 : Nat) : Int)) = decide (v ≠ last ∧ R = n) by rw [Bool.eq_iff_iff, beq_iff_eq, decide_eq_true_iff, hr]; omega)
      clear hD hvl hr
      go_enter Try.func90, Try.ntmps90
      go_wp2_with (first | ((go_at_call 88); (with_reducible refine (L1.out _).mono ?_); rintro e w' ⟨rfl, rfl⟩) | ((go_at_call 88); (with_reducible refine (L2.out _).mono ?_); rintro e w' ⟨rfl, rfl⟩))
      go_ret
      exact ⟨ret_bool hout.out, rfl⟩
    · have i1 : ¬ (D : Int) < (V : Int) := by omega
      rw [if_neg hD] at hr
      have hout := Lib.hid (show ((n : Int) == ((4 * v + 1 : Nat) : Int)) = decide (v ≠ last ∧ R = n) by rw [Bool.eq_iff_iff, beq_iff_eq, decide_eq_true_iff, hr]; omega)
      clear hD hvl hr
      go_enter Try.func90, Try.ntmps90
      go_wp2_with (first | ((go_at_call 88); (with_reducible refine (L1.out _).mono ?_); rintro e w' ⟨rfl, rfl⟩) | ((go_at_call 88); (with_reducible refine (L2.out _).mono ?_); rintro e w' ⟨rfl, rfl⟩))
      go_ret
      exact ⟨ret_bool hout.out, rfl⟩
end Go.Proofs.Ytmjdlofkjjofcaa

/- Contracts of package store: New; what is told of no store. -/
import Derived.Test.YtjiliiclebdbfaaSt
import Derived.Deep.RegionWith
namespace Go.Proofs.Ytjiliiclebdbfaa
open Go.RowKit
set_option linter.unusedVariables false
set_option linter.unusedSimpArgs false

theorem St.mono {base base' S : Nat} {w : World} {ns : List Nd} {most : Nat} (h : St base w S ns most) (hb : base' ≤ base) : St base' w S ns most := by
  obtain ⟨N, T, tb, ⟨⟨cn, h1, h2, h3, h4, h5, h6⟩, ht, hs⟩⟩ := h
  refine ⟨N, T, tb, ⟨⟨cn, h1, ⟨h2.1, ?_⟩, h3, by omega, by omega, h6⟩, ht, hs⟩⟩
  rcases h2.2 with h0 | ⟨g, cap, cur, e1, e2, e3⟩
  · exact .inl h0
  · exact .inr ⟨g, cap, cur, e1, by omega, e3⟩
def twoN : List Nd := [deadN, aliveN]
/-- The new blocks of a new store. -/
theorem St.new {base : Nat} {W : World} {S N T : Nat} {most M : Nat} (hS : Pt W S #[.slice (some ⟨N, 0, none⟩) 2 2, .slice (some ⟨T, 0, none⟩) M M, .int .i64 most] 126)
    (hN : Pt W N #[.int .u32 0, .int .u32 0, .int .u32 0, .int .u32 0, .int .i64 0, .int .u64 0, .int .u32 0, .int .u32 0, .int .u32 0, .int .u32 0, .int .i64 0, .int .u64 1] 123)
    (hT : Pt W T (Array.replicate M (.int .u32 0)) 31) (b1 : base ≤ S) (b2 : base ≤ N) (b3 : base ≤ T) (h2 : 2 ≤ most) (h3 : 2 * most ≤ M) (h4 : M ≤ 4194304) : St base W S twoN most := by
  unfold twoN
  refine ⟨N, T, List.replicate M 0, ⟨⟨2, ?_, ⟨rfl, .inr ⟨N, 2, _, rfl, b2, hN, by simp, by unfold maxLen; omega, rfl, rfl⟩⟩, ?_, b1, b3, by simpa using h2, by simpa using h3, by simpa using h4⟩, .fresh _ M (by omega), .fresh⟩⟩
  · simpa using hS
  · unfold tbCells; simpa using hT
theorem info_id : (Try.prog.info? 31).map (fun i => (i.zero, i.size, i.bytes)) = some (some (.int .u32 0), 1, 4) := by kernel_rfl
set_option maxRecDepth 20000 in
theorem make_ids (n : Nat) (hn : n ≤ 4194304) (W : World) : (Instr.makeSlice 76 (.int .i64 n) (.int .i64 n)).run Try.prog W = .ok (.slice (some ⟨W.heap.size, 0, none⟩) n n) (W.alloc (.cells (Array.replicate n (.int .u32 0)) 31)) := by
  obtain ⟨i, hi, hz⟩ : ∃ i, Try.prog.info? 31 = some i ∧ (i.zero, i.size, i.bytes) = (some (.int .u32 0), 1, 4) := by
    have h0 := info_id
    cases h : Try.prog.info? 31 with
    | none => rw [h] at h0; cases h0
    | some i => exact ⟨i, rfl, by rw [h] at h0; injection h0⟩
  injection hz with hz0 hz1
  injection hz1 with hz1 hz2
  have := run_makeSlice (P := Try.prog) (w := W) 76 31 i (.int .u32 0) Try.underlying76 hi hz0 .i64 .i64 (n : Int) (n : Int) (by omega) (Int.le_refl _) (by rw [hz1]; omega) (by rw [hz2]; omega) (by omega)
  rw [this, hz1]
  have e : madeCells (Value.int .u32 0).cells ((n : Int).toNat * 1) = Array.replicate n (.int .u32 0) := by
    unfold madeCells
    apply Array.ext
    · simp
    · intro j h1 h2
      simp only [Array.getElem_map, Array.getElem_replicate]
      show (#[Value.int .u32 0] : Array Value)[_ % 1]! = _
      rw [Nat.mod_one]
      rfl
  rw [e, Int.toNat_natCast]
set_option maxRecDepth 20000 in
theorem new_in (w : World) (most : Nat) (h2 : 2 ≤ most) (hm : most ≤ 1048576) :
    Calls Try.prog 15 #[.int .i64 most] w fun e w' => ∃ S, e = .returned (.tuple #[.pointer (some ⟨S, 0, none⟩), .nilIface]) ∧ St w.heap.size w' S twoN most ∧ Below w.heap.size w w' := by
  have hd1 : decide ((most : Int) < 2) = false := decide_eq_false (by omega)
  have hd2 : decide ((1048576 : Int) < (most : Int)) = false := decide_eq_false (by omega)
  have HM := Lib.hid hm
  have hw1 : wrap64 (2 * (most : Int)) = 2 * most := w64 (by omega) (by omega)
  clear hm
  go_enter Try.func15, Try.ntmps15
  go_wp2_with fail
  go_loop [4] (fun v => ∃ M : Nat, 8 ≤ M ∧ (M = 8 ∨ M < 4 * most) ∧ v = .int .i64 M) (fun v => 2 * most - (intOf v).toNat)
  case atStart => exact ⟨8, by omega, .inl rfl, rfl⟩
  case round =>
    obtain ⟨M, h8, hM, rfl⟩ := hrel
    by_cases hlt : M < 2 * most
    · have hw2 := Lib.hid (show wrap64 ((M : Int) * 2) = M * 2 by have := HM.out; exact w64 (by omega) (by omega))
      have hd : decide ((M : Int) < 2 * (most : Int)) = true := decide_eq_true (by omega)
      have hfin : ∃ M' : Nat, 8 ≤ M' ∧ (M' = 8 ∨ M' < 4 * most) ∧ Value.int IntKind.i64 (wrap64 ((M : Int) * 2)) = .int .i64 M' := ⟨2 * M, by omega, .inr (by omega), by rw [hw2.out, show ((M : Int) * 2) = ((2 * M : Nat) : Int) by omega]⟩
      have hms : 2 * most - (intOf (.int .i64 (wrap64 ((M : Int) * 2)))).toNat < 2 * most - (intOf (.int .i64 (M : Int))).toNat := by rw [hw2.out]; simp only [intOf]; omega
      have HF := Lib.hid hfin
      have HS := Lib.hid hms
      clear hfin hms
      go_wp2_with fail
      exact ⟨HF.out, HS.out⟩
    · have hd : decide ((M : Int) < 2 * (most : Int)) = false := decide_eq_false (by omega)
      have hmk := make_ids M (by have := HM.out; omega)
      go_wp2_with fail
      refine bodyPost_ret (by simp [results, Try.results15, go_sem]; rfl) rfl ?_
      refine ⟨_, rfl, St.new (N := w.heap.size) (T := w.heap.size + 1) (M := M) ?_ ?_ ?_ (by first | (simp; done) | (simp; omega) | omega) (by first | (simp; done) | (simp; omega) | omega) (by first | (simp; done) | (simp; omega) | omega) h2 (by omega) (by have := HM.out; omega), by (repeat' (first | (with_reducible exact Below.refl _ _) | (with_reducible assumption) | (with_reducible refine Below.setCell ?_ ?_ _) | (with_reducible refine Below.alloc ?_ ?_ _) | (with_reducible refine below_dn ?_ _) | (with_reducible refine below_call ?_ ?_ (by assumption)) | (with_reducible refine Below.drew ?_) | go_size))⟩
      · (repeat' (first | (with_reducible assumption) | (with_reducible refine Pt.drew ?_) | (with_reducible refine Pt.new' (by first | rfl | (simp; done) | omega)) | (with_reducible refine Pt.alloc ?_ _) | (with_reducible refine Pt.keep ?_ (by with_reducible assumption))))
      · (repeat' (first | (with_reducible assumption) | (with_reducible refine Pt.drew ?_) | (with_reducible refine Pt.new' (by first | rfl | (simp; done) | omega)) | (with_reducible refine Pt.alloc ?_ _) | (with_reducible refine Pt.keep ?_ (by with_reducible assumption))))
      · (repeat' (first | (with_reducible assumption) | (with_reducible refine Pt.drew ?_) | (with_reducible refine Pt.new' (by first | rfl | (simp; done) | omega)) | (with_reducible refine Pt.alloc ?_ _) | (with_reducible refine Pt.keep ?_ (by with_reducible assumption))))
theorem new_out (w : World) (most : Int) (h : most < 2 ∨ 1048576 < most) :
    Calls Try.prog 15 #[.int .i64 most] w fun e w' => e = .returned (.tuple #[.pointer none, .iface 60 (.int .i64 1)]) ∧ w = w' := by
  by_cases h0 : most < 2
  · have hd1 : decide ((most : Int) < 2) = true := decide_eq_true h0
    clear h
    go_enter Try.func15, Try.ntmps15
    go_wp2_with ((go_at_call 61); (with_reducible refine (of_num 1 _ rfl).mono ?_); rintro e w' ⟨rfl, rfl⟩)
    refine bodyPost_ret (by simp [results, Try.results15, go_sem]; rfl) rfl ?_
    exact ⟨rfl, rfl⟩
  · have hd1 : decide ((most : Int) < 2) = false := decide_eq_false h0
    have hd2 : decide ((1048576 : Int) < most) = true := decide_eq_true (by omega)
    clear h
    go_enter Try.func15, Try.ntmps15
    go_wp2_with ((go_at_call 61); (with_reducible refine (of_num 1 _ rfl).mono ?_); rintro e w' ⟨rfl, rfl⟩)
    refine bodyPost_ret (by simp [results, Try.results15, go_sem]; rfl) rfl ?_
    exact ⟨rfl, rfl⟩
/-! no store -/
theorem len_nil (w : World) : Calls Try.prog 33 #[.pointer none] w fun e w' => e = .returned (.int .i64 0) ∧ w = w' := by
  go_enter Try.func33, Try.ntmps33
  go_wp2_with fail
  go_ret
  exact ⟨rfl, rfl⟩
theorem room_nil (w : World) : Calls Try.prog 34 #[.pointer none] w fun e w' => e = .returned (.int .i64 0) ∧ w = w' := by
  go_enter Try.func34, Try.ntmps34
  go_wp2_with fail
  go_ret
  exact ⟨rfl, rfl⟩
theorem is_nil (w : World) (x : Nat) (hx : x < 4294967296) : Calls Try.prog 35 #[.pointer none, .int .u32 x] w fun e w' => e = .returned (.bool false) ∧ w = w' := by
  have hd : decide ((x : Int) < 0) = false := decide_eq_false (by omega)
  go_enter Try.func35, Try.ntmps35
  go_wp2_with ((go_at_call 33); (with_reducible refine (len_nil _).mono ?_); rintro e w' ⟨rfl, rfl⟩)
  go_ret
  exact ⟨ret_bool (by first | rfl | simp), rfl⟩
theorem level_nil (w : World) (x : Nat) (hx : x < 4294967296) : Calls Try.prog 17 #[.pointer none, .int .u32 x] w fun e w' => e = .returned (.int .i64 (-1)) ∧ w = w' := by
  have HX := Lib.hid hx
  clear hx
  go_enter Try.func17, Try.ntmps17
  go_wp2_with ((go_at_call 35); (with_reducible refine (is_nil _ x HX.out).mono ?_); rintro e w' ⟨rfl, rfl⟩)
  go_ret
  exact ⟨rfl, rfl⟩
theorem count_nil (w : World) (x : Nat) (hx : x < 4294967296) : Calls Try.prog 18 #[.pointer none, .int .u32 x] w fun e w' => e = .returned (.int .u64 0) ∧ w = w' := by
  have HX := Lib.hid hx
  clear hx
  go_enter Try.func18, Try.ntmps18
  go_wp2_with ((go_at_call 35); (with_reducible refine (is_nil _ x HX.out).mono ?_); rintro e w' ⟨rfl, rfl⟩)
  go_ret
  exact ⟨rfl, rfl⟩
theorem of_nil (w : World) (x : Nat) (hx : x < 4294967296) : Calls Try.prog 28 #[.pointer none, .int .u32 x] w fun e w' => e = .returned (.tuple #[.agg #[.int .u32 0, .int .u32 0, .int .u32 0, .int .u32 0], .bool false]) ∧ Below w.heap.size w w' := by
  have HX := Lib.hid hx
  clear hx
  go_enter Try.func28, Try.ntmps28
  go_wp2_with ((go_at_call 17); (with_reducible refine (level_nil _ x HX.out).mono ?_); rintro e w' ⟨rfl, rfl⟩)
  refine bodyPost_ret (by simp [results, Try.results28, go_sem]; rfl) rfl ?_
  exact ⟨rfl, by (repeat' (first | (with_reducible exact Below.refl _ _) | (with_reducible assumption) | (with_reducible refine Below.setCell ?_ ?_ _) | (with_reducible refine Below.alloc ?_ ?_ _) | (with_reducible refine below_dn ?_ _) | (with_reducible refine below_call ?_ ?_ (by assumption)) | (with_reducible refine Below.drew ?_) | go_size))⟩
theorem mark_nil (w : World) : Calls Try.prog 36 #[.pointer none] w fun e w' => e = .returned (.int .i64 0) ∧ w = w' := by
  go_enter Try.func36, Try.ntmps36
  go_wp2_with ((go_at_call 33); (with_reducible refine (len_nil _).mono ?_); rintro e w' ⟨rfl, rfl⟩)
  go_ret
  exact ⟨rfl, rfl⟩
theorem empty_nil (w : World) (l : Int) : Calls Try.prog 32 #[.pointer none, .int .i64 l] w fun e w' => e = .returned (.tuple #[.int .u32 0, .iface 60 (.int .i64 1)]) ∧ w = w' := by
  go_enter Try.func32, Try.ntmps32
  go_wp2_with ((go_at_call 61); (with_reducible refine (of_num 1 _ rfl).mono ?_); rintro e w' ⟨rfl, rfl⟩)
  refine bodyPost_ret (by simp [results, Try.results32, go_sem]; rfl) rfl ?_
  exact ⟨rfl, rfl⟩
set_option maxRecDepth 20000 in
theorem make_nil (w : World) (a b c d : Nat) (ha : a < 4294967296) : Calls Try.prog 31 #[.pointer none, .agg #[.int .u32 a, .int .u32 b, .int .u32 c, .int .u32 d]] w fun e w' => e = .returned (.tuple #[.int .u32 0, .iface 60 (.int .i64 1)]) ∧ Below w.heap.size w w' := by
  have HX := Lib.hid ha
  clear ha
  have i0 : ∀ W, (Instr.index 55 (.agg #[.int .u32 a, .int .u32 b, .int .u32 c, .int .u32 d]) (.int .i64 0)).run Try.prog W = .ok (.int .u32 a) W := fun W => idxK ⟨a, b, c, d⟩ 0 (by omega) W
  go_enter Try.func31, Try.ntmps31
  go_wp2_with ((go_at_call 17); (with_reducible refine (level_nil _ a HX.out).mono ?_); rintro e w' ⟨rfl, rfl⟩)
  refine wp_loop_rounds 1 ?_
  rw [rounds_succ]
  go_wp2_with ((go_at_call 61); (with_reducible refine (of_num 1 _ rfl).mono ?_); rintro e w' ⟨rfl, rfl⟩)
  refine bodyPost_ret (by simp [results, Try.results31, go_sem]; rfl) rfl ?_
  exact ⟨rfl, by (repeat' (first | (with_reducible exact Below.refl _ _) | (with_reducible assumption) | (with_reducible refine Below.setCell ?_ ?_ _) | (with_reducible refine Below.alloc ?_ ?_ _) | (with_reducible refine below_dn ?_ _) | (with_reducible refine below_call ?_ ?_ (by assumption)) | (with_reducible refine Below.drew ?_) | go_size))⟩
theorem back_nil (w : World) (m : Int) : Calls Try.prog 30 #[.pointer none, .int .i64 m] w fun e w' => e = .returned (.tuple #[]) ∧ w = w' := by
  go_enter Try.func30, Try.ntmps30
  go_wp2_with fail
  refine bodyPost_ret (results_none rfl _ _ _) rfl ?_
  exact ⟨rfl, rfl⟩
end Go.Proofs.Ytjiliiclebdbfaa

/- The walk of the statement StoreArgs: sizes that can't be, and no store. -/
import Derived.Test.YtjiliiclebdbfaaStoreL
namespace Go.Proofs.Ytjiliiclebdbfaa
open Go.RowKit
set_option linter.unusedVariables false
set_option linter.unusedSimpArgs false

theorem new_yes (k : Int) (h1 : decide (2 ≤ k) = true) (h2 : decide (k ≤ 1048576) = true) (w : World) :
    Calls Try.prog 15 #[.int .i64 k] w fun e w' => ∃ S, e = .returned (.tuple #[.pointer (some ⟨S, 0, none⟩), .nilIface]) ∧ Below w.heap.size w w' := by
  have h1 := of_decide_eq_true h1
  have h2 := of_decide_eq_true h2
  obtain ⟨n, rfl⟩ := Int.eq_ofNat_of_zero_le (show 0 ≤ k by omega)
  exact (new_in w n (by omega) (by omega)).mono fun e w' ⟨S, h, _, b⟩ => ⟨S, h, b⟩
theorem new_no1 (k : Int) (h1 : decide (2 ≤ k) = false) (w : World) :
    Calls Try.prog 15 #[.int .i64 k] w fun e w' => e = .returned (.tuple #[.pointer none, .iface 60 (.int .i64 1)]) ∧ w = w' :=
  new_out w k (.inl (by have := of_decide_eq_false h1; omega))
theorem new_no2 (k : Int) (h1 : decide (k ≤ 1048576) = false) (w : World) :
    Calls Try.prog 15 #[.int .i64 k] w fun e w' => e = .returned (.tuple #[.pointer none, .iface 60 (.int .i64 1)]) ∧ w = w' :=
  new_out w k (.inr (by have := of_decide_eq_false h1; omega))
theorem is_nil0 (w : World) : Calls Try.prog 35 #[.pointer none, .int .u32 0] w fun e w' => e = .returned (.bool false) ∧ w = w' := is_nil w 0 (by omega)
theorem level_nil0 (w : World) : Calls Try.prog 17 #[.pointer none, .int .u32 0] w fun e w' => e = .returned (.int .i64 (-1)) ∧ w = w' := level_nil w 0 (by omega)
theorem count_nil1 (w : World) : Calls Try.prog 18 #[.pointer none, .int .u32 1] w fun e w' => e = .returned (.int .u64 0) ∧ w = w' := count_nil w 1 (by omega)
theorem make_nil0 (w : World) : Calls Try.prog 31 #[.pointer none, .agg #[.int .u32 0, .int .u32 0, .int .u32 0, .int .u32 0]] w fun e w' => e = .returned (.tuple #[.int .u32 0, .iface 60 (.int .i64 1)]) ∧ Below w.heap.size w w' := make_nil w 0 0 0 0 (by omega)
theorem u32_rng {n : Int} (h : (Lit.int .u32 n).wf = true) : 0 ≤ n ∧ n ≤ 4294967295 := by
  have h1 : IntKind.u32.min = 0 := rfl
  have h2 : IntKind.u32.max = 4294967295 := rfl
  simp only [Lit.wf, Bool.and_eq_true, decide_eq_true_eq] at h
  omega
theorem sz1 (W : World) (O : Obj) : W.heap.size + 1 = (W.alloc O).heap.size := (World.size_alloc _ _).symm
theorem sz2 (W : World) (O O' : Obj) : W.heap.size + 1 + 1 = ((W.alloc O).alloc O').heap.size := by rw [World.size_alloc, World.size_alloc]
set_option maxRecDepth 100000 in
set_option maxHeartbeats 2000000 in
theorem storeArgs_gen (most level : Int) (x : Nat) (hx : x < 4294967296) (b1 b2 : Bool) (hb1 : decide (5000 < most) = b1) (hb2 : decide (most ≤ 1048576) = b2) (k : Int) (hk : (if b1 && b2 then Int.tmod most 5000 else most) = k) (c1 c2 : Bool) (hc1 : decide (2 ≤ k) = c1) (hc2 : decide (k ≤ 1048576) = c2) (w : World) :
    Calls Try.prog 5 #[.int .i64 most, .int .i64 level, .int .u32 x] w fun e w' => e = .returned (.bool true) ∧ Below w.heap.size w w' := by
  have q := fun w => eql_nil_nil (P := Try.prog) w (ti := 27) Try.underlying27
  have q1 := fun w => eql_iface_nil (P := Try.prog) w (ti := 27) (ta := 60) (.int .i64 1) Try.underlying27
  have i1 : isB (.num 1) [1] = true := by decide
  have HX := Lib.hid hx
  clear hx
  cases b1 <;> cases b2 <;> simp only [Bool.and_true, Bool.and_false, Bool.false_eq_true, if_true, if_false] at hk <;> subst hk <;> cases c1 <;> cases c2
  all_goals try (exfalso; clear HX i1 q q1; simp only [decide_eq_true_eq, decide_eq_false_iff_not] at hb1 hb2 hc1 hc2; omega)
  all_goals
    go_enter Try.func5, Try.ntmps5
    go_wp2_with (first | ((go_at_call 14); (with_reducible refine (lives6 _).mono ?_); rintro e w1 ⟨rfl, B1⟩) | ((go_at_call 15); (with_reducible refine (new_yes _ hc1 hc2 _).mono ?_); rintro e w2 ⟨S, rfl, B2⟩) | ((go_at_call 15); (with_reducible refine (new_no1 _ hc1 _).mono ?_); rintro e w2 ⟨rfl, rfl⟩) | ((go_at_call 15); (with_reducible refine (new_no2 _ hc2 _).mono ?_); rintro e w2 ⟨rfl, rfl⟩) | ((go_at_call 29); (with_reducible refine (is1_num 1 1 _ _ (by rfl) true i1).mono ?_); rintro e w2 ⟨rfl, rfl⟩) | ((go_at_call 29); (with_reducible refine (is1_num 1 1 _ _ (sz1 _ _) true i1).mono ?_); rintro e w2 ⟨rfl, rfl⟩) | ((go_at_call 29); (with_reducible refine (is1_num 1 1 _ _ (sz2 _ _ _) true i1).mono ?_); rintro e w2 ⟨rfl, rfl⟩) | ((go_at_call 30); (with_reducible refine (back_nil _ _).mono ?_); rintro e w2 ⟨rfl, rfl⟩) | ((go_at_call 31); (with_reducible refine (make_nil0 _).mono ?_); rintro e w3 ⟨rfl, B3⟩) | ((go_at_call 32); (with_reducible refine (empty_nil _ _).mono ?_); rintro e w2 ⟨rfl, rfl⟩) | ((go_at_call 28); (with_reducible refine (of_nil _ x HX.out).mono ?_); rintro e w4 ⟨rfl, B4⟩) | ((go_at_call 33); (with_reducible refine (len_nil _).mono ?_); rintro e w2 ⟨rfl, rfl⟩) | ((go_at_call 34); (with_reducible refine (room_nil _).mono ?_); rintro e w2 ⟨rfl, rfl⟩) | ((go_at_call 35); (with_reducible refine (is_nil0 _).mono ?_); rintro e w2 ⟨rfl, rfl⟩) | ((go_at_call 17); (with_reducible refine (level_nil0 _).mono ?_); rintro e w2 ⟨rfl, rfl⟩) | ((go_at_call 18); (with_reducible refine (count_nil1 _).mono ?_); rintro e w2 ⟨rfl, rfl⟩) | ((go_at_call 36); (with_reducible refine (mark_nil _).mono ?_); rintro e w2 ⟨rfl, rfl⟩))
    go_ret
    refine ⟨rfl, ?_⟩
    have hz1 := B1.size
    have hz3 := B3.size
    have hz4 := B4.size
    try have hz2 := B2.size
    clear HX i1 q q1 hb1 hb2 hc1 hc2
    try simp only [World.size_alloc] at hz2
    try simp only [World.size_alloc] at hz3
    (repeat' (first | (with_reducible exact Below.refl _ _) | (with_reducible assumption) | (with_reducible refine Below.setCell ?_ ?_ _) | (with_reducible refine Below.alloc ?_ ?_ _) | (with_reducible refine below_dn ?_ _) | (with_reducible refine below_call ?_ ?_ (by assumption)) | (with_reducible refine Below.drew ?_) | go_size))
    all_goals ((try simp only [World.size_alloc]); omega)
theorem storeArgs_walk (most level : Int) (x : Int) (hm : (Lit.int .i64 most).wf = true) (hl : (Lit.int .i64 level).wf = true) (hx : (Lit.int .u32 x).wf = true) (w : World) :
    Calls Try.prog 5 #[.int .i64 most, .int .i64 level, .int .u32 x] w fun e w' => e = .returned (.bool true) ∧ Below w.heap.size w w' := by
  have h := u32_rng hx
  obtain ⟨n, rfl⟩ := Int.eq_ofNat_of_zero_le h.1
  exact storeArgs_gen most level n (by omega) _ _ rfl rfl _ rfl _ _ rfl rfl w
end Go.Proofs.Ytjiliiclebdbfaa

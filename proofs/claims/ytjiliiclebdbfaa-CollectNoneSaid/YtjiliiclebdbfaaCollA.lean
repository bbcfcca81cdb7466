/- Contracts of package collect where there is no store, or no square is needed. -/
import Derived.Test.YtjiliiclebdbfaaMapK
import Derived.Test.YtjiliiclebdbfaaRow1
import Derived.Test.YtjiliiclebdbfaaQuadB
import Derived.Test.YtjiliiclebdbfaaStoreArgs
import Derived.Deep.DeepCutAuto
import Derived.StillTailTactics
namespace Go.Proofs.Ytjiliiclebdbfaa
open Go.RowKit
set_option linter.unusedVariables false
set_option linter.unusedSimpArgs false
attribute [local go_sem] eqGuard_errV neq_errV eql_errV

theorem keyed_id : Maps.Keyed Try.prog 31 := Maps.int_keyed Try.underlying31
theorem wf_u32 (x : Nat) (h : x < 4294967296) : (Lit.int .u32 (x : Int)).wf = true := by
  have h1 : IntKind.u32.min = 0 := rfl
  have h2 : IntKind.u32.max = 4294967295 := rfl
  simp only [Lit.wf, Bool.and_eq_true, decide_eq_true_eq]
  rw [h1, h2]
  omega
theorem key_id (x : Nat) (h : x < 4294967296) : keyOf Try.prog 31 (.int .u32 x) = some (.int .u32 x) := Maps.keyOf_int_mk Try.underlying31 (wf_u32 x h)
theorem key_id0 : keyOf Try.prog 31 (.int .u32 0) = some (.int .u32 0) := key_id 0 (by omega)
theorem key_id1 : keyOf Try.prog 31 (.int .u32 1) = some (.int .u32 1) := key_id 1 (by omega)
/-- The two cells. -/
noncomputable def gTwo (a b : Value) : MF := MF.put (MF.put (fun _ => none) (.int .u32 0) a) (.int .u32 1) b
theorem gTwo_at (a b : Value) (x : Nat) : gTwo a b (.int .u32 x) = if x = 0 then some a else if x = 1 then some b else none := by
  unfold gTwo
  by_cases h1 : x = 1
  · subst h1
    exact MF.put_same _ _ _
  · rw [MF.put_other _ _ (by intro e; injection e with _ e; omega)]
    by_cases h0 : x = 0
    · subst h0
      exact MF.put_same _ _ _
    · rw [MF.put_other _ _ (by intro e; injection e with _ e; omega), if_neg h0, if_neg h1]
theorem gTwo_made {w : World} {b : Nat} {a c : Value} (h : MapV w Try.prog 31 b (0 + 1 + 1) (if ((MF.put (fun _ => none) (.int .u32 0) a) (.int .u32 1)).isSome = true then (if ((fun _ => none : MF) (.int .u32 0)).isSome = true then 0 else 0 + 1) else (if ((fun _ => none : MF) (.int .u32 0)).isSome = true then 0 else 0 + 1) + 1) (MF.put (MF.put (fun _ => none) (.int .u32 0) a) (.int .u32 1) c)) : MapV w Try.prog 31 b 2 2 (gTwo a c) := by
  have e : (MF.put (fun _ => none) (.int .u32 0) a) (.int .u32 1) = none := MF.put_other _ _ (by intro e; injection e with _ e; omega)
  rw [e] at h
  exact h
theorem reach_empty (s : Option Addr) (w : World) : Calls Try.prog 39 #[.pointer s, .slice none 0 0] w fun e w' => ∃ m, e = .returned (.map (some m)) ∧ MapV w' Try.prog 31 m 2 2 (gTwo (.bool true) (.bool true)) ∧ Below w.heap.size w w' ∧ w.heap.size ≤ m := by
  have hmm := @run_makeMap Try.prog
  have M0 := Lib.hid (MapV.made w Try.prog 31)
  go_enter Try.func39, Try.ntmps39
  go_wp2_with (first | ((refine map_ins rfl (.tmp 10) (.const (.int .u32 0)) (.const (.bool true)) 73 rfl keyed_id Try.underlying73 rfl M0.out (by unfold maxLen; omega) rfl rfl key_id0 ?_); intro w1 m1 t1) | ((refine map_ins rfl (.tmp 10) (.const (.int .u32 1)) (.const (.bool true)) 73 rfl keyed_id Try.underlying73 rfl m1 (by unfold maxLen; omega) rfl rfl key_id1 ?_); intro w2 m2 t2))
  have M2 := Lib.hid (gTwo_made (a := .bool true) (c := .bool true) m2)
  have B2 := Lib.hid (show Below w.heap.size w w2 from ((Below.refl w.heap.size w).alloc (Nat.le_refl _) (.map #[] 0)).trans ((turned_below t1 (Nat.le_refl _) (by rw [World.size_alloc]; omega)).trans (turned_below t2 (Nat.le_refl _) (by have := t1.grown.size; rw [World.size_alloc] at this; omega))))
  clear m1 m2 t1 t2 M0
  refine wp_loop_rounds 1 ?_
  rw [rounds_succ]
  go_wp2_with fail
  go_ret
  exact ⟨_, rfl, M2.out, B2.out, Nat.le_refl _⟩
set_option maxHeartbeats 2000000 in
theorem reach_one (x : Nat) (hx : x < 4294967296) (b : Nat) {w : World} (hp : Pt w b #[.int .u32 x] 31) : Calls Try.prog 39 #[.pointer none, .slice (some ⟨b, 0, none⟩) 1 1] w fun e w' => ∃ m, e = .returned (.map (some m)) ∧ MapV w' Try.prog 31 m 2 2 (gTwo (.bool true) (.bool true)) ∧ Below w.heap.size w w' ∧ w.heap.size ≤ m := by
  have hmm := @run_makeMap Try.prog
  have M0 := Lib.hid (MapV.made w Try.prog 31)
  have HP := Lib.hid hp
  have HX := Lib.hid hx
  have HIS := Lib.hid fun W => is_nil W x hx
  clear hp hx
  go_enter Try.func39, Try.ntmps39
  go_upto_region 2 with (first | ((refine map_ins rfl (.tmp 10) (.const (.int .u32 0)) (.const (.bool true)) 73 rfl keyed_id Try.underlying73 rfl M0.out (by unfold maxLen; omega) rfl rfl key_id0 ?_); intro w1 m1 t1) | ((refine map_ins rfl (.tmp 10) (.const (.int .u32 1)) (.const (.bool true)) 73 rfl keyed_id Try.underlying73 rfl m1 (by unfold maxLen; omega) rfl rfl key_id1 ?_); intro w2 m2 t2))
  have M2 := Lib.hid (gTwo_made (a := .bool true) (c := .bool true) m2)
  have B2 := Lib.hid (show Below w.heap.size w w2 from ((Below.refl w.heap.size w).alloc (Nat.le_refl _) (.map #[] 0)).trans ((turned_below t1 (Nat.le_refl _) (by rw [World.size_alloc]; omega)).trans (turned_below t2 (Nat.le_refl _) (by have := t1.grown.size; rw [World.size_alloc] at this; omega))))
  have P2 := Lib.hid (HP.out.keep B2.out)
  have hbs := Lib.hid B2.out.size
  clear m1 m2 t1 t2 M0
  go_wp2_with ((with_reducible refine at_dst (N := 13) rfl ?_); (refine app_one (n := 0) (xs := []) rfl (.const (.slice none 0 0)) (.tmp 12) 76 rfl Try.underlying76 4 (.int .u32 0) info_id rfl (by omega) rfl ⟨rfl, .inl ⟨rfl, rfl⟩⟩ rfl P2.out rfl (by omega) hbs.out ?_); intro v' w3 hrow hg hv)
  have hrow' : w3.ownsRow w.heap.size 31 1 v' 1 [.int .u32 x] := hrow
  obtain ⟨g, c, rfl, hg1, hg2, hg3, hg4⟩ := ownsRow_shape hrow' (by omega)
  have c0 : w3.cell? ⟨g, 0, none⟩ = some (.int .u32 x) := hg4 0 _ rfl
  have M3 := Lib.hid (M2.out.same (hg.block _ M2.out.lt (fun e => by cases e)))
  have B3 := Lib.hid (show Below w.heap.size w w3 from ⟨hg.os.trans B2.out.os, hg.tape.trans B2.out.tape, hg.output.trans B2.out.output, Nat.le_trans B2.out.size hg.size, fun k hk => by rw [hg.block k (Nat.lt_of_lt_of_le hk B2.out.size) (fun e => by cases e)]; exact B2.out.block k hk⟩)
  have hz : (zeroValue 4).run Try.prog w3 = .ok (.bool false) w3 := by kernel_rfl
  have hlk := M3.out.look keyed_id Try.underlying73 hz (key_id x HX.out)
  have h1c : 1 ≤ c := hg3
  clear hz hrow hrow' hg hv hg1 hg2 hg3 hg4 M2 B2 P2 hbs hmm
  by_cases h2 : x = 0 ∨ x = 1
  · have e : (gTwo (.bool true) (.bool true) (.int .u32 x)).getD (.bool false) = .bool true := by rw [gTwo_at]; rcases h2 with rfl | rfl <;> rfl
    rw [e] at hlk
    clear e h2
    refine wp_loop_rounds 2 ?_
    iterate 2
      all_goals rw [rounds_succ]
      all_goals go_wp2_with fail
    go_ret
    exact ⟨_, rfl, M3.out, B3.out, Nat.le_refl _⟩
  · have e : (gTwo (.bool true) (.bool true) (.int .u32 x)).getD (.bool false) = .bool false := by rw [gTwo_at, if_neg (by omega), if_neg (by omega)]; rfl
    rw [e] at hlk
    clear e h2
    refine wp_loop_rounds 2 ?_
    iterate 2
      all_goals rw [rounds_succ]
      all_goals go_wp2_with ((go_at_call 35); (with_reducible refine (HIS.out _).mono ?_); rintro e w' ⟨rfl, rfl⟩)
    go_ret
    exact ⟨_, rfl, M3.out, B3.out, Nat.le_refl _⟩
theorem none_any (x : Nat) (w : World) : Calls Try.prog 68 #[.int .u32 x] w fun e w' => e = .returned (.tuple #[.int .u32 0, .bool false]) ∧ w = w' := by
  go_enter Try.func68, Try.ntmps68
  go_wp2
  refine bodyPost_ret (by simp [results, Try.results68, go_sem, *]; rfl) rfl ?_
  exact ⟨rfl, rfl⟩
theorem collect_nil (v : Value) (w : World) : Calls Try.prog 38 #[.pointer none, v] w fun e w' => e = .returned (.tuple #[.pointer none, .func (.func 68) #[] #[], .iface 60 (.int .i64 1)]) ∧ w = w' := by
  go_enter Try.func38, Try.ntmps38
  go_wp2_with ((go_at_call 61); (with_reducible refine (of_num 1 _ rfl).mono ?_); rintro e w' ⟨rfl, rfl⟩)
  refine bodyPost_ret (by simp [results, Try.results38, go_sem, *]; rfl) rfl ?_
  exact ⟨rfl, rfl⟩
theorem makeMap_room {t k e : TypeId} (ht : Try.prog.underlying t = some (.map k e)) (n : Nat) (w : World) : (Instr.makeMap t (some (.int .i64 n))).run Try.prog w = .ok (.map (some w.heap.size)) (w.alloc (.map #[] 0)) := by
  simp [Instr.makeMap, run_underlying ht, asInt, asIntOf]
end Go.Proofs.Ytjiliiclebdbfaa

/- Contracts of package roots. -/
import Derived.Test.YtmjdlofkjjofcaaProg
import Derived.Test.YtmjdlofkjjofcaaMapV
import Derived.Test.YtmjdlofkjjofcaaFault
import Derived.Test.YtmjdlofkjjofcaaFaultB
import Derived.Deep.QuietTactic
import Derived.BigQuiet
import Derived.Deep.RegionWith
import Derived.Deep.DrawnRows
import Derived.Deep.RegionLaw
import Derived.Deep.AppendLies
import Derived.Deep.DeepCutAuto
import Derived.StillTailTactics
namespace Go.Proofs.Ytmjdlofkjjofcaa
open Go.RowKit
set_option linter.unusedVariables false
set_option linter.unusedSimpArgs false

theorem keyed_h : Maps.Keyed Try.prog 79 := Maps.int_keyed Try.underlying79
def wfI (h : Int) : Prop := -9223372036854775808 ≤ h ∧ h ≤ 9223372036854775807
theorem key_h (h : Int) (hw : wfI h) : keyOf Try.prog 79 (.int .i64 h) = some (.int .i64 h) := Maps.keyOf_int_mk Try.underlying79 (by
  have h1 : IntKind.i64.min = -9223372036854775808 := rfl
  have h2 : IntKind.i64.max = 9223372036854775807 := rfl
  simp only [Lit.wf, Bool.and_eq_true, decide_eq_true_eq]
  rw [h1, h2]
  exact hw)
theorem Pt.ne_map {w : World} {P : Program} {r mb n s : Nat} {cs : Array Value} {T k : TypeId} {g : MF} (p : Pt w r cs T) (m : MapV w P k mb n s g) : r ≠ mb := by
  intro e
  subst e
  obtain ⟨D, ⟨es, clock, hb, _⟩, _⟩ := m
  unfold Pt at p
  rw [p] at hb
  cases hb
/-- Block r is one of Roots; its map lies at mb. -/
structure Rt (w : World) (r mb n s : Nat) (last most : Int) (g : MF) : Prop where
  pt : Pt w r #[.map (some mb), .int .i64 last, .int .i64 most] 120
  mp : MapV w Try.prog 79 mb n s g
/-- All old blocks but two are as they were. -/
structure RtF (r mb : Nat) (w w' : World) : Prop where
  os : w'.os = w.os
  tape : w'.tape = w.tape
  output : w'.output = w.output
  size : w.heap.size ≤ w'.heap.size
  block : ∀ b, b < w.heap.size → b ≠ r → b ≠ mb → w'.heap[b]? = w.heap[b]?
section
variable {r mb n s : Nat} {last most : Int} {g : MF} {w w' w'' : World}
theorem RtF.of (h : Below w.heap.size w w') : RtF r mb w w' := ⟨h.os, h.tape, h.output, h.size, fun b hb _ _ => h.block b hb⟩
theorem RtF.trans (h : RtF r mb w w') (k : RtF r mb w' w'') : RtF r mb w w'' := ⟨k.os.trans h.os, k.tape.trans h.tape, k.output.trans h.output, Nat.le_trans h.size k.size, fun b hb h1 h2 => (k.block b (Nat.lt_of_lt_of_le hb h.size) h1 h2).trans (h.block b hb h1 h2)⟩
theorem RtF.turn (h : w.mapTurned w' mb) : RtF r mb w w' := by
  have hg := h.grown
  exact ⟨hg.os, hg.tape, hg.output, hg.size, fun b hb _ h2 => turned_other h hb h2⟩
theorem RtF.set (h : RtF r mb w w') (o : Nat) (v : Value) : RtF r mb w (w'.setCell ⟨r, o, none⟩ v) :=
  ⟨h.os, h.tape, h.output, by rw [World.size_setCell]; exact h.size, fun b hb h1 h2 => by rw [Below.heap_setCell _ _ _ _ h1]; exact h.block b hb h1 h2⟩
theorem RtF.below {B : Nat} (h : RtF r mb w w') (hr : B ≤ r) (hm : B ≤ mb) (hB : B ≤ w.heap.size) : Below B w w' :=
  ⟨h.os, h.tape, h.output, h.size, fun b hb => h.block b (by omega) (by omega) (by omega)⟩
theorem Rt.keep (h : Rt w r mb n s last most g) (b : Below w.heap.size w w') : Rt w' r mb n s last most g := ⟨h.pt.keep b, h.mp.keep b⟩
theorem roots_new (most : Int) (w : World) : Calls Try.prog 91 #[.int .i64 most] w fun e w' => e = .returned (.pointer (some ⟨w.heap.size + 1, 0, none⟩)) ∧ Rt w' (w.heap.size + 1) w.heap.size 0 0 0 most (fun _ => none) ∧ Below w.heap.size w w' := by
  have hmm := @run_makeMap Try.prog
  go_enter Try.func91, Try.ntmps91
  go_wp2
  go_ret
  refine ⟨rfl, ⟨Pt.new' (by rw [World.size_alloc]), (MapV.made w _ _).keep ((Below.refl _ _).alloc (Nat.le_refl _) _)⟩, ((Below.refl _ _).alloc (Nat.le_refl _) _).alloc (by rw [World.size_alloc]; omega) _⟩
theorem fld0 (x y : Int) (w : World) : (Instr.field 122 (.agg #[.int .u32 x, .int .i64 y]) 0).run Try.prog w = .ok (.int .u32 x) w := by kernel_rfl
theorem fld1 (x y : Int) (w : World) : (Instr.field 122 (.agg #[.int .u32 x, .int .i64 y]) 1).run Try.prog w = .ok (.int .i64 y) w := by kernel_rfl
def vX (o : Option Value) (x : Nat) : Prop := ∃ held : Int, o.getD (.agg #[.int .u32 0, .int .i64 0]) = .agg #[.int .u32 x, .int .i64 held]
set_option maxHeartbeats 2000000 in
theorem roots_get (hr : Rt w r mb n s last most g) (h : Int) (hw : wfI h) (x : Nat) (held : Int) (is : Bool) (hv : (g (.int .i64 h)).getD (.agg #[.int .u32 0, .int .i64 0]) = .agg #[.int .u32 x, .int .i64 held]) (his : (g (.int .i64 h)).isSome = is) {W : World} (b : Below w.heap.size w W) :
    Calls Try.prog 55 #[.pointer (some ⟨r, 0, none⟩), .int .i64 h] W fun e w' => e = .returned (.tuple #[.int .u32 x, .bool is]) ∧ Below W.heap.size W w' := by
  have R := hr.keep b
  have c := R.pt.cell
  have l := R.pt.lt
  have hz : (zeroValue 122).run Try.prog W = .ok (.agg #[.int .u32 0, .int .i64 0]) W := by kernel_rfl
  have hlk := R.mp.look_ok keyed_h Try.underlying118 hz (key_h h hw)
  rw [hv, his] at hlk
  clear hz R hr b hv his hw
  go_enter Try.func55, Try.ntmps55
  go_wp2
  refine bodyPost_ret (by simp [results, Try.results55, go_sem, *]; rfl) rfl ?_
  exact ⟨rfl, by (repeat' (first | (with_reducible exact Below.refl _ _) | (with_reducible assumption) | (with_reducible refine Below.setCell ?_ ?_ _) | (with_reducible refine Below.alloc ?_ ?_ _) | (with_reducible refine below_dn ?_ _) | (with_reducible refine below_call ?_ ?_ (by assumption)) | (with_reducible refine Below.drew ?_) | go_size))⟩
theorem setR1 {W : World} (h : Rt W r mb n s last most g) (v : Int) : Rt (W.setCell ⟨r, 1, none⟩ (.int .i64 v)) r mb n s v most g :=
  ⟨h.pt.set 1 (.int .i64 v), h.mp.set (fun e => (h.pt.ne_map h.mp) e.symm) _⟩
set_option maxRecDepth 20000 in
set_option maxHeartbeats 2000000 in
theorem roots_put (hr : Rt w r mb n s last most g) (x : Nat) (hroom : (s : Int) < most) (hl : -9223372036854775808 ≤ last ∧ last < 9223372036854775807) (hn : n < maxLen) (s' : Nat) (hs' : s' = if (g (.int .i64 (last + 1))).isSome = true then s else s + 1) :
    Calls Try.prog 54 #[.pointer (some ⟨r, 0, none⟩), .int .u32 x] w fun e w' => e = .returned (.tuple #[.int .i64 (last + 1), .nilIface]) ∧ Rt w' r mb (n + 1) s' (last + 1) most (g.put (.int .i64 (last + 1)) (.agg #[.int .u32 x, .int .i64 1])) ∧ RtF r mb w w' := by
  have R := Lib.hid hr
  have HN := Lib.hid hn
  have c := hr.pt.cell
  have l := hr.pt.lt
  have fz := hr.pt.frozen
  have hlen := fun ty => hr.mp.len Try.underlying118 ty
  have h1 : -9223372036854775808 ≤ last := hl.1
  have h2 : last < 9223372036854775807 := hl.2
  have HW := Lib.hid (show wfI (last + 1) from ⟨by omega, by omega⟩)
  have HS := Lib.hid hs'
  clear hr hn hl hs'
  have R1 := Lib.hid (show Rt w.drew r mb n s last most g from ⟨R.out.pt, R.out.mp.same rfl⟩)
  have F1 := Lib.hid (show RtF r mb w w.drew from RtF.of (below_dn (Below.refl _ _) 1))
  clear hlen
  go_enter Try.func54, Try.ntmps54
  go_upto_region 3 with fail
  go_cut [10] (fun s10 W => s10 = .bool false ∧ Hid (Rt W r mb n s last most g) ∧ Hid (RtF r mb w W))
  case first =>
    go_region_law (refine map_len_if rfl (.tmp 14) 118 rfl Try.underlying118 rfl (R.out.mp.same rfl) ?_)
    all_goals (go_wp2_with fail; go_meet)
    all_goals exact ⟨by rw [decide_eq_false (by omega)], R1, F1⟩
  case rest =>
    obtain ⟨rfl, R2, F2⟩ := hcut
    clear c l fz R1 F1 R
    have c := R2.out.pt.cell
    have l := R2.out.pt.lt
    have fz := R2.out.pt.frozen
    go_upto_region 6 with fail
    have R3 := Lib.hid (setR1 R2.out (last + 1))
    have F3 := Lib.hid (F2.out.set 1 (.int .i64 (last + 1)))
    clear c l fz R2 F2
    generalize wc.setCell ⟨r, 1, none⟩ (.int .i64 (last + 1)) = W3 at *
    obtain ⟨w4, e4, m4, t4⟩ := (R3.out.mp.same (w' := W3.drew) rfl).store keyed_h Try.underlying118 HN.out (key_h (last + 1) HW.out) (val := .agg #[.int .u32 x, .int .i64 1])
    rw [← HS.out] at m4
    have p4 := Pt.turned (show Pt W3.drew r _ _ from R3.out.pt) t4 (R3.out.pt.ne_map R3.out.mp)
    have R4 := Lib.hid (show Rt w4 r mb (n + 1) _ (last + 1) most _ from ⟨p4, m4⟩)
    have F4 := Lib.hid (F3.out.trans ((show RtF r mb W3 W3.drew from RtF.of (below_dn (Below.refl _ _) 1)).trans (RtF.turn t4)))
    have c3 : ∀ o, W3.drew.cell? ⟨r, o, none⟩ = #[.map (some mb), .int .i64 (last + 1), .int .i64 most][o]? := fun o => R3.out.pt.cell o
    have l3 := R3.out.pt.lt
    have c4 := p4.cell
    have l4 := p4.lt
    clear m4 t4 p4 F3 R3 h1 h2 hroom
    go_region
    go_wp2
    refine bodyPost_ret (by simp [results, Try.results54, go_sem, *]; rfl) rfl ?_
    exact ⟨rfl, R4.out, F4.out⟩
set_option maxRecDepth 20000 in
set_option maxHeartbeats 2000000 in
theorem roots_take (hr : Rt w r mb n s last most g) (h : Int) (hw : wfI h) (x : Nat) (held : Int) (hg : g (.int .i64 h) = some (.agg #[.int .u32 x, .int .i64 held])) (hh : 0 ≤ held ∧ held < 9223372036854775807) (hn : n < maxLen) :
    Calls Try.prog 59 #[.pointer (some ⟨r, 0, none⟩), .int .i64 h] w fun e w' => e = .returned .nilIface ∧ Rt w' r mb (n + 1) s last most (g.put (.int .i64 h) (.agg #[.int .u32 x, .int .i64 (held + 1)])) ∧ RtF r mb w w' := by
  have HG := Lib.hid (roots_get hr h hw x held true (by rw [hg]; rfl) (by rw [hg]; rfl) (Below.refl _ _))
  have R := Lib.hid hr
  have HW := Lib.hid hw
  have HN := Lib.hid hn
  have HV := Lib.hid hg
  have hwr := Lib.hid (show IntKind.i64.wrap (held + 1) = held + 1 by rw [i64_w, w64 (by omega) (by omega)])
  have HH := Lib.hid hh
  clear hr hw hn hg hh
  go_enter Try.func59, Try.ntmps59
  go_upto_region 4 with ((go_at_call 55); (with_reducible refine HG.out.mono ?_); rintro e w1 ⟨rfl, hb_w1⟩; obtain ⟨hc, hf⟩ := bcell hb_w1; have hz := hb_w1.size; (try simp only [World.size_alloc, World.size_setCell, World.size_drew] at hz); (first | (with_reducible have hl := lt_rule6 hz) | (with_reducible have hl := lt_rule5 hz) | (with_reducible have hl := lt_rule4 hz) | (with_reducible have hl := lt_rule3 hz) | (with_reducible have hl := lt_rule2 hz) | (with_reducible have hl := lt_rule1 hz) | have hl := lt_rule0 hz); (try (have hz0 : w.heap.size < w1.heap.size := by omega)); (try (have hz1 : w.heap.size + 1 < w1.heap.size := by omega)); (try (have hz2 : w.heap.size + 1 + 1 < w1.heap.size := by omega)); (try (have hz3 : w.heap.size + 1 + 1 + 1 < w1.heap.size := by omega)); (try (have hz4 : w.heap.size + 1 + 1 + 1 + 1 < w1.heap.size := by omega)))
  have R1 := Lib.hid (R.out.keep hb_w1)
  have F1 := Lib.hid (show RtF r mb w w1 from RtF.of hb_w1)
  clear hb_w1 hc hf hz hl HG R
  have hzv : (zeroValue 122).run Try.prog w1.drew = .ok (.agg #[.int .u32 0, .int .i64 0]) w1.drew := by kernel_rfl
  have hlk := (R1.out.mp.same (w' := w1.drew) rfl).look keyed_h Try.underlying118 hzv (key_h h HW.out)
  obtain ⟨w4, e4, m4, t4⟩ := (R1.out.mp.same (w' := w1.drew) rfl).store keyed_h Try.underlying118 HN.out (key_h h HW.out) (val := .agg #[.int .u32 x, .int .i64 (held + 1)])
  rw [HV.out] at hlk m4
  have hlk2 : (Instr.lookup 118 (.map (some mb)) (.int .i64 h) false).run Try.prog w1.drew = .ok (.agg #[.int .u32 x, .int .i64 held]) w1.drew := hlk
  have m5 : MapV w4 Try.prog 79 mb (n + 1) s (g.put (.int .i64 h) (.agg #[.int .u32 x, .int .i64 (held + 1)])) := m4
  have p4 := Pt.turned (show Pt w1.drew r _ _ from R1.out.pt) t4 (R1.out.pt.ne_map R1.out.mp)
  have R4 := Lib.hid (show Rt w4 r mb (n + 1) s last most _ from ⟨p4, m5⟩)
  have F4 := Lib.hid (F1.out.trans ((show RtF r mb w1 w1.drew from RtF.of (below_dn (Below.refl _ _) 1)).trans (RtF.turn t4)))
  have c3 : ∀ o, w1.drew.cell? ⟨r, o, none⟩ = #[.map (some mb), .int .i64 last, .int .i64 most][o]? := fun o => R1.out.pt.cell o
  have l3 := R1.out.pt.lt
  have hwo := hwr.out
  have f0 := fld0
  have f1 := fld1
  clear m4 m5 t4 p4 F1 R1 hlk hzv HV
  go_region
  all_goals
    go_wp2
    go_ret
    exact ⟨rfl, R4.out, F4.out⟩
set_option maxRecDepth 20000 in
set_option maxHeartbeats 2000000 in
theorem roots_drop (hr : Rt w r mb n s last most g) (h : Int) (hw : wfI h) (x : Nat) (hg : g (.int .i64 h) = some (.agg #[.int .u32 x, .int .i64 1])) :
    Calls Try.prog 60 #[.pointer (some ⟨r, 0, none⟩), .int .i64 h] w fun e w' => e = .returned .nilIface ∧ Rt w' r mb n (s - 1) last most (g.del (.int .i64 h)) ∧ RtF r mb w w' := by
  have HG := Lib.hid (roots_get hr h hw x 1 true (by rw [hg]; rfl) (by rw [hg]; rfl) (Below.refl _ _))
  have R := Lib.hid hr
  have HW := Lib.hid hw
  have HV := Lib.hid hg
  have hzv : ∀ W, (zeroValue 122).run Try.prog W = .ok (.agg #[.int .u32 0, .int .i64 0]) W := fun W => by kernel_rfl
  have HZ := Lib.hid hzv
  clear hr hw hg hzv
  go_enter Try.func60, Try.ntmps60
  go_upto_region 4 with ((go_at_call 55); (with_reducible refine HG.out.mono ?_); rintro e w1 ⟨rfl, hb_w1⟩; obtain ⟨hc, hf⟩ := bcell hb_w1; have hz := hb_w1.size; (try simp only [World.size_alloc, World.size_setCell, World.size_drew] at hz); (first | (with_reducible have hl := lt_rule6 hz) | (with_reducible have hl := lt_rule5 hz) | (with_reducible have hl := lt_rule4 hz) | (with_reducible have hl := lt_rule3 hz) | (with_reducible have hl := lt_rule2 hz) | (with_reducible have hl := lt_rule1 hz) | have hl := lt_rule0 hz); (try (have hz0 : w.heap.size < w1.heap.size := by omega)); (try (have hz1 : w.heap.size + 1 < w1.heap.size := by omega)); (try (have hz2 : w.heap.size + 1 + 1 < w1.heap.size := by omega)); (try (have hz3 : w.heap.size + 1 + 1 + 1 < w1.heap.size := by omega)); (try (have hz4 : w.heap.size + 1 + 1 + 1 + 1 < w1.heap.size := by omega)))
  have R1 := Lib.hid (R.out.keep hb_w1)
  have B1 := Lib.hid hb_w1
  have hlk := R1.out.mp.look keyed_h Try.underlying118 (HZ.out _) (key_h h HW.out)
  rw [HV.out] at hlk
  have hlk2 : (Instr.lookup 118 (.map (some mb)) (.int .i64 h) false).run Try.prog w1 = .ok (.agg #[.int .u32 x, .int .i64 1]) w1 := hlk
  have c := R1.out.pt.cell
  have l := R1.out.pt.lt
  clear hb_w1 hc hf hz hl HG R hlk
  go_upto_region 7 with fail
  have BA := Lib.hid ((Below.refl w1.heap.size w1).alloc (Nat.le_refl _) (.cells #[.int .u32 x, .int .i64 0] 122))
  have R2 := Lib.hid (R1.out.keep BA.out)
  have F2 := Lib.hid (show RtF r mb w (w1.alloc (.cells #[.int .u32 x, .int .i64 0] 122)) from RtF.of (B1.out.trans (BA.out.mono B1.out.size)))
  clear c l hlk2 R1 B1 BA HZ
  generalize w1.alloc (.cells #[.int .u32 x, .int .i64 0] 122) = W2 at *
  have c := R2.out.pt.cell
  have l := R2.out.pt.lt
  go_wp2_with ((refine map_del (key := .int .i64 h) rfl (.tmp 33) (.tmp 34) 118 rfl keyed_h Try.underlying118 rfl R2.out.mp rfl (key_h h HW.out) ?_); intro w4 m4 t4)
  go_ret
  rw [HV.out] at m4
  exact ⟨rfl, ⟨Pt.turned R2.out.pt t4 (R2.out.pt.ne_map R2.out.mp), m4⟩, F2.out.trans (RtF.turn t4)⟩
set_option maxRecDepth 20000 in
set_option maxHeartbeats 2000000 in
theorem roots_less (hr : Rt w r mb n s last most g) (h : Int) (hw : wfI h) (x : Nat) (held : Int) (hg : g (.int .i64 h) = some (.agg #[.int .u32 x, .int .i64 held])) (hh : 1 < held ∧ held ≤ 9223372036854775807) (hn : n < maxLen) :
    Calls Try.prog 60 #[.pointer (some ⟨r, 0, none⟩), .int .i64 h] w fun e w' => e = .returned .nilIface ∧ Rt w' r mb (n + 1) s last most (g.put (.int .i64 h) (.agg #[.int .u32 x, .int .i64 (held - 1)])) ∧ RtF r mb w w' := by
  have HG := Lib.hid (roots_get hr h hw x held true (by rw [hg]; rfl) (by rw [hg]; rfl) (Below.refl _ _))
  have R := Lib.hid hr
  have HW := Lib.hid hw
  have HV := Lib.hid hg
  have HN := Lib.hid hn
  have hzv : ∀ W, (zeroValue 122).run Try.prog W = .ok (.agg #[.int .u32 0, .int .i64 0]) W := fun W => by kernel_rfl
  have HZ := Lib.hid hzv
  have hw1 : wrap64 (held - 1) = held - 1 := w64 (by omega) (by omega)
  have hne : ¬ held - 1 = 0 := by omega
  have HWR := Lib.hid hw1
  clear hr hw hg hzv hn hh
  go_enter Try.func60, Try.ntmps60
  go_upto_region 4 with ((go_at_call 55); (with_reducible refine HG.out.mono ?_); rintro e w1 ⟨rfl, hb_w1⟩; obtain ⟨hc, hf⟩ := bcell hb_w1; have hz := hb_w1.size; (try simp only [World.size_alloc, World.size_setCell, World.size_drew] at hz); (first | (with_reducible have hl := lt_rule6 hz) | (with_reducible have hl := lt_rule5 hz) | (with_reducible have hl := lt_rule4 hz) | (with_reducible have hl := lt_rule3 hz) | (with_reducible have hl := lt_rule2 hz) | (with_reducible have hl := lt_rule1 hz) | have hl := lt_rule0 hz); (try (have hz0 : w.heap.size < w1.heap.size := by omega)); (try (have hz1 : w.heap.size + 1 < w1.heap.size := by omega)); (try (have hz2 : w.heap.size + 1 + 1 < w1.heap.size := by omega)); (try (have hz3 : w.heap.size + 1 + 1 + 1 < w1.heap.size := by omega)); (try (have hz4 : w.heap.size + 1 + 1 + 1 + 1 < w1.heap.size := by omega)))
  have R1 := Lib.hid (R.out.keep hb_w1)
  have B1 := Lib.hid hb_w1
  have hlk := R1.out.mp.look keyed_h Try.underlying118 (HZ.out _) (key_h h HW.out)
  rw [HV.out] at hlk
  have hlk2 : (Instr.lookup 118 (.map (some mb)) (.int .i64 h) false).run Try.prog w1 = .ok (.agg #[.int .u32 x, .int .i64 held]) w1 := hlk
  have c := R1.out.pt.cell
  have l := R1.out.pt.lt
  clear hb_w1 hc hf hz hl HG R hlk
  go_upto_region 8 with fail
  have BA := Lib.hid ((Below.refl w1.heap.size w1).alloc (Nat.le_refl _) (.cells #[.int .u32 x, .int .i64 (held - 1)] 122))
  have R2 := Lib.hid (R1.out.keep BA.out)
  have F2 := Lib.hid (show RtF r mb w (w1.alloc (.cells #[.int .u32 x, .int .i64 (held - 1)] 122)) from RtF.of (B1.out.trans (BA.out.mono B1.out.size)))
  have PB := Lib.hid (Pt.new w1 #[.int .u32 x, .int .i64 (held - 1)] 122)
  clear c l hlk2 R1 B1 BA HZ hw1 HWR
  generalize w1.heap.size = bb at *
  generalize w1.alloc (.cells #[.int .u32 x, .int .i64 (held - 1)] 122) = W2 at *
  obtain ⟨w4, e4, m4, t4⟩ := (R2.out.mp.same (w' := W2.drew) rfl).store keyed_h Try.underlying118 HN.out (key_h h HW.out) (val := .agg #[.int .u32 x, .int .i64 (held - 1)])
  rw [HV.out] at m4
  have m5 : MapV w4 Try.prog 79 mb (n + 1) s (g.put (.int .i64 h) (.agg #[.int .u32 x, .int .i64 (held - 1)])) := m4
  have R4 := Lib.hid (show Rt w4 r mb (n + 1) s last most _ from ⟨Pt.turned (show Pt W2.drew r _ _ from R2.out.pt) t4 (R2.out.pt.ne_map R2.out.mp), m5⟩)
  have F4 := Lib.hid (F2.out.trans ((show RtF r mb W2 W2.drew from RtF.of (below_dn (Below.refl _ _) 1)).trans (RtF.turn t4)))
  have c3 : ∀ o, W2.drew.cell? ⟨r, o, none⟩ = #[.map (some mb), .int .i64 last, .int .i64 most][o]? := fun o => R2.out.pt.cell o
  have c5 : ∀ o, W2.drew.cell? ⟨bb, o, none⟩ = #[.int .u32 x, .int .i64 (held - 1)][o]? := fun o => PB.out.cell o
  have l3 := R2.out.pt.lt
  have l5 := PB.out.lt
  clear m4 m5 t4 F2 R2 PB HV hne
  go_region
  all_goals
    go_wp2
    go_ret
    exact ⟨rfl, R4.out, F4.out⟩
end
end Go.Proofs.Ytmjdlofkjjofcaa

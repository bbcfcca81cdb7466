/- The chapter's example of layer 13, and the statement CollectNone: no store. -/
import Derived.Test.YtjiliiclebdbfaaCollA
import Derived.Test.YtjiliiclebdbfaaQuadA
import Derived.Deep.RegionWith
import Derived.Deep.DrawnRows
import Derived.Deep.DeepCutAuto
import Derived.StillTailTactics
import Derived.Deep.RegionLaw
import Derived.Deep.AppendLies
namespace Go.Proofs.Ytjiliiclebdbfaa
open Go.RowKit
set_option linter.unusedVariables false
set_option linter.unusedSimpArgs false
attribute [local go_sem] eqGuard_errV neq_errV eql_errV

section
variable {P : Program} {w : World} {k e t : TypeId} {b n s : Nat} {g : MF} {ops : Array Oper} {rest : List Oper} {o : Oper} {a : Act} {Q : Exit → Act → World → Prop}
/-- A write into a map, inside a region that draws. -/
theorem map_put_if {K' : Act → World → Prop} {E : Prop} (hgd : o.guard = none) (m x v : Operand) (t : TypeId) (hop : o.op = Op.mapUpdate t m x v) (K : Maps.Keyed P k) (ht : P.underlying t = some (.map k e))
    (hm : a.eval m = .map (some b)) (h : MapV w P k b n s g) (hn : n < maxLen) {key val : Value} {kl : Lit} (hx : a.eval x = key) (hv : a.eval v = val) (hkey : keyOf P k key = some kl)
    (hK : ∀ w', MapV w' P k b (n + 1) (if (g key).isSome then s else s + 1) (g.put key val) → w.mapTurned w' b → K' (a.put o.dst undef) w') : if Region.wanted o (yielded ops a.tmps) = true then Oper.wp P o a w K' Q else E := by
  rw [if_pos (show Region.wanted o (yielded ops a.tmps) = true by simp [Region.wanted, hgd])]
  obtain ⟨w', hrun, r1, r2⟩ := h.store K ht hn hkey (val := val)
  unfold Oper.wp
  simp [execOp, hop, hm, hx, hv, hrun, Result.andThen]
  exact hK w' r1 r2
end
theorem gTwo_comm (a b : Value) : MF.put (MF.put (fun _ => none) (.int .u32 1) b) (.int .u32 0) a = gTwo a b := by
  unfold gTwo MF.put
  funext x
  by_cases h0 : x = .int .u32 0
  · subst h0; simp
  · simp [h0]
/-- Two writes into a new map, in either order. -/
theorem two_writes {W : World} {nb : Nat} {va vb : Value} (h : MapV W Try.prog 31 nb 0 0 fun _ => none) :
    ∃ wA wB wC wD, (Instr.mapUpdate 135 (.map (some nb)) (.int .u32 0) va).run Try.prog W = .ok () wA ∧ (Instr.mapUpdate 135 (.map (some nb)) (.int .u32 1) vb).run Try.prog W = .ok () wB ∧
      (Instr.mapUpdate 135 (.map (some nb)) (.int .u32 1) vb).run Try.prog wA = .ok () wC ∧ (Instr.mapUpdate 135 (.map (some nb)) (.int .u32 0) va).run Try.prog wB = .ok () wD ∧
      W.mapTurned wA nb ∧ W.mapTurned wB nb ∧ wA.mapTurned wC nb ∧ wB.mapTurned wD nb ∧ MapV wC Try.prog 31 nb 2 2 (gTwo va vb) ∧ MapV wD Try.prog 31 nb 2 2 (gTwo va vb) := by
  obtain ⟨wA, eA, mA, tA⟩ := h.store keyed_id Try.underlying135 (by unfold maxLen; omega) key_id0 (val := va)
  obtain ⟨wB, eB, mB, tB⟩ := h.store keyed_id Try.underlying135 (by unfold maxLen; omega) key_id1 (val := vb)
  obtain ⟨wC, eC, mC, tC⟩ := mA.store keyed_id Try.underlying135 (by unfold maxLen; omega) key_id1 (val := vb)
  obtain ⟨wD, eD, mD, tD⟩ := mB.store keyed_id Try.underlying135 (by unfold maxLen; omega) key_id0 (val := va)
  refine ⟨wA, wB, wC, wD, eA, eB, eC, eD, tA, tB, tC, tD, gTwo_made mC, ?_⟩
  have e : (MF.put (fun _ => none) (.int .u32 1) vb) (.int .u32 0) = none := MF.put_other _ _ (by intro e; injection e with _ e; omega)
  rw [e, gTwo_comm] at mD
  exact mD
def nFour : List Nd := (emptyN twoN 99 4).2.2
theorem four_len : nFour.length = 6 := by kernel_rfl
theorem four_err : (emptyN twoN 99 4).2.1 = 0 := by kernel_rfl
set_option maxRecDepth 20000 in
set_option maxHeartbeats 4000000 in
theorem collect_four {base S : Nat} {w : World} (h : St base w S nFour 99) : Calls Try.prog 38 #[.pointer (some ⟨S, 0, none⟩), .slice none 0 0] w fun e w' => ∃ T bx m n base2, e = .returned (.tuple #[.pointer (some ⟨T, 0, none⟩), .func (.func 70) #[] #[.pointer (some ⟨bx, 0, none⟩)], .nilIface]) ∧ St base2 w' T twoN 99 ∧ Pt w' bx #[.map (some m)] 135 ∧ MapV w' Try.prog 31 m n 2 (gTwo (.int .u32 0) (.int .u32 1)) ∧ Below w.heap.size w w' := by
  have H := Lib.hid h
  have HRE := Lib.hid (reach_empty (some ⟨S, 0, none⟩) w)
  have HLE := Lib.hid fun W (b : Below w.heap.size w W) => (show Calls Try.prog 33 #[.pointer (some ⟨S, 0, none⟩)] W fun e w' => e = .returned (.int .i64 6) ∧ W = w' by
    have := len_st (h.below b)
    rw [four_len] at this
    exact this)
  have HRO := Lib.hid fun W (b : Below w.heap.size w W) => (show Calls Try.prog 34 #[.pointer (some ⟨S, 0, none⟩)] W fun e w' => e = .returned (.int .i64 93) ∧ ∃ q, w' = W.drewN q by
    have := room_st (h.below b)
    rw [four_len] at this
    exact this)
  have HN := Lib.hid fun W => (show Calls Try.prog 15 #[.int .i64 99] W _ from new_in W 99 (by omega) (by omega))
  have q3 := fun w => eql_nil_nil (P := Try.prog) w (ti := 27) Try.underlying27
  have q4 := fun w => neq_nil_nil (P := Try.prog) w (ti := 27) Try.underlying27
  clear h
  go_enter Try.func38, Try.ntmps38
  go_wp2_with (first | ((go_at_call 39); (with_reducible refine HRE.out.mono ?_); rintro e w1 ⟨m1, rfl, M1, B1, hm1⟩) | ((go_at_call 33); (with_reducible refine (HLE.out _ (by (repeat' (first | (with_reducible exact Below.refl _ _) | (with_reducible assumption) | (with_reducible exact Hid.out (by assumption)) | (with_reducible refine below_a ?_ _) | (with_reducible refine below_dn ?_ _) | (with_reducible refine below_c ?_ (by assumption)) | (with_reducible refine below_d ?_) | (with_reducible refine Below.setCell ?_ ?_ _) | (with_reducible refine Below.alloc ?_ ?_ _) | (with_reducible refine below_call ?_ ?_ (by assumption)) | (with_reducible refine Below.drew ?_) | go_size | ((try simp only [World.size_alloc, World.size_setCell, World.size_drew] at *); omega))))).mono ?_); rintro e w' ⟨rfl, rfl⟩) | ((go_at_call 34); (with_reducible refine (HRO.out _ (by (repeat' (first | (with_reducible exact Below.refl _ _) | (with_reducible assumption) | (with_reducible exact Hid.out (by assumption)) | (with_reducible refine below_a ?_ _) | (with_reducible refine below_dn ?_ _) | (with_reducible refine below_c ?_ (by assumption)) | (with_reducible refine below_d ?_) | (with_reducible refine Below.setCell ?_ ?_ _) | (with_reducible refine Below.alloc ?_ ?_ _) | (with_reducible refine below_call ?_ ?_ (by assumption)) | (with_reducible refine Below.drew ?_) | go_size | ((try simp only [World.size_alloc, World.size_setCell, World.size_drew] at *); omega))))).mono ?_); rintro e w2 ⟨rfl, q, hq⟩))
  have M1' := Lib.hid (show MapV (w1.drewN q) Try.prog 31 m1 2 2 (gTwo (.bool true) (.bool true)) from M1.same rfl)
  have B1' := Lib.hid (show Below w.heap.size w (w1.drewN q) from below_dn B1 q)
  subst hq
  clear M1 B1
  go_upto_region 9 with ((go_at_call 15); (with_reducible refine (HN.out _).mono ?_); rintro e w3 ⟨T, rfl, h3, b3⟩; have H3 := Lib.hid h3; have M3 := Lib.hid (M1'.out.keep b3); have B3 := Lib.hid (below_c B1'.out b3); clear h3 b3; have hlen := fun ty => M3.out.len Try.underlying73 ty; have hmk : ∀ W, (Instr.makeMap 135 (some (.int .i64 2))).run Try.prog W = .ok (.map (some W.heap.size)) (W.alloc (.map #[] 0)) := fun W => makeMap_room Try.underlying135 2 W)
  have N4 := Lib.hid ((MapV.made w3 Try.prog 31).keep ((Below.refl _ _).alloc (Nat.le_refl _) (.cells #[.map (some w3.heap.size)] 135)))
  have PB := Lib.hid (Pt.new' (W := w3.alloc (.map #[] 0)) (cs := #[.map (some w3.heap.size)]) (T := 135) (b := w3.heap.size + 1) (by rw [World.size_alloc]))
  have BA := Lib.hid (show Below w3.heap.size w3 ((w3.alloc (.map #[] 0)).alloc (.cells #[.map (some w3.heap.size)] 135)) from below_a (below_a (Below.refl _ _) _) _)
  clear hlen hmk HN HRE
  generalize hnb : w3.heap.size = nb at *
  generalize ((w3.alloc (.map #[] 0)).alloc (.cells #[.map (some nb)] 135)) = W4 at *
  obtain ⟨wA, wB, wC, wD, eA, eB, eC, eD, tA, tB, tC, tD, mC, mD⟩ := two_writes (va := .int .u32 0) (vb := .int .u32 1) (W := W4.drew) (N4.out.same rfl)
  have cb : ∀ o, W4.drew.cell? ⟨nb + 1, o, none⟩ = _ := fun o => PB.out.cell o
  have pA := Pt.turned (show Pt W4.drew (nb + 1) #[.map (some nb)] 135 from PB.out) tA (by omega)
  have pB := Pt.turned (show Pt W4.drew (nb + 1) #[.map (some nb)] 135 from PB.out) tB (by omega)
  have cA := pA.cell
  have cB := pB.cell
  have lA := pA.lt
  have lB := pB.lt
  have PC := Lib.hid (And.intro mC (pA.turned tC (by omega)))
  have PD := Lib.hid (And.intro mD (pB.turned tD (by omega)))
  have hz : W4.drew.heap.size = W4.heap.size := rfl
  have BC := Lib.hid (show Below nb W4 wC from (below_dn (Below.refl _ _) 1).trans ((turned_below tA (Nat.le_refl _) (by have := PB.out.lt; omega)).trans (turned_below tC (Nat.le_refl _) (by have := pA.lt; omega))))
  have BD := Lib.hid (show Below nb W4 wD from (below_dn (Below.refl _ _) 1).trans ((turned_below tB (Nat.le_refl _) (by have := PB.out.lt; omega)).trans (turned_below tD (Nat.le_refl _) (by have := pB.lt; omega))))
  clear tA tB tC tD mC mD pA pB hz
  go_cut [] (fun W => Hid (MapV W Try.prog 31 nb 2 2 (gTwo (.int .u32 0) (.int .u32 1)) ∧ Pt W (nb + 1) #[.map (some nb)] 135) ∧ Hid (Below nb W4 W))
  case first =>
    go_region
    all_goals (go_wp2_with fail; go_meet)
    all_goals first | exact ⟨PC, BC⟩ | exact ⟨PD, BD⟩
  case rest =>
    obtain ⟨PX, BX⟩ := hcut
    clear PC PD BC BD eA eB eC eD cA cB cb lA lB
    have BW := Lib.hid (show Below w3.heap.size w3 wc from by rw [hnb]; exact BA.out.trans BX.out)
    have M5 := Lib.hid (M3.out.keep BW.out)
    have H5 := Lib.hid (H3.out.below BW.out)
    have B5 := Lib.hid (B3.out.trans (BW.out.mono B3.out.size))
    have HL := Lib.hid (HLE.out wc B5.out)
    have hz : (zeroValue 4).run Try.prog wc = .ok (.bool false) wc := by kernel_rfl
    have HLK := Lib.hid fun x (hx : x < 4294967296) => M5.out.look keyed_id Try.underlying73 hz (key_id x hx)
    clear hz M1' B1' M3 BA BX N4 PB H3 B3
    go_wp2_with fail
    go_loopw [12] (fun v wr => ∃ i : Nat, 2 ≤ i ∧ i ≤ 6 ∧ v = .int .i64 i ∧ wc = wr) (fun v _ => 6 - (intOf v).toNat)
    case atStart => exact ⟨2, by omega, by omega, rfl, rfl⟩
    case round =>
      obtain ⟨i, h2, hi, rfl, rfl⟩ := hrel
      by_cases hlt : i < 6
      · have HI := Lib.hid (And.intro h2 hlt)
        have i0 : (0 : Int) ≤ (i : Int) := by omega
        have i1 : (i : Int) < 6 := by omega
        have hlk := HLK.out i (by omega)
        have e : (gTwo (.bool true) (.bool true) (.int .u32 i)).getD (.bool false) = .bool false := by rw [gTwo_at, if_neg (by omega), if_neg (by omega)]; rfl
        rw [e] at hlk
        have HM := Lib.hid (show 6 - (i + 1) < 6 - i by omega)
        clear e hlt hi h2
        go_wp2_with ((go_at_call 33); (with_reducible refine (HL.out).mono ?_); rintro e w' ⟨rfl, rfl⟩)
        exact ⟨⟨i + 1, by have := HI.out; omega, by have := HI.out; omega, by go_num, trivial⟩, by have := HM.out; simp [intOf]; omega⟩
      · obtain rfl : i = 6 := by omega
        clear hlt hi h2
        go_wp2_with ((go_at_call 33); (with_reducible refine (HL.out).mono ?_); rintro e w' ⟨rfl, rfl⟩)
        refine bodyPost_ret (by simp [results, Try.results38, go_sem, *]; rfl) rfl ?_
        exact ⟨T, nb + 1, nb, 2, _, rfl, H5.out, PX.out.2, PX.out.1, B5.out⟩
theorem now_any (x : Nat) (hx : x < 4294967296) {w : World} {bx m n s : Nat} {g : MF} (p : Pt w bx #[.map (some m)] 135) (h : MapV w Try.prog 31 m n s g) (y : Nat) (b : Bool) (hy : (g (.int .u32 x)).getD (.int .u32 0) = .int .u32 y) (hb : (g (.int .u32 x)).isSome = b) :
    Calls Try.prog 70 #[.int .u32 x, .pointer (some ⟨bx, 0, none⟩)] w fun e w' => e = .returned (.tuple #[.int .u32 y, .bool b]) ∧ w = w' := by
  have hz : (zeroValue 31).run Try.prog w = .ok (.int .u32 0) w := by kernel_rfl
  have hlk := h.look_ok keyed_id Try.underlying135 hz (key_id x hx)
  rw [hy, hb] at hlk
  have c := p.cell
  have l := p.lt
  clear h hz p hy hb hx
  go_enter Try.func70, Try.ntmps70
  go_wp2
  refine bodyPost_ret (by simp [results, Try.results70, go_sem, *]; rfl) rfl ?_
  exact ⟨rfl, rfl⟩
set_option maxRecDepth 20000 in
theorem lives13 (w : World) : Calls Try.prog 37 #[] w fun e w' => e = .returned (.bool true) ∧ Below w.heap.size w w' := by
  have HN := Lib.hid (show Calls Try.prog 15 #[.int .i64 99] w _ from new_in w 99 (by omega) (by omega))
  have HE := Lib.hid fun S (W : World) (h : St w.heap.size W S twoN 99) => (show Calls Try.prog 32 #[.pointer (some ⟨S, 0, none⟩), .int .i64 4] W fun e w' => (∃ v, e = .returned v) ∧ Left w.heap.size S 99 nFour W w' from (empty_l h 4).mono fun e w' k => ⟨⟨_, k.1⟩, k.2⟩)
  have HC := Lib.hid fun S (W : World) (h : St w.heap.size W S nFour 99) => collect_four h
  have q3 := fun w => eql_nil_nil (P := Try.prog) w (ti := 27) Try.underlying27
  have qn : ∀ bx W, (binOp .eql 69 (.func (.func 70) #[] #[.pointer (some ⟨bx, 0, none⟩)]) .nilFunc).run Try.prog W = .ok (.bool false) W := fun bx W => by kernel_rfl
  go_enter Try.func37, Try.ntmps37
  go_wp2_with ((go_at_call 15); (with_reducible refine (HN.out).mono ?_); rintro e w1 ⟨S, rfl, h1, b1⟩; have H1 := Lib.hid h1; have B1 := Lib.hid b1; clear h1 b1)
  go_wp2_with ((go_at_call 32); (with_reducible refine (HE.out S w1 H1.out).mono ?_); rintro e w2 ⟨⟨v2, rfl⟩, k2⟩; have H2 := Lib.hid k2.st; have B2 := Lib.hid (B1.out.trans (Left.low k2 H1.out)); clear k2)
  go_wp2_with ((go_at_call 38); (with_reducible refine (HC.out S w2 H2.out).mono ?_); rintro e w3 ⟨T, bx, m, n, base2, rfl, h3, p3, m3, b3⟩; have H3 := Lib.hid h3; have P3 := Lib.hid p3; have M3 := Lib.hid m3; have B3 := Lib.hid (B2.out.trans (b3.mono B2.out.size)); have H23 := Lib.hid (H2.out.below b3); clear h3 p3 m3 b3)
  have HW1 := Lib.hid (show Calls Try.prog 70 #[.int .u32 1, .pointer (some ⟨bx, 0, none⟩)] w3 fun e w' => e = .returned (.tuple #[.int .u32 1, .bool true]) ∧ w3 = w' from now_any 1 (by omega) P3.out M3.out 1 true (by rw [gTwo_at]; rfl) (by rw [gTwo_at]; rfl))
  have HW2 := Lib.hid (show Calls Try.prog 70 #[.int .u32 2, .pointer (some ⟨bx, 0, none⟩)] w3 fun e w' => e = .returned (.tuple #[.int .u32 0, .bool false]) ∧ w3 = w' from now_any 2 (by omega) P3.out M3.out 0 false (by rw [gTwo_at]; rfl) (by rw [gTwo_at]; rfl))
  have HLT := Lib.hid (show Calls Try.prog 33 #[.pointer (some ⟨T, 0, none⟩)] w3 fun e w' => e = .returned (.int .i64 2) ∧ w3 = w' from len_st H3.out)
  have HRT := Lib.hid (show Calls Try.prog 34 #[.pointer (some ⟨T, 0, none⟩)] w3 fun e w' => e = .returned (.int .i64 97) ∧ ∃ q, w' = w3.drewN q from room_st H3.out)
  have HLS := Lib.hid fun W (b : Below w3.heap.size w3 W) => (show Calls Try.prog 33 #[.pointer (some ⟨S, 0, none⟩)] W fun e w' => e = .returned (.int .i64 6) ∧ W = w' by
    have := len_st (H23.out.below b)
    rw [four_len] at this
    exact this)
  go_wp2_with (first | ((go_at_call 70); (with_reducible refine (HW1.out).mono ?_); rintro e w' ⟨rfl, rfl⟩) | ((go_at_call 70); (with_reducible refine (HW2.out).mono ?_); rintro e w' ⟨rfl, rfl⟩) | ((go_at_call 33); (with_reducible refine (HLT.out).mono ?_); rintro e w' ⟨rfl, rfl⟩) | ((go_at_call 34); (with_reducible refine (HRT.out).mono ?_); rintro e w4 ⟨rfl, q, rfl⟩) | ((go_at_call 33); (with_reducible refine (HLS.out _ (by (repeat' (first | (with_reducible exact Below.refl _ _) | (with_reducible assumption) | (with_reducible exact Hid.out (by assumption)) | (with_reducible refine below_a ?_ _) | (with_reducible refine below_dn ?_ _) | (with_reducible refine below_c ?_ (by assumption)) | (with_reducible refine below_d ?_) | (with_reducible refine Below.setCell ?_ ?_ _) | (with_reducible refine Below.alloc ?_ ?_ _) | (with_reducible refine below_call ?_ ?_ (by assumption)) | (with_reducible refine Below.drew ?_) | go_size | ((try simp only [World.size_alloc, World.size_setCell, World.size_drew] at *); omega))))).mono ?_); rintro e w' ⟨rfl, rfl⟩))
  go_ret
  exact ⟨rfl, below_dn B3.out q⟩
theorem collectNone_walk (x : Nat) (hx : x < 4294967296) (w : World) : Calls Try.prog 6 #[.int .u32 x] w fun e w' => e = .returned (.bool true) ∧ Below w.heap.size w w' := by
  have i1 : isB (.num 1) [1] = true := by decide
  have HX := Lib.hid hx
  clear hx
  go_enter Try.func6, Try.ntmps6
  go_wp2_with (first | ((go_at_call 37); (with_reducible refine (lives13 _).mono ?_); rintro e w1 ⟨rfl, hb_w1⟩; obtain ⟨hc, hf⟩ := bcell hb_w1; have hz := hb_w1.size; (try simp only [World.size_alloc, World.size_setCell, World.size_drew] at hz); (first | (with_reducible have hl := lt_rule6 hz) | (with_reducible have hl := lt_rule5 hz) | (with_reducible have hl := lt_rule4 hz) | (with_reducible have hl := lt_rule3 hz) | (with_reducible have hl := lt_rule2 hz) | (with_reducible have hl := lt_rule1 hz) | have hl := lt_rule0 hz); (try (have hz0 : w.heap.size < w1.heap.size := by omega)); (try (have hz1 : w.heap.size + 1 < w1.heap.size := by omega)); (try (have hz2 : w.heap.size + 1 + 1 < w1.heap.size := by omega)); (try (have hz3 : w.heap.size + 1 + 1 + 1 < w1.heap.size := by omega)); (try (have hz4 : w.heap.size + 1 + 1 + 1 + 1 < w1.heap.size := by omega))) | ((go_at_call 38); (with_reducible refine (collect_nil _ _).mono ?_); rintro e w' ⟨rfl, rfl⟩) | ((go_at_call 68); (with_reducible refine (none_any _ _).mono ?_); rintro e w' ⟨rfl, rfl⟩) | ((go_at_call 29); (with_reducible refine (is1_num 1 1 _ _ (sz1 _ _) true i1).mono ?_); rintro e w9 ⟨rfl, rfl⟩) | ((go_at_call 39); (refine (reach_one x HX.out _ (Pt.new' (by simp only [World.size_alloc]))).mono ?_); rintro e w5 ⟨m5, rfl, M5, B5, -⟩; have hlen := fun ty => M5.len Try.underlying73 ty))
  go_ret
  exact ⟨rfl, below_c (show Below w.heap.size w _ from by (repeat' (first | (with_reducible exact Below.refl _ _) | (with_reducible assumption) | (with_reducible exact Hid.out (by assumption)) | (with_reducible refine below_a ?_ _) | (with_reducible refine below_dn ?_ _) | (with_reducible refine below_c ?_ (by assumption)) | (with_reducible refine below_d ?_) | (with_reducible refine Below.setCell ?_ ?_ _) | (with_reducible refine Below.alloc ?_ ?_ _) | (with_reducible refine below_call ?_ ?_ (by assumption)) | (with_reducible refine Below.drew ?_) | go_size | ((try simp only [World.size_alloc, World.size_setCell, World.size_drew] at *); omega)))) B5⟩
theorem collectNone_w (a0 : Int) (h0 : (Lit.int .u32 a0).wf = true) (w : World) : Calls Try.prog 6 #[.int .u32 a0] w fun e w' => e = .returned (.bool true) ∧ Below w.heap.size w w' := by
  have b0 := u32_rng h0
  obtain ⟨x, rfl⟩ := Int.eq_ofNat_of_zero_le b0.1
  exact collectNone_walk x (by omega) w
end Go.Proofs.Ytjiliiclebdbfaa

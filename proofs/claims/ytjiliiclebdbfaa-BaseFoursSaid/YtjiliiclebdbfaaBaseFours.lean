/- The walk of the statement BaseFours: any four by four cells, in the middle one generation later; as a square, read again. -/
import Derived.Test.YtjiliiclebdbfaaFoursP
import Derived.Test.YtjiliiclebdbfaaRef7W
import Derived.Test.YtjiliiclebdbfaaQuadB
import Derived.Test.YtjiliiclebdbfaaStoreArgs
namespace Go.Proofs.Ytjiliiclebdbfaa
open Go.RowKit
set_option linter.unusedVariables false
set_option linter.unusedSimpArgs false
attribute [local go_sem] eqGuard_errV neq_errV eql_errV

theorem bit16 (f i : Nat) (hf : f < 65536) : bits BinOp.and IntKind.u16 ((f : Int) / 2 ^ i) 1 = (bN f i : Nat) := by
  have e1 : ((f : Int) / 2 ^ i) = ((f / 2 ^ i : Nat) : Int) := by simp
  rw [e1, and1_u16 _ (Nat.lt_of_le_of_lt (Nat.div_le_self _ _) hf)]
  unfold bN
  rw [Nat.toNat_testBit]
theorem bN_iff (f i : Nat) : bN f i = 1 ↔ f.testBit i = true := by unfold bN; cases f.testBit i <;> simp
/-- A row of points of one's own, grown. -/
theorem PRow.app {w : World} {W' : World} {v' : Value} {l : List Pn} {p : Pn} (hrow : W'.ownsRow w.heap.size 46 2 v' (l.length + 1) (pc l ++ [.int .i64 p.1, .int .i64 p.2])) : PRow W' w.heap.size v' (l ++ [p]) := by
  unfold PRow
  rw [List.length_append, pc_app]
  exact hrow
theorem low_app {w W W' : World} {v : Value} {l : List Pn} (h : PRow W w.heap.size v l) (hb : Below w.heap.size w W) (hg : W.grownBy W' v.ownBlock) : Below w.heap.size w W' :=
  ⟨hg.os.trans hb.os, hg.tape.trans hb.tape, hg.output.trans hb.output, Nat.le_trans hb.size hg.size, fun b hlt => by
    rw [hg.block b (Nat.lt_of_lt_of_le hlt hb.size) (fun e => by have := (h.lt b e.symm).1; omega)]
    exact hb.block b hlt⟩
set_option maxRecDepth 20000 in
set_option maxHeartbeats 4000000 in
theorem cells9_any (f : Nat) (hf : f < 65536) (w : World) : Calls Try.prog 20 #[.int .u16 f] w fun e w' => ∃ v, e = .returned v ∧ PRow w' w.heap.size v (cellsL f 16) ∧ Below w.heap.size w w' := by
  have HF := Lib.hid hf
  clear hf
  go_enter Try.func20, Try.ntmps20
  go_wp2_with fail
  have R0 := Lib.hid (show PRow w w.heap.size (.slice none 0 0) (cellsL f 0) from PRow.nil _ _)
  have B0 := Lib.hid (Below.refl w.heap.size w)
  go_loopw [5, 3] (fun v vo wr => ∃ i : Nat, i ≤ 16 ∧ v = .int .i64 i ∧ Hid (PRow wr w.heap.size vo (cellsL f i)) ∧ Hid (Below w.heap.size w wr)) (fun v _ _ => 16 - (intOf v).toNat)
  case atStart => exact ⟨0, by omega, rfl, R0, B0⟩
  case round =>
    obtain ⟨i, hi, rfl, R1, B1⟩ := hrel
    clear R0 B0
    by_cases hlt : i < 16
    · have HI := Lib.hid hlt
      have i0 : (0 : Int) ≤ (i : Int) := by omega
      have i1 : (i : Int) < 16 := by omega
      have hb := bit16 f i HF.out
      have hst : cellsL f (i + 1) = if f.testBit i = true then cellsL f i ++ [((i : Int) % 4, (i : Int) / 4)] else cellsL f i := rfl
      have hlen := Lib.hid (show (cellsL f i).length < 4194304 by have := cellsL_len f i; omega)
      have hbs := Lib.hid (B1.out.alloc B1.out.size (.cells #[.int .i64 ((i : Int) % 4), .int .i64 ((i : Int) / 4)] 46)).size
      have R2 := Lib.hid (show PRow (wr.alloc (.cells #[.int .i64 ((i : Int) % 4), .int .i64 ((i : Int) / 4)] 46)) w.heap.size _ (cellsL f i) from ownsRow_keepN R1.out (fun g hg => ((Below.refl wr.heap.size wr).alloc (Nat.le_refl _) _).block g (R1.out.lt g hg).2))
      have HM := Lib.hid (show 16 - (i + 1) < 16 - i by omega)
      clear hlt hi
      by_cases ht : f.testBit i = true
      · have e1 : bN f i = 1 := (bN_iff f i).2 ht
        rw [e1, show ((1 : Nat) : Int) = 1 from rfl] at hb
        rw [if_pos ht] at hst
        have HST := Lib.hid hst
        clear hst ht e1
        go_wp2_with ((with_reducible refine at_dst (N := 20) rfl ?_); go_loud (refine app_any (news := [.int .i64 ((i : Int) % 4), .int .i64 ((i : Int) / 4)]) rfl (.tmp 13) (.tmp 19) 40 rfl Try.underlying40 2 16 (.agg #[.int .i64 (0), .int .i64 (0)]) info_pn rfl (by omega) (by omega) rfl R2.out rfl (Pt.new _ _ _) rfl (by intro u hu; simp only [List.mem_cons, List.not_mem_nil, or_false] at hu; rcases hu with rfl | rfl <;> rfl) hlen.out hbs.out ?_); intro v' w' hrow hg hv)
        exact ⟨⟨i + 1, by have := HI.out; omega, by go_num, Lib.hid (by rw [HST.out]; exact PRow.app (p := ((i : Int) % 4, (i : Int) / 4)) hrow), Lib.hid (low_app R2.out (B1.out.alloc B1.out.size _) hg)⟩, by have := HM.out; simp [intOf]; omega⟩
      · have e1 : bN f i = 0 := by have ht' := ht; simp only [Bool.not_eq_true] at ht'; unfold bN; rw [ht']; rfl
        rw [e1, show ((0 : Nat) : Int) = 0 from rfl] at hb
        rw [if_neg ht] at hst
        have HST := Lib.hid hst
        clear hst ht e1
        go_wp2_with fail
        exact ⟨⟨i + 1, by have := HI.out; omega, by go_num, Lib.hid (by rw [HST.out]; exact R1.out), B1⟩, by have := HM.out; simp [intOf]; omega⟩
    · obtain rfl : i = 16 := by omega
      clear hlt hi
      go_wp2_with fail
      go_ret
      exact ⟨_, rfl, R1.out, B1.out⟩
theorem at_all (f : Nat) (x y : Int) (hf : f < 65536) (w : World) : Calls Try.prog 21 #[.int .u16 f, .int .i64 x, .int .i64 y] w fun e w' => e = .returned (.bool (decide ((x, y) ∈ cellsL f 16))) ∧ w = w' := by
  by_cases h : 0 ≤ x ∧ x < 4 ∧ 0 ≤ y ∧ y < 4
  · obtain ⟨X, rfl⟩ := Int.eq_ofNat_of_zero_le h.1
    obtain ⟨Y, rfl⟩ := Int.eq_ofNat_of_zero_le h.2.2.1
    rw [cells_at f X Y (by omega) (by omega)]
    exact at_in f _ _ w hf h.1 h.2.1 h.2.2.1 h.2.2.2
  · rw [decide_eq_false (by rw [cellsL_mem]; rintro ⟨m, h1, h2, h3, h4⟩; omega)]
    exact at_out f x y w (by omega)
/-- A square of four by four, in a store of a hundred, and its middle. -/
theorem fours_made (f : Nat) (hf : f < 65536) {E M : Res} (hE : squareN twoN 100 f = E) (hM : makeN E.2.2 100 (nextK f) = M) :
    E.2.1 = 0 ∧ lvlN E.2.2 E.1 = 2 ∧ readN E.2.2 E.1 = f ∧ M.2.1 = 0 ∧ lvlN M.2.2 M.1 = 1 ∧ kidsOf M.2.2 M.1 = nextK f ∧ lvlN M.2.2 E.1 = 2 := by
  have d := square_done (most := 100) f StOk.fresh
  rw [show [deadN, aliveN] = twoN from rfl, hE] at d
  have dl := d.len
  have e2 : twoN.length = 2 := rfl
  have e0 : E.2.1 = 0 := by
    apply Classical.byContradiction
    intro h
    have := (d.no h).2.2
    omega
  obtain ⟨el, ec⟩ := d.yes e0
  have ek : ∀ j, kid (nextK f) j ≤ 1 := fun j => by
    match j with
    | 0 => exact cN_le _
    | 1 => exact cN_le _
    | 2 => exact cN_le _
    | j + 3 => exact cN_le _
  have u := make_done (most := 100) (k := nextK f) d.ok (show 0 < 62 by omega) (fun i => lvl_bit d.ok (ek i))
  have ul := u.len
  rw [hM] at u ul
  have u0 : M.2.1 = 0 := by
    apply Classical.byContradiction
    intro h
    have := (u.no h).2.2
    omega
  have md := made_of d.ok (k := nextK f) (most := 100) (by rw [hM]; exact u0)
  rw [hM] at md
  exact ⟨e0, el, read_back hf ec, u0, (u.yes u0).1, md.kids, by rw [u.ext.lvl (lvlN_lt (by rw [el]; omega)), el]; rfl⟩
theorem nextP_len (f : Nat) : (nextP (cellsL f 16)).length ≤ 200 := by
  have h1 := (outP_len (cellsL f 16) _ (Nat.le_refl _)).1
  have h2 := cellsL_len f 16
  unfold nextP
  omega
theorem sm_cells (f : Nat) : Sm (cellsL f 16) := fun p hp => by
  obtain ⟨X, Y⟩ := p
  rw [cellsL_mem] at hp
  obtain ⟨m, h1, h2, h3, h4⟩ := hp
  simp only
  omega
set_option maxRecDepth 100000 in
set_option maxHeartbeats 4000000 in
theorem baseFours_walk (f : Nat) (x y : Int) (hf : f < 65536) (hx : -128 ≤ x ∧ x ≤ 127) (hy : -128 ≤ y ∧ y ≤ 127) (w : World) : Calls Try.prog 4 #[.int .u16 f, .int .i8 x, .int .i8 y] w fun e w' => e = .returned (.bool true) ∧ Below w.heap.size w w' := by
  have HF := Lib.hid hf
  have hx1 := hx.1
  have hx2 := hx.2
  have hy1 := hy.1
  have hy2 := hy.2
  clear hf hx hy
  go_enter Try.func4, Try.ntmps4
  go_wp2_with (first | ((go_at_call 19); (with_reducible refine (lives9 _).mono ?_); rintro e w1 ⟨rfl, hb_w1⟩; obtain ⟨hc, hf⟩ := bcell hb_w1; have hz := hb_w1.size; (try simp only [World.size_alloc, World.size_setCell, World.size_drew] at hz); (first | (with_reducible have hl := lt_rule6 hz) | (with_reducible have hl := lt_rule5 hz) | (with_reducible have hl := lt_rule4 hz) | (with_reducible have hl := lt_rule3 hz) | (with_reducible have hl := lt_rule2 hz) | (with_reducible have hl := lt_rule1 hz) | have hl := lt_rule0 hz); (try (have hz0 : w.heap.size < w1.heap.size := by omega)); (try (have hz1 : w.heap.size + 1 < w1.heap.size := by omega)); (try (have hz2 : w.heap.size + 1 + 1 < w1.heap.size := by omega)); (try (have hz3 : w.heap.size + 1 + 1 + 1 < w1.heap.size := by omega)); (try (have hz4 : w.heap.size + 1 + 1 + 1 + 1 < w1.heap.size := by omega))) | ((go_at_call 20); (with_reducible refine (cells9_any f HF.out _).mono ?_); rintro e w2 ⟨v, rfl, hr2, hb2⟩))
  obtain ⟨A, ca, rfl, ps2⟩ := hr2.read
  have PS2 := Lib.hid ps2
  have B2 := Lib.hid (show Below w.heap.size w w2 from below_c hb_w1 hb2)
  have HLn := Lib.hid (cellsL_len f 16)
  have B20 := Lib.hid (Below.refl w2.heap.size w2)
  clear ps2 hr2 hb_w1 hb2 hc hf hz hl
  go_loopw [29] (fun v wr => ∃ i : Nat, i ≤ 16 ∧ v = .int .i64 i ∧ Hid (Below w2.heap.size w2 wr)) (fun v _ => 16 - (intOf v).toNat)
  case atStart => exact ⟨0, by omega, rfl, B20⟩
  case round =>
    obtain ⟨i, hi, rfl, B3⟩ := hrel
    clear B20
    by_cases hlt : i < 16
    · have HI := Lib.hid hlt
      have i0 : (0 : Int) ≤ (i : Int) := by omega
      have i1 : (i : Int) < 16 := by omega
      have hb := bit16 f i HF.out
      have HA := Lib.hid fun W => at_all f ((i : Int) % 4) ((i : Int) / 4) HF.out W
      have hmem : (((i : Int) % 4, (i : Int) / 4) ∈ cellsL f 16) ↔ f.testBit i = true := by
        rw [cellsL_mem]
        constructor
        · rintro ⟨m, h1, h2, h3, h4⟩
          rw [show i = m by omega]
          exact h2
        · intro h
          exact ⟨i, hlt, h, rfl, rfl⟩
      have HM := Lib.hid (show 16 - (i + 1) < 16 - i by omega)
      clear hlt hi
      by_cases ht : f.testBit i = true
      · rw [decide_eq_true (hmem.2 ht)] at HA
        rw [(bN_iff f i).2 ht, show ((1 : Nat) : Int) = 1 from rfl] at hb
        clear hmem ht
        go_wp2_with fail
        go_quiet ((go_at_call 21; exact quiet_mine (HA.out _)))
        have B4 := Lib.hid (below_c B3.out (below_dn (Below.refl _ wr) nq))
        clear B3
        generalize wr.drewN nq = W4 at *
        go_wp2_with fail
        exact ⟨⟨i + 1, by have := HI.out; omega, by go_num, B4⟩, by have := HM.out; simp [intOf]; omega⟩
      · rw [decide_eq_false (fun h => ht (hmem.1 h))] at HA
        have e1 : bN f i = 0 := by have ht' := ht; simp only [Bool.not_eq_true] at ht'; unfold bN; rw [ht']; rfl
        rw [e1, show ((0 : Nat) : Int) = 0 from rfl] at hb
        clear hmem ht e1
        go_wp2_with fail
        go_quiet ((go_at_call 21; exact quiet_mine (HA.out _)))
        have B4 := Lib.hid (below_c B3.out (below_dn (Below.refl _ wr) nq))
        clear B3
        generalize wr.drewN nq = W4 at *
        go_wp2_with fail
        exact ⟨⟨i + 1, by have := HI.out; omega, by go_num, B4⟩, by have := HM.out; simp [intOf]; omega⟩
    · obtain rfl : i = 16 := by omega
      clear hlt hi
      have PS3 := Lib.hid (PS2.out.keep B3.out B3.out.size)
      have HA := Lib.hid fun W => at_all f x y HF.out W
      have HH := Lib.hid (has_any (cellsL f 16) A ca x y (by have := HLn.out; omega) PS3.out)
      generalize hm : decide ((x, y) ∈ cellsL f 16) = c at HA HH
      clear hm
      have hcc : (c == c) = true := by cases c <;> rfl
      go_wp2_with (first | ((go_at_call 21); (with_reducible refine (HA.out _).mono ?_); rintro e w' ⟨rfl, rfl⟩) | ((go_at_call 22); (with_reducible refine HH.out.mono ?_); rintro e w5 ⟨rfl, hb_w5⟩; obtain ⟨hc, hf⟩ := bcell hb_w5; have hz := hb_w5.size; (try simp only [World.size_alloc, World.size_setCell, World.size_drew] at hz); (first | (with_reducible have hl := lt_rule6 hz) | (with_reducible have hl := lt_rule5 hz) | (with_reducible have hl := lt_rule4 hz) | (with_reducible have hl := lt_rule3 hz) | (with_reducible have hl := lt_rule2 hz) | (with_reducible have hl := lt_rule1 hz) | have hl := lt_rule0 hz); (try (have hz0 : w.heap.size < w5.heap.size := by omega)); (try (have hz1 : w.heap.size + 1 < w5.heap.size := by omega)); (try (have hz2 : w.heap.size + 1 + 1 < w5.heap.size := by omega)); (try (have hz3 : w.heap.size + 1 + 1 + 1 < w5.heap.size := by omega)); (try (have hz4 : w.heap.size + 1 + 1 + 1 + 1 < w5.heap.size := by omega))))
      have HNX := Lib.hid (next_any (cellsL f 16) A ca (by have := HLn.out; omega) (sm_cells f) (PS3.out.keep hb_w5 hb_w5.size))
      have B5 := Lib.hid (below_c B2.out (below_c B3.out hb_w5))
      have HIN : Hid (∀ W, Calls Try.prog 24 #[.int .u16 f] W fun e w' => e = .returned (.agg #[.bool (innerB f 0), .bool (innerB f 1), .bool (innerB f 2), .bool (innerB f 3)]) ∧ Below W.heap.size W w') := Lib.hid fun W =>
        (inner_any _ W HF.out).mono fun e w' h => by unfold InnerPost at h; exact h
      have HNL := Lib.hid (nextP_len f)
      clear hb_w5 hc hf hz hl PS2 PS3 B3 HA HH hcc
      go_wp2_with (first | ((go_at_call 23); (with_reducible refine HNX.out.mono ?_); rintro e w6 ⟨v2, rfl, hr6, hb6⟩) | ((go_at_call 24); (with_reducible refine (HIN.out _).mono ?_); rintro e w7 ⟨rfl, hb_w7⟩; obtain ⟨hc, hf⟩ := bcell hb_w7; have hz := hb_w7.size; (try simp only [World.size_alloc, World.size_setCell, World.size_drew] at hz); (first | (with_reducible have hl := lt_rule6 hz) | (with_reducible have hl := lt_rule5 hz) | (with_reducible have hl := lt_rule4 hz) | (with_reducible have hl := lt_rule3 hz) | (with_reducible have hl := lt_rule2 hz) | (with_reducible have hl := lt_rule1 hz) | have hl := lt_rule0 hz); (try (have hz0 : w.heap.size < w7.heap.size := by omega)); (try (have hz1 : w.heap.size + 1 < w7.heap.size := by omega)); (try (have hz2 : w.heap.size + 1 + 1 < w7.heap.size := by omega)); (try (have hz3 : w.heap.size + 1 + 1 + 1 < w7.heap.size := by omega)); (try (have hz4 : w.heap.size + 1 + 1 + 1 + 1 < w7.heap.size := by omega))))
      obtain ⟨A2, c2, rfl, ps6⟩ := hr6.read
      have p11 := Lib.hid (Pt.new w7 #[.bool (innerB f 0), .bool (innerB f 1), .bool (innerB f 2), .bool (innerB f 3)] 48)
      have PS7 := Lib.hid ((ps6.keep hb_w7 hb_w7.size).keep ((Below.refl w7.heap.size w7).alloc (Nat.le_refl _) (.cells #[.bool (innerB f 0), .bool (innerB f 1), .bool (innerB f 2), .bool (innerB f 3)] 48)) ((Below.refl w7.heap.size w7).alloc (Nat.le_refl _) (.cells #[.bool (innerB f 0), .bool (innerB f 1), .bool (innerB f 2), .bool (innerB f 3)] 48)).size)
      have B7 := Lib.hid (below_a (below_c B5.out (below_c hb6 hb_w7)) (.cells #[.bool (innerB f 0), .bool (innerB f 1), .bool (innerB f 2), .bool (innerB f 3)] 48))
      clear ps6 hr6 hb6 hb_w7 hc hf hz hl HNX
      generalize w7.heap.size = b11 at *
      generalize w7.alloc (.cells #[.bool (innerB f 0), .bool (innerB f 1), .bool (innerB f 2), .bool (innerB f 3)] 48) = W0 at *
      have HN := Lib.hid (show Calls Try.prog 15 #[.int .i64 100] W0 _ from new_in W0 100 (by omega) (by omega))
      obtain ⟨g1, g2, g3, g4, g5, g6, g7⟩ := fours_made f HF.out rfl rfl
      have HS := Lib.hid fun S (W : World) (h : St W0.heap.size W S twoN 100) => (show Calls Try.prog 25 #[.pointer (some ⟨S, 0, none⟩), .int .u16 f] W fun e w' => e = .returned (.tuple #[.int .u32 (squareN twoN 100 f).1, .nilIface]) ∧ Left W0.heap.size S 100 (squareN twoN 100 f).2.2 W w' by
        have := square_any h f HF.out
        rw [g1, errV0] at this
        exact this)
      have HRD := Lib.hid fun S (W : World) (h : St W0.heap.size W S (squareN twoN 100 f).2.2 100) => (show Calls Try.prog 26 #[.pointer (some ⟨S, 0, none⟩), .int .u32 (squareN twoN 100 f).1] W fun e w' => e = .returned (.tuple #[.int .u16 f, .nilIface]) ∧ Below W.heap.size W w' by
        have := read_yes h _ g2
        rw [g3] at this
        exact this)
      have HX := Lib.hid fun S (W W1 : World) (h : St W0.heap.size W1 S (squareN twoN 100 f).2.2 100) (b : Below W1.heap.size W1 W) => (show Calls Try.prog 27 #[.pointer (some ⟨S, 0, none⟩), .int .u32 (squareN twoN 100 f).1] W fun e w' => e = .returned (.tuple #[.int .u32 (makeN (squareN twoN 100 f).2.2 100 (nextK f)).1, .nilIface]) ∧ Left W0.heap.size S 100 (makeN (squareN twoN 100 f).2.2 100 (nextK f)).2.2 W w' by
        have := next_yes (h.below b) _ g2
        rw [g3, g4, errV0] at this
        exact this)
      generalize makeN (squareN twoN 100 f).2.2 100 (nextK f) = M at *
      generalize squareN twoN 100 f = E at *
      have HO := Lib.hid fun S (W : World) (h : St W0.heap.size W S M.2.2 100) => (show Calls Try.prog 28 #[.pointer (some ⟨S, 0, none⟩), .int .u32 M.1] W fun e w' => e = .returned (.tuple #[.agg #[.int .u32 (nextK f).a, .int .u32 (nextK f).b, .int .u32 (nextK f).c, .int .u32 (nextK f).d], .bool true]) ∧ Below W.heap.size W w' by
        have := of_in h M.1 (l := 0) (by rw [g5]; rfl) (Below.refl _ _)
        rw [g6] at this
        exact this)
      have HL2 := Lib.hid fun S (W W1 : World) (h : St W0.heap.size W1 S M.2.2 100) (b : Below W1.heap.size W1 W) => level_at h E.1 (by have := lvlN_lt (show 0 ≤ lvlN M.2.2 E.1 by rw [g7]; omega); have := h.two; omega) 2 g7 b
      have HL1 := Lib.hid fun S (W W1 : World) (h : St W0.heap.size W1 S M.2.2 100) (b : Below W1.heap.size W1 W) => level_at h M.1 (by have := lvlN_lt (show 0 ≤ lvlN M.2.2 M.1 by rw [g5]; omega); have := h.two; omega) 1 g5 b
      have q3 := fun w => eql_nil_nil (P := Try.prog) w (ti := 27) Try.underlying27
      clear g1 g2 g3 g4 g5 g6 g7
      go_wp2_with ((go_at_call 15); (with_reducible refine (HN.out).mono ?_); rintro e w8 ⟨S, rfl, h8, b8⟩; have H8 := Lib.hid h8; have B8 := Lib.hid b8; clear h8 b8)
      go_wp2_with ((go_at_call 25); (with_reducible refine (HS.out S w8 H8.out).mono ?_); rintro e w9 ⟨rfl, k9⟩; have H9 := Lib.hid k9.st; have B9 := Lib.hid (B8.out.trans (Left.low k9 H8.out)); clear k9)
      go_wp2_with ((go_at_call 26); (with_reducible refine (HRD.out S w9 H9.out).mono ?_); rintro e wa ⟨rfl, hb_wa⟩; obtain ⟨hc, hf⟩ := bcell hb_wa; have hz := hb_wa.size; (try simp only [World.size_alloc, World.size_setCell, World.size_drew] at hz); (first | (with_reducible have hl := lt_rule6 hz) | (with_reducible have hl := lt_rule5 hz) | (with_reducible have hl := lt_rule4 hz) | (with_reducible have hl := lt_rule3 hz) | (with_reducible have hl := lt_rule2 hz) | (with_reducible have hl := lt_rule1 hz) | have hl := lt_rule0 hz); (try (have hz0 : w.heap.size < wa.heap.size := by omega)); (try (have hz1 : w.heap.size + 1 < wa.heap.size := by omega)); (try (have hz2 : w.heap.size + 1 + 1 < wa.heap.size := by omega)); (try (have hz3 : w.heap.size + 1 + 1 + 1 < wa.heap.size := by omega)); (try (have hz4 : w.heap.size + 1 + 1 + 1 + 1 < wa.heap.size := by omega)))
      go_wp2_with ((go_at_call 27); (with_reducible refine (HX.out S wa w9 H9.out (by (repeat' (first | (with_reducible exact Below.refl _ _) | (with_reducible assumption) | (with_reducible exact Hid.out (by assumption)) | (with_reducible refine below_a ?_ _) | (with_reducible refine below_dn ?_ _) | (with_reducible refine below_c ?_ (by assumption)) | (with_reducible refine below_d ?_) | (with_reducible refine Below.setCell ?_ ?_ _) | (with_reducible refine Below.alloc ?_ ?_ _) | (with_reducible refine below_call ?_ ?_ (by assumption)) | (with_reducible refine Below.drew ?_) | go_size | ((try simp only [World.size_alloc, World.size_setCell, World.size_drew] at *); omega))))).mono ?_); rintro e wb ⟨rfl, kb⟩; have Hb := Lib.hid kb.st; have Bb := Lib.hid (B9.out.trans ((hb_wa.mono (show W0.heap.size ≤ w9.heap.size from B9.out.size)).trans (Left.low kb (H9.out.below (by (repeat' (first | (with_reducible exact Below.refl _ _) | (with_reducible assumption) | (with_reducible exact Hid.out (by assumption)) | (with_reducible refine below_a ?_ _) | (with_reducible refine below_dn ?_ _) | (with_reducible refine below_c ?_ (by assumption)) | (with_reducible refine below_d ?_) | (with_reducible refine Below.setCell ?_ ?_ _) | (with_reducible refine Below.alloc ?_ ?_ _) | (with_reducible refine below_call ?_ ?_ (by assumption)) | (with_reducible refine Below.drew ?_) | go_size | ((try simp only [World.size_alloc, World.size_setCell, World.size_drew] at *); omega)))))))); clear kb)
      go_wp2_with ((go_at_call 28); (with_reducible refine (HO.out S wb Hb.out).mono ?_); rintro e wc ⟨rfl, hb_wc⟩; obtain ⟨hc, hf⟩ := bcell hb_wc; have hz := hb_wc.size; (try simp only [World.size_alloc, World.size_setCell, World.size_drew] at hz); (first | (with_reducible have hl := lt_rule6 hz) | (with_reducible have hl := lt_rule5 hz) | (with_reducible have hl := lt_rule4 hz) | (with_reducible have hl := lt_rule3 hz) | (with_reducible have hl := lt_rule2 hz) | (with_reducible have hl := lt_rule1 hz) | have hl := lt_rule0 hz); (try (have hz0 : w.heap.size < wc.heap.size := by omega)); (try (have hz1 : w.heap.size + 1 < wc.heap.size := by omega)); (try (have hz2 : w.heap.size + 1 + 1 < wc.heap.size := by omega)); (try (have hz3 : w.heap.size + 1 + 1 + 1 < wc.heap.size := by omega)); (try (have hz4 : w.heap.size + 1 + 1 + 1 + 1 < wc.heap.size := by omega)))
      have BD := Lib.hid (below_a (Bb.out.trans (hb_wc.mono Bb.out.size)) (.cells #[.int .u32 (nextK f).a, .int .u32 (nextK f).b, .int .u32 (nextK f).c, .int .u32 (nextK f).d] 55))
      have P11 := Lib.hid (p11.out.keep BD.out)
      have P20 := Lib.hid (Pt.new wc (kArr (nextK f)) 55)
      have PSD := Lib.hid (PS7.out.keep BD.out BD.out.size)
      have HD := Lib.hid ((Hb.out.below hb_wc).below ((Below.refl _ _).alloc (Nat.le_refl _) (.cells #[.int .u32 (nextK f).a, .int .u32 (nextK f).b, .int .u32 (nextK f).c, .int .u32 (nextK f).d] 55)))
      rw [show kArr (nextK f) = #[.int .u32 (nextK f).a, .int .u32 (nextK f).b, .int .u32 (nextK f).c, .int .u32 (nextK f).d] from rfl] at P20
      have hkk := Lib.hid (fun i (hi : i < 4) => show kid (nextK f) i = cN (innerB f i) by match i, hi with | 0, _ => rfl | 1, _ => rfl | 2, _ => rfl | 3, _ => rfl)
      have harr := Lib.hid (fun i (hi : i < 4) => show (#[.bool (innerB f 0), .bool (innerB f 1), .bool (innerB f 2), .bool (innerB f 3)] : Array Value)[i]? = some (.bool (innerB f i)) by match i, hi with | 0, _ => rfl | 1, _ => rfl | 2, _ => rfl | 3, _ => rfl)
      clear hb_wc hb_wa Bb Hb H9 B9 H8 B8 HN HS HRD HX HO p11 PS7
      generalize wc.heap.size = b20 at *
      generalize wc.alloc (.cells #[.int .u32 (nextK f).a, .int .u32 (nextK f).b, .int .u32 (nextK f).c, .int .u32 (nextK f).d] 55) = Wd at *
      have BDD := Lib.hid (Below.refl Wd.heap.size Wd)
      go_loopw [91] (fun v wr => ∃ i : Nat, i ≤ 4 ∧ v = .int .i64 i ∧ Hid (Below Wd.heap.size Wd wr)) (fun v _ => 4 - (intOf v).toNat)
      case atStart => exact ⟨0, by omega, rfl, BDD⟩
      case round =>
        rename World => wq
        obtain ⟨i, hi, rfl, BQ⟩ := hrel
        clear BDD
        by_cases hlt : i < 4
        · have HI := Lib.hid hlt
          have i0 : (0 : Int) ≤ (i : Int) := by omega
          have i1 : (i : Int) < 4 := by omega
          have hrule := inner_rule f i hlt
          rw [show ((1 + i % 2 : Nat) : Int) = 1 + (i : Int) % 2 by omega, show ((1 + i / 2 : Nat) : Int) = 1 + (i : Int) / 2 by omega] at hrule
          have HH := Lib.hid (has_any (nextP (cellsL f 16)) A2 c2 (1 + (i : Int) % 2) (1 + (i : Int) / 2) (by have := HNL.out; omega) (PSD.out.keep BQ.out BQ.out.size))
          rw [hrule] at HH
          have hm1 := Lib.hid (harr.out i hlt)
          have hm2 := Lib.hid ((kArr_get (nextK f) i hlt).trans (by rw [hkk.out i hlt]))
          have HM := Lib.hid (show 4 - (i + 1) < 4 - i by omega)
          clear hrule hlt hi
          generalize innerB f i = d at *
          cases d
          · rw [show cN false = 0 from rfl, show ((0 : Nat) : Int) = 0 from rfl] at hm2
            go_wp2_with ((go_at_call 22); (with_reducible refine HH.out.mono ?_); rintro e we ⟨rfl, hb_we⟩; obtain ⟨hc, hf⟩ := bcell hb_we; have hz := hb_we.size; (try simp only [World.size_alloc, World.size_setCell, World.size_drew] at hz); (first | (with_reducible have hl := lt_rule6 hz) | (with_reducible have hl := lt_rule5 hz) | (with_reducible have hl := lt_rule4 hz) | (with_reducible have hl := lt_rule3 hz) | (with_reducible have hl := lt_rule2 hz) | (with_reducible have hl := lt_rule1 hz) | have hl := lt_rule0 hz); (try (have hz0 : w.heap.size < we.heap.size := by omega)); (try (have hz1 : w.heap.size + 1 < we.heap.size := by omega)); (try (have hz2 : w.heap.size + 1 + 1 < we.heap.size := by omega)); (try (have hz3 : w.heap.size + 1 + 1 + 1 < we.heap.size := by omega)); (try (have hz4 : w.heap.size + 1 + 1 + 1 + 1 < we.heap.size := by omega)); have BE := Lib.hid (below_c BQ.out hb_we); have p1 := P11.out.keep BE.out; have p2 := P20.out.keep BE.out; have ce := (p1.cell i).trans hm1.out; have ck := (p2.cell i).trans hm2.out; have l1 := p1.lt; have l2 := p2.lt)
            exact ⟨⟨i + 1, by have := HI.out; omega, by go_num, BE⟩, by have := HM.out; simp [intOf]; omega⟩
          · rw [show cN true = 1 from rfl, show ((1 : Nat) : Int) = 1 from rfl] at hm2
            go_wp2_with ((go_at_call 22); (with_reducible refine HH.out.mono ?_); rintro e we ⟨rfl, hb_we⟩; obtain ⟨hc, hf⟩ := bcell hb_we; have hz := hb_we.size; (try simp only [World.size_alloc, World.size_setCell, World.size_drew] at hz); (first | (with_reducible have hl := lt_rule6 hz) | (with_reducible have hl := lt_rule5 hz) | (with_reducible have hl := lt_rule4 hz) | (with_reducible have hl := lt_rule3 hz) | (with_reducible have hl := lt_rule2 hz) | (with_reducible have hl := lt_rule1 hz) | have hl := lt_rule0 hz); (try (have hz0 : w.heap.size < we.heap.size := by omega)); (try (have hz1 : w.heap.size + 1 < we.heap.size := by omega)); (try (have hz2 : w.heap.size + 1 + 1 < we.heap.size := by omega)); (try (have hz3 : w.heap.size + 1 + 1 + 1 < we.heap.size := by omega)); (try (have hz4 : w.heap.size + 1 + 1 + 1 + 1 < we.heap.size := by omega)); have BE := Lib.hid (below_c BQ.out hb_we); have p1 := P11.out.keep BE.out; have p2 := P20.out.keep BE.out; have ce := (p1.cell i).trans hm1.out; have ck := (p2.cell i).trans hm2.out; have l1 := p1.lt; have l2 := p2.lt)
            exact ⟨⟨i + 1, by have := HI.out; omega, by go_num, BE⟩, by have := HM.out; simp [intOf]; omega⟩
        · obtain rfl : i = 4 := by omega
          clear hlt hi
          go_wp2_with (first | ((go_at_call 17); (with_reducible refine (HL2.out S wq Wd HD.out BQ.out).mono ?_); rintro e w' ⟨rfl, rfl⟩) | ((go_at_call 17); (with_reducible refine (HL1.out S wq Wd HD.out BQ.out).mono ?_); rintro e w' ⟨rfl, rfl⟩))
          go_ret
          exact ⟨rfl, B7.out.trans ((BD.out.trans (BQ.out.mono BD.out.size)).mono B7.out.size)⟩
theorem baseFours_w (a0 a1 a2 : Int) (h0 : (Lit.int .u16 a0).wf = true) (h1 : (Lit.int .i8 a1).wf = true) (h2 : (Lit.int .i8 a2).wf = true) (w : World) :
    Calls Try.prog 4 #[.int .u16 a0, .int .i8 a1, .int .i8 a2] w fun e w' => e = .returned (.bool true) ∧ Below w.heap.size w w' := by
  have e1 : IntKind.u16.min = 0 := rfl
  have e2 : IntKind.u16.max = 65535 := rfl
  have e3 : IntKind.i8.min = -128 := rfl
  have e4 : IntKind.i8.max = 127 := rfl
  simp only [Lit.wf, Bool.and_eq_true, decide_eq_true_eq] at h0 h1 h2
  rw [e1, e2] at h0
  rw [e3, e4] at h1 h2
  obtain ⟨f, rfl⟩ := Int.eq_ofNat_of_zero_le h0.1
  exact baseFours_walk f a1 a2 (by omega) h1 h2 w
end Go.Proofs.Ytjiliiclebdbfaa

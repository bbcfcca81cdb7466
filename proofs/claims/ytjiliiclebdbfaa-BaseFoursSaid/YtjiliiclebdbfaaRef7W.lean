/- The walk of the reference's next generation. -/
import Derived.Test.YtjiliiclebdbfaaRef7N
import Derived.Deep.RegionWith
import Derived.Deep.DrawnRows
import Derived.Deep.DeepCutAuto
import Derived.StillTailTactics
namespace Go.Proofs.Ytjiliiclebdbfaa
open Go.RowKit
set_option linter.unusedVariables false
set_option linter.unusedSimpArgs false
attribute [local go_sem ↓] Go.wp_at_zero Go.wp_at_succ

structure NxIn (w : World) (vo vs : Value) (s : Two) (W : World) : Prop where
  low : Below w.heap.size w W
  ro : PRow W w.heap.size vo s.1
  rs : PRow W w.heap.size vs s.2
  ne : ∀ g, vo.ownBlock = some g → vs.ownBlock ≠ some g
section
variable {w W W' : World} {vo vs v' : Value} {s : Two} {p : Pn}
theorem NxIn.keep (h : NxIn w vo vs s W) (b : Below W.heap.size W W') : NxIn w vo vs s W' :=
  ⟨h.low.trans (b.mono h.low.size), ownsRow_keepN h.ro (fun g hg => b.block g (h.ro.lt g hg).2), ownsRow_keepN h.rs (fun g hg => b.block g (h.rs.lt g hg).2), h.ne⟩
theorem NxIn.appS (h : NxIn w vo vs s W) (hrow : W'.ownsRow w.heap.size 46 2 v' (s.2.length + 1) (pc s.2 ++ [.int .i64 p.1, .int .i64 p.2])) (hg : W.grownBy W' vs.ownBlock) (hv : v'.ownBlock = vs.ownBlock ∨ v'.ownBlock = some W.heap.size) : NxIn w vo v' (s.1, s.2 ++ [p]) W' := by
  refine ⟨⟨hg.os.trans h.low.os, hg.tape.trans h.low.tape, hg.output.trans h.low.output, Nat.le_trans h.low.size hg.size, fun b hb => ?_⟩, h.ro.kept hg ?_, ?_, fun g hgo e => ?_⟩
  · rw [hg.block b (Nat.lt_of_lt_of_le hb h.low.size) (fun e => by have := (h.rs.lt b e.symm).1; omega)]
    exact h.low.block b hb
  · cases hvo : vo.ownBlock with
    | none => exact .inl rfl
    | some g => exact .inr (fun e => h.ne g hvo e.symm)
  · unfold PRow
    rw [List.length_append, pc_app]
    exact hrow
  · rcases hv with e1 | e1
    · rw [e1] at e; exact h.ne g hgo e
    · rw [e1] at e; injection e with e; have := (h.ro.lt g hgo).2; omega
theorem NxIn.appO (h : NxIn w vo vs s W) (hrow : W'.ownsRow w.heap.size 46 2 v' (s.1.length + 1) (pc s.1 ++ [.int .i64 p.1, .int .i64 p.2])) (hg : W.grownBy W' vo.ownBlock) (hv : v'.ownBlock = vo.ownBlock ∨ v'.ownBlock = some W.heap.size) : NxIn w v' vs (s.1 ++ [p], s.2) W' := by
  refine ⟨⟨hg.os.trans h.low.os, hg.tape.trans h.low.tape, hg.output.trans h.low.output, Nat.le_trans h.low.size hg.size, fun b hb => ?_⟩, ?_, h.rs.kept hg ?_, fun g hgo e => ?_⟩
  · rw [hg.block b (Nat.lt_of_lt_of_le hb h.low.size) (fun e => by have := (h.ro.lt b e.symm).1; omega)]
    exact h.low.block b hb
  · unfold PRow
    rw [List.length_append, pc_app]
    exact hrow
  · cases hvs : vs.ownBlock with
    | none => exact .inl rfl
    | some g => exact .inr (fun e => h.ne g e.symm hvs)
  · rcases hv with e1 | e1
    · rw [e1] at hgo; exact h.ne g hgo e
    · rw [e1] at hgo; injection hgo with hgo; have := (h.rs.lt g e).2; omega
end
def Sm (l : List Pn) : Prop := ∀ p, p ∈ l → -2305843009213693952 ≤ p.1 ∧ p.1 ≤ 2305843009213693952 ∧ -2305843009213693952 ≤ p.2 ∧ p.2 ≤ 2305843009213693952
set_option maxRecDepth 20000 in
set_option maxHeartbeats 4000000 in
theorem next_any (l : List Pn) (A : Option Addr) (cap : Nat) (hl : l.length ≤ 400000) (hs : Sm l) {w : World} (h : Ps w w.heap.size A l) :
    Calls Try.prog 23 #[.slice A l.length cap] w fun e w' => ∃ v, e = .returned v ∧ PRow w' w.heap.size v (nextP l) ∧ Below w.heap.size w w' := by
  have H := Lib.hid h
  have HL := Lib.hid hl
  have HS := Lib.hid hs
  clear h hl hs
  go_enter Try.func23, Try.ntmps23
  go_wp2_with fail
  have N0 := Lib.hid (show NxIn w (.slice none 0 0) (.slice none 0 0) (outP l 0) w from ⟨Below.refl _ _, PRow.nil _ _, PRow.nil _ _, fun g hg => by cases hg⟩)
  go_loopw [5, 3, 4] (fun v vo vs wr => ∃ i : Nat, i ≤ l.length ∧ v = .int .i64 i ∧ Hid (NxIn w vo vs (outP l i) wr)) (fun v _ _ _ => l.length - (intOf v).toNat)
  case atStart => exact ⟨0, by omega, rfl, N0⟩
  case round =>
    obtain ⟨i, hi, rfl, N1⟩ := hrel
    clear N0
    by_cases hlt : i < l.length
    · have HI := Lib.hid hlt
      have hg := List.getElem?_eq_getElem hlt
      generalize l[i] = p at *
      have HG := Lib.hid hg
      have i0 : (0 : Int) ≤ (i : Int) := by omega
      have i1 : (i : Int) < (l.length : Int) := by omega
      have hso := outP_succ l i p hg
      have HSO := Lib.hid hso
      have hlen := outP_len l i hi
      have HLN := Lib.hid hlen
      have NK := Lib.hid (show NxIn w _ _ (inP l p 0 (outP l i)) wr from N1.out)
      have HM := Lib.hid (show l.length - (i + 1) < l.length - i by omega)
      clear hg hlt hi hso hlen N1
      go_wp2_with fail
      go_loopw [6, 3, 4] (fun v vo vs wr => ∃ k : Nat, k ≤ 9 ∧ v = .int .i64 k ∧ Hid (NxIn w vo vs (inP l p k (outP l i)) wr)) (fun v _ _ _ => 9 - (intOf v).toNat)
      case atStart => exact ⟨0, by omega, rfl, NK⟩
      case round =>
        rename World => wk
        obtain ⟨k, hk, rfl, N2⟩ := hrel
        clear NK
        by_cases hkt : k < 9
        · have HK := Lib.hid hkt
          have k0 : (0 : Int) ≤ (k : Int) := by omega
          have k1 : (k : Int) < 9 := by omega
          have HMk := Lib.hid (show 9 - (k + 1) < 9 - k by omega)
          obtain ⟨b, o, p', rfl, hb, hp', cx, cy⟩ := (H.out.keep N2.out.low N2.out.low.size).at_ HI.out
          have e : p' = p := by rw [HG.out] at hp'; injection hp' with e; exact e.symm
          subst e
          have sm := HS.out p' (List.mem_of_getElem? HG.out)
          have s1 := sm.1
          have s2 := sm.2.1
          have s3 := sm.2.2.1
          have s4 := sm.2.2.2
          have HSk := Lib.hid (inP_succ l p' k (outP l i))
          have HLk := Lib.hid (inP_len l p' k (outP l i))
          clear hkt hk sm hp'
          obtain ⟨As, cs, e4, hps⟩ := N2.out.rs.read
          subst e4
          have HPS := Lib.hid hps
          have Hsn := Lib.hid (show (inP l p' k (outP l i)).2.length ≤ 3600009 by have := HLk.out.2; have := HLN.out.2; have := HL.out; have := HI.out; have := HK.out; omega)
          have Hon := Lib.hid (show (inP l p' k (outP l i)).1.length ≤ 3600009 by have := HLk.out.1; have := HLN.out.1; have := HL.out; have := HI.out; have := HK.out; omega)
          have HXY := Lib.hid (show nbr p' k = (p'.1 + (k : Int) % 3 - 1, p'.2 + (k : Int) / 3 - 1) from rfl)
          clear hps
          go_wp2_with fail
          go_region
          have HBW := Lib.hid (show Below wk.heap.size wk (wk.alloc (.cells #[.int .i64 (p'.1 + (k : Int) % 3 - 1), .int .i64 (p'.2 + (k : Int) / 3 - 1)] 46)).drew from below_dn ((Below.refl _ _).alloc (Nat.le_refl _) _) 1)
          have pQ := Lib.hid (Pt.drew (Pt.new wk #[.int .i64 (p'.1 + (k : Int) % 3 - 1), .int .i64 (p'.2 + (k : Int) / 3 - 1)] 46))
          have hX : -2305843009213693953 ≤ p'.1 + (k : Int) % 3 - 1 ∧ p'.1 + (k : Int) % 3 - 1 ≤ 2305843009213693953 := by omega
          have hY : -2305843009213693953 ≤ p'.2 + (k : Int) / 3 - 1 ∧ p'.2 + (k : Int) / 3 - 1 ≤ 2305843009213693953 := by omega
          generalize p'.1 + (k : Int) % 3 - 1 = X at *
          generalize p'.2 + (k : Int) / 3 - 1 = Y at *
          have HXb := Lib.hid hX
          have HYb := Lib.hid hY
          generalize (wk.alloc (.cells #[.int .i64 X, .int .i64 Y] 46)).drew = W2 at *
          have HPS2 := Lib.hid (HPS.out.keep HBW.out HBW.out.size)
          have Hpb := Lib.hid (And.intro (fun g hg => show g ≠ wk.heap.size by have := (N2.out.ro.lt g hg).2; omega) (fun g hg => show g ≠ wk.heap.size by have := (N2.out.rs.lt g hg).2; omega))
          have N3 := Lib.hid (N2.out.keep HBW.out)
          clear hX hY cx cy s1 s2 s3 s4 hb N2 HPS
          generalize wk.heap.size = pb at *
          generalize inP l p' k (outP l i) = s at *
          have cq := pQ.out.cell
          have lq := pQ.out.lt
          have HIN := Lib.hid (has_any s.2 As cs X Y (by have := Hsn.out; omega) HPS2.out)
          by_cases hin : (X, Y) ∈ s.2
          · rw [decide_eq_true hin] at HIN
            have hst : stepP l (nbr p' k) s = s := by rw [HXY.out]; unfold stepP; rw [if_pos hin]
            go_wp2_with ((go_at_call 22); (with_reducible refine HIN.out.mono ?_); rintro e w5 ⟨rfl, hb_w5⟩; obtain ⟨hc, hf⟩ := bcell hb_w5; have hz := hb_w5.size; (try simp only [World.size_alloc, World.size_setCell, World.size_drew] at hz); (first | (with_reducible have hl := lt_rule6 hz) | (with_reducible have hl := lt_rule5 hz) | (with_reducible have hl := lt_rule4 hz) | (with_reducible have hl := lt_rule3 hz) | (with_reducible have hl := lt_rule2 hz) | (with_reducible have hl := lt_rule1 hz) | have hl := lt_rule0 hz); (try (have hz0 : w.heap.size < w5.heap.size := by omega)); (try (have hz1 : w.heap.size + 1 < w5.heap.size := by omega)); (try (have hz2 : w.heap.size + 1 + 1 < w5.heap.size := by omega)); (try (have hz3 : w.heap.size + 1 + 1 + 1 < w5.heap.size := by omega)); (try (have hz4 : w.heap.size + 1 + 1 + 1 + 1 < w5.heap.size := by omega)))
            have N5 := N3.out.keep hb_w5
            have hk5 := HSk.out.trans hst
            exact ⟨⟨k + 1, by have := HK.out; omega, by go_num, Lib.hid (by rw [hk5]; exact N5)⟩, by have := HMk.out; simp [intOf]; omega⟩
          · rw [decide_eq_false hin] at HIN
            have HIn := Lib.hid hin
            clear hin
            go_upto_region 12 with ((go_at_call 22); (with_reducible refine HIN.out.mono ?_); rintro e w5 ⟨rfl, hb_w5⟩; obtain ⟨hc, hf⟩ := bcell hb_w5; have hz := hb_w5.size; (try simp only [World.size_alloc, World.size_setCell, World.size_drew] at hz); (first | (with_reducible have hl := lt_rule6 hz) | (with_reducible have hl := lt_rule5 hz) | (with_reducible have hl := lt_rule4 hz) | (with_reducible have hl := lt_rule3 hz) | (with_reducible have hl := lt_rule2 hz) | (with_reducible have hl := lt_rule1 hz) | have hl := lt_rule0 hz); (try (have hz0 : w.heap.size < w5.heap.size := by omega)); (try (have hz1 : w.heap.size + 1 < w5.heap.size := by omega)); (try (have hz2 : w.heap.size + 1 + 1 < w5.heap.size := by omega)); (try (have hz3 : w.heap.size + 1 + 1 + 1 < w5.heap.size := by omega)); (try (have hz4 : w.heap.size + 1 + 1 + 1 + 1 < w5.heap.size := by omega)); have p5 := pQ.out.keep hb_w5; have c5 := p5.cell; have l5 := p5.lt; have N5 := N3.out.keep hb_w5)
            have N6 := Lib.hid (N5.keep ((Below.refl _ _).alloc (Nat.le_refl _) (.cells #[.int .i64 X, .int .i64 Y] 46)))
            have P6 := Lib.hid (p5.alloc (.cells #[.int .i64 X, .int .i64 Y] 46))
            have hbs := Lib.hid N6.out.low.size
            have hsn := Lib.hid (show s.2.length < 4194304 by have := Hsn.out; omega)
            go_wp2_with ((with_reducible refine at_dst (N := 50) rfl ?_); go_loud (refine app_any (news := [.int .i64 X, .int .i64 Y]) rfl (.tmp 47) (.tmp 49) 40 rfl Try.underlying40 2 16 (.agg #[.int .i64 (0), .int .i64 (0)]) info_pn rfl (by omega) (by omega) rfl N6.out.rs rfl (Pt.new _ _ _) rfl (by intro u hu; simp only [List.mem_cons, List.not_mem_nil, or_false] at hu; rcases hu with rfl | rfl <;> rfl) hsn.out hbs.out ?_); intro v' w' hrow hg hv; have N7 := Lib.hid (N6.out.appS (p := (X, Y)) hrow hg hv); have P7 := Lib.hid (show Pt w' pb #[.int .i64 X, .int .i64 Y] 46 from (hg.block pb P6.out.lt (fun e => Hpb.out.2 pb e.symm rfl)).trans P6.out); clear hrow hg hv)
            have c7 := P7.out.cell
            have l7 := P7.out.lt
            have h0 : Hid (cntTo l (X, Y) 0 = 0) := Lib.hid (by simp [cntTo])
            clear c5 l5 cq lq
            go_loopw [9, 10] (fun n v wr => ∃ (j : Nat), j ≤ l.length ∧ v = .int .i64 j ∧ n = .int .i64 (cntTo l (X, Y) j) ∧ Hid (Pt wr pb #[.int .i64 X, .int .i64 Y] 46) ∧ Hid (NxIn w u3 v' (s.1, s.2 ++ [(X, Y)]) wr)) (fun _ v _ => l.length - (intOf v).toNat)
            case atStart => exact ⟨0, by omega, rfl, by rw [h0.out]; rfl, P7, N7⟩
            case round =>
              rename World => wj
              obtain ⟨j, hj, rfl, rfl, P8, N8⟩ := hrel
              clear c7 l7 P7 N7 h0
              have c8 := P8.out.cell
              have l8 := P8.out.lt
              by_cases hjt : j < l.length
              · have HJ := Lib.hid hjt
                obtain ⟨b', o', q, eA, hb', hq, cx, cy⟩ := (H.out.keep N8.out.low N8.out.low.size).at_ hjt
                have eB : b = b' ∧ o = o' := by cases eA; exact ⟨rfl, rfl⟩
                obtain ⟨rfl, rfl⟩ := eB
                clear eA
                have HQ := Lib.hid hq
                have j0 : (0 : Int) ≤ (j : Int) := by omega
                have j1 : (j : Int) < (l.length : Int) := by omega
                have sm := HS.out q (List.mem_of_getElem? hq)
                have x1 := HXb.out
                have x2 := HYb.out
                have y1 : IntKind.i64.wrap (q.1 - X) = q.1 - X := by rw [i64_w, w64 (by omega) (by omega)]
                have y2 : IntKind.i64.wrap (q.2 - Y) = q.2 - Y := by rw [i64_w, w64 (by omega) (by omega)]
                have HMj := Lib.hid (show l.length - (j + 1) < l.length - j by omega)
                have l64 := HL.out
                have hcs := Lib.hid (cntTo_succ l (X, Y) q j hq)
                have hcl := Lib.hid (cntTo_le l (X, Y) j)
                have qn := ne_pn
                have hcl1 := Lib.hid (show wrap64 ((cntTo l (X, Y) j : Nat) + 1) = (cntTo l (X, Y) j + 1 : Nat) by have := hcl.out; rw [w64 (by omega) (by omega)]; omega)
                have hneq : (q.1 == X && q.2 == Y) = decide (q = (X, Y)) := pn_eq q X Y
                have hnb : nearB (X, Y) q = decide (q ≠ (X, Y) ∧ -1 ≤ q.1 - X ∧ q.1 - X ≤ 1 ∧ -1 ≤ q.2 - Y ∧ q.2 - Y ≤ 1) := rfl
                have HNB := Lib.hid hnb
                have i64j := Lib.hid (show wrap64 ((j : Int) + 1) = ((j + 1 : Nat) : Int) by rw [w64 (by omega) (by omega)]; omega)
                clear hjt hj hq sm x1 x2 hb' hnb l64
                go_wp2_with fail
                go_quiet (fail)
                have P9 := Lib.hid (show Pt (wj.drewN nq) pb #[.int .i64 X, .int .i64 Y] 46 from P8.out)
                have N9 := Lib.hid (N8.out.keep (below_dn (Below.refl _ wj) nq))
                have cx9 : (wj.drewN nq).cell? ⟨b, o + j * 2, none⟩ = some (.int .i64 q.1) := cx
                have cy9 : (wj.drewN nq).cell? ⟨b, o + j * 2 + 1, none⟩ = some (.int .i64 q.2) := cy
                clear cx cy c8 l8 P8 N8 y1
                generalize wj.drewN nq = W9 at *
                have c9 := P9.out.cell
                have l9 := P9.out.lt
                go_wp2_with fail
                go_quiet (fail)
                rename Nat => nr
                have P10 := Lib.hid (show Pt (W9.drewN nr) pb #[.int .i64 X, .int .i64 Y] 46 from P9.out)
                have N10 := Lib.hid (N9.out.keep (below_dn (Below.refl _ W9) nr))
                have cx10 : (W9.drewN nr).cell? ⟨b, o + j * 2, none⟩ = some (.int .i64 q.1) := cx9
                have cy10 : (W9.drewN nr).cell? ⟨b, o + j * 2 + 1, none⟩ = some (.int .i64 q.2) := cy9
                clear cx9 cy9 c9 l9 P9 N9 y2
                generalize W9.drewN nr = W10 at *
                have c10 := P10.out.cell
                have l10 := P10.out.lt
                generalize q.1 - X = dx at *
                generalize q.2 - Y = dy at *
                by_cases he : q = (X, Y)
                · rw [decide_eq_true he] at hneq
                  have hE := Lib.hid (show cntTo l (X, Y) (j + 1) = cntTo l (X, Y) j by rw [hcs.out, HNB.out, if_neg (by rw [decide_eq_true_eq]; exact fun h => h.1 he)]; rfl)
                  clear he
                  go_wp2_with fail
                  go_quiet (fail)
                  rename Nat => n3
                  have P11 := Lib.hid (show Pt (W10.drewN n3) pb #[.int .i64 X, .int .i64 Y] 46 from P10.out)
                  have N11 := Lib.hid (N10.out.keep (below_dn (Below.refl _ W10) n3))
                  clear cx10 cy10 c10 l10 P10 N10
                  generalize W10.drewN n3 = W11 at *
                  go_wp2_with fail
                  exact ⟨⟨j + 1, by have := HJ.out; omega, by first | rw [i64j.out] | go_num, by rw [hE.out], P11, N11⟩, by have := HMj.out; (first | rw [i64j.out] | skip); simp [intOf]; omega⟩
                · rw [decide_eq_false he] at hneq
                  by_cases d0 : -1 ≤ dx
                  · by_cases d1 : dx ≤ 1
                    · by_cases d2 : -1 ≤ dy
                      · by_cases d3 : dy ≤ 1
                        · have hE := Lib.hid (show cntTo l (X, Y) (j + 1) = cntTo l (X, Y) j + 1 by rw [hcs.out, HNB.out, if_pos (by rw [decide_eq_true_eq]; exact ⟨he, d0, d1, d2, d3⟩)])
                          clear he
                          go_wp2_with fail
                          go_quiet (fail)
                          rename Nat => n3
                          have P11 := Lib.hid (show Pt (W10.drewN n3) pb #[.int .i64 X, .int .i64 Y] 46 from P10.out)
                          have N11 := Lib.hid (N10.out.keep (below_dn (Below.refl _ W10) n3))
                          clear cx10 cy10 c10 l10 P10 N10
                          generalize W10.drewN n3 = W11 at *
                          go_wp2_with fail
                          exact ⟨⟨j + 1, by have := HJ.out; omega, by first | rw [i64j.out] | go_num, by rw [hE.out]; first | rfl | rw [hcl1.out], P11, N11⟩, by have := HMj.out; (first | rw [i64j.out] | skip); simp [intOf]; omega⟩
                        · have hE := Lib.hid (show cntTo l (X, Y) (j + 1) = cntTo l (X, Y) j by rw [hcs.out, HNB.out, if_neg (by rw [decide_eq_true_eq]; omega)]; rfl)
                          have D3 : decide (dy ≤ 1) = false := decide_eq_false d3
                          clear he
                          go_wp2_with fail
                          go_quiet (fail)
                          rename Nat => n3
                          have P11 := Lib.hid (show Pt (W10.drewN n3) pb #[.int .i64 X, .int .i64 Y] 46 from P10.out)
                          have N11 := Lib.hid (N10.out.keep (below_dn (Below.refl _ W10) n3))
                          clear cx10 cy10 c10 l10 P10 N10
                          generalize W10.drewN n3 = W11 at *
                          go_wp2_with fail
                          exact ⟨⟨j + 1, by have := HJ.out; omega, by first | rw [i64j.out] | go_num, by rw [hE.out], P11, N11⟩, by have := HMj.out; (first | rw [i64j.out] | skip); simp [intOf]; omega⟩
                      · have hE := Lib.hid (show cntTo l (X, Y) (j + 1) = cntTo l (X, Y) j by rw [hcs.out, HNB.out, if_neg (by rw [decide_eq_true_eq]; omega)]; rfl)
                        have D2 : decide (-1 ≤ dy) = false := decide_eq_false d2
                        clear he
                        go_wp2_with fail
                        go_quiet (fail)
                        rename Nat => n3
                        have P11 := Lib.hid (show Pt (W10.drewN n3) pb #[.int .i64 X, .int .i64 Y] 46 from P10.out)
                        have N11 := Lib.hid (N10.out.keep (below_dn (Below.refl _ W10) n3))
                        clear cx10 cy10 c10 l10 P10 N10
                        generalize W10.drewN n3 = W11 at *
                        go_wp2_with fail
                        exact ⟨⟨j + 1, by have := HJ.out; omega, by first | rw [i64j.out] | go_num, by rw [hE.out], P11, N11⟩, by have := HMj.out; (first | rw [i64j.out] | skip); simp [intOf]; omega⟩
                    · have hE := Lib.hid (show cntTo l (X, Y) (j + 1) = cntTo l (X, Y) j by rw [hcs.out, HNB.out, if_neg (by rw [decide_eq_true_eq]; omega)]; rfl)
                      have D1 : decide (dx ≤ 1) = false := decide_eq_false d1
                      clear he
                      go_wp2_with fail
                      go_quiet (fail)
                      rename Nat => n3
                      have P11 := Lib.hid (show Pt (W10.drewN n3) pb #[.int .i64 X, .int .i64 Y] 46 from P10.out)
                      have N11 := Lib.hid (N10.out.keep (below_dn (Below.refl _ W10) n3))
                      clear cx10 cy10 c10 l10 P10 N10
                      generalize W10.drewN n3 = W11 at *
                      go_wp2_with fail
                      exact ⟨⟨j + 1, by have := HJ.out; omega, by first | rw [i64j.out] | go_num, by rw [hE.out], P11, N11⟩, by have := HMj.out; (first | rw [i64j.out] | skip); simp [intOf]; omega⟩
                  · have hE := Lib.hid (show cntTo l (X, Y) (j + 1) = cntTo l (X, Y) j by rw [hcs.out, HNB.out, if_neg (by rw [decide_eq_true_eq]; omega)]; rfl)
                    have D0 : decide (-1 ≤ dx) = false := decide_eq_false d0
                    clear he
                    go_wp2_with fail
                    go_quiet (fail)
                    rename Nat => n3
                    have P11 := Lib.hid (show Pt (W10.drewN n3) pb #[.int .i64 X, .int .i64 Y] 46 from P10.out)
                    have N11 := Lib.hid (N10.out.keep (below_dn (Below.refl _ W10) n3))
                    clear cx10 cy10 c10 l10 P10 N10
                    generalize W10.drewN n3 = W11 at *
                    go_wp2_with fail
                    exact ⟨⟨j + 1, by have := HJ.out; omega, by first | rw [i64j.out] | go_num, by rw [hE.out], P11, N11⟩, by have := HMj.out; (first | rw [i64j.out] | skip); simp [intOf]; omega⟩
              · obtain rfl : j = l.length := by omega
                have l64 := HL.out
                have HIA := Lib.hid (has_any l (some ⟨b, o, none⟩) cap X Y (by omega) (H.out.keep N8.out.low N8.out.low.size))
                have hru : ruleP l (X, Y) = (decide (cntTo l (X, Y) l.length = 3) || (decide (cntTo l (X, Y) l.length = 2) && decide ((X, Y) ∈ l))) := rfl
                have hon := Lib.hid (show s.1.length < 4194304 by have := Hon.out; omega)
                clear hjt hj l64
                generalize cntTo l (X, Y) l.length = n0 at *
                by_cases n3 : n0 = 3
                · have hr : ruleP l (X, Y) = true := by rw [hru, decide_eq_true n3]; rfl
                  have e3 : (n0 : Int) = 3 := by omega
                  clear hru n3
                  have hst : stepP l (nbr p' k) s = (s.1 ++ [(X, Y)], s.2 ++ [(X, Y)]) := by rw [HXY.out]; unfold stepP; rw [if_neg HIn.out, if_pos hr]
                  have hk5 := Lib.hid (HSk.out.trans hst)
                  clear hst hr
                  go_wp2_with (first | ((go_at_call 22); (with_reducible refine HIA.out.mono ?_); rintro e w9 ⟨rfl, hb_w9⟩; obtain ⟨hc, hf⟩ := bcell hb_w9; have hz := hb_w9.size; (try simp only [World.size_alloc, World.size_setCell, World.size_drew] at hz); (first | (with_reducible have hl := lt_rule6 hz) | (with_reducible have hl := lt_rule5 hz) | (with_reducible have hl := lt_rule4 hz) | (with_reducible have hl := lt_rule3 hz) | (with_reducible have hl := lt_rule2 hz) | (with_reducible have hl := lt_rule1 hz) | have hl := lt_rule0 hz); (try (have hz0 : w.heap.size < w9.heap.size := by omega)); (try (have hz1 : w.heap.size + 1 < w9.heap.size := by omega)); (try (have hz2 : w.heap.size + 1 + 1 < w9.heap.size := by omega)); (try (have hz3 : w.heap.size + 1 + 1 + 1 < w9.heap.size := by omega)); (try (have hz4 : w.heap.size + 1 + 1 + 1 + 1 < w9.heap.size := by omega)); have p9 := P8.out.keep hb_w9; have c9 := p9.cell; have l9 := p9.lt; have N9 := N8.out.keep hb_w9; have N10 := Lib.hid (N9.keep ((Below.refl _ _).alloc (Nat.le_refl _) (.cells #[.int .i64 X, .int .i64 Y] 46))); have hbs10 := Lib.hid N10.out.low.size) | ((with_reducible refine at_dst (N := 112) rfl ?_); go_loud (refine app_any (news := [.int .i64 X, .int .i64 Y]) rfl (.tmp 109) (.tmp 111) 40 rfl Try.underlying40 2 16 (.agg #[.int .i64 (0), .int .i64 (0)]) info_pn rfl (by omega) (by omega) rfl N10.out.ro rfl (Pt.new _ _ _) rfl (by intro u hu; simp only [List.mem_cons, List.not_mem_nil, or_false] at hu; rcases hu with rfl | rfl <;> rfl) hon.out hbs10.out ?_); intro v2 w10 hrow hg hv))
                  exact ⟨⟨k + 1, by have := HK.out; omega, by go_num, Lib.hid (by rw [hk5.out]; exact N10.out.appO (p := (X, Y)) hrow hg hv)⟩, by have := HMk.out; simp [intOf]; omega⟩
                · have e3 : ¬ (n0 : Int) = 3 := by omega
                  by_cases n2 : n0 = 2
                  · have e2 : (n0 : Int) = 2 := by omega
                    by_cases hal : (X, Y) ∈ l
                    · have hr : ruleP l (X, Y) = true := by rw [hru, decide_eq_true n2, decide_eq_true hal]; simp
                      rw [decide_eq_true hal] at HIA
                      clear hru n2 n3 hal
                      have hst : stepP l (nbr p' k) s = (s.1 ++ [(X, Y)], s.2 ++ [(X, Y)]) := by rw [HXY.out]; unfold stepP; rw [if_neg HIn.out, if_pos hr]
                      have hk5 := Lib.hid (HSk.out.trans hst)
                      clear hst hr
                      go_wp2_with (first | ((go_at_call 22); (with_reducible refine HIA.out.mono ?_); rintro e w9 ⟨rfl, hb_w9⟩; obtain ⟨hc, hf⟩ := bcell hb_w9; have hz := hb_w9.size; (try simp only [World.size_alloc, World.size_setCell, World.size_drew] at hz); (first | (with_reducible have hl := lt_rule6 hz) | (with_reducible have hl := lt_rule5 hz) | (with_reducible have hl := lt_rule4 hz) | (with_reducible have hl := lt_rule3 hz) | (with_reducible have hl := lt_rule2 hz) | (with_reducible have hl := lt_rule1 hz) | have hl := lt_rule0 hz); (try (have hz0 : w.heap.size < w9.heap.size := by omega)); (try (have hz1 : w.heap.size + 1 < w9.heap.size := by omega)); (try (have hz2 : w.heap.size + 1 + 1 < w9.heap.size := by omega)); (try (have hz3 : w.heap.size + 1 + 1 + 1 < w9.heap.size := by omega)); (try (have hz4 : w.heap.size + 1 + 1 + 1 + 1 < w9.heap.size := by omega)); have p9 := P8.out.keep hb_w9; have c9 := p9.cell; have l9 := p9.lt; have N9 := N8.out.keep hb_w9; have N10 := Lib.hid (N9.keep ((Below.refl _ _).alloc (Nat.le_refl _) (.cells #[.int .i64 X, .int .i64 Y] 46))); have hbs10 := Lib.hid N10.out.low.size) | ((with_reducible refine at_dst (N := 112) rfl ?_); go_loud (refine app_any (news := [.int .i64 X, .int .i64 Y]) rfl (.tmp 109) (.tmp 111) 40 rfl Try.underlying40 2 16 (.agg #[.int .i64 (0), .int .i64 (0)]) info_pn rfl (by omega) (by omega) rfl N10.out.ro rfl (Pt.new _ _ _) rfl (by intro u hu; simp only [List.mem_cons, List.not_mem_nil, or_false] at hu; rcases hu with rfl | rfl <;> rfl) hon.out hbs10.out ?_); intro v2 w10 hrow hg hv))
                      exact ⟨⟨k + 1, by have := HK.out; omega, by go_num, Lib.hid (by rw [hk5.out]; exact N10.out.appO (p := (X, Y)) hrow hg hv)⟩, by have := HMk.out; simp [intOf]; omega⟩
                    · have hr : ¬ ruleP l (X, Y) = true := by rw [hru, decide_eq_false n3, decide_eq_false hal]; simp
                      rw [decide_eq_false hal] at HIA
                      clear hru n2 n3 hal
                      have hst : stepP l (nbr p' k) s = (s.1, s.2 ++ [(X, Y)]) := by rw [HXY.out]; unfold stepP; rw [if_neg HIn.out, if_neg hr]
                      have hk5 := Lib.hid (HSk.out.trans hst)
                      clear hst hr
                      go_wp2_with ((go_at_call 22); (with_reducible refine HIA.out.mono ?_); rintro e w9 ⟨rfl, hb_w9⟩; obtain ⟨hc, hf⟩ := bcell hb_w9; have hz := hb_w9.size; (try simp only [World.size_alloc, World.size_setCell, World.size_drew] at hz); (first | (with_reducible have hl := lt_rule6 hz) | (with_reducible have hl := lt_rule5 hz) | (with_reducible have hl := lt_rule4 hz) | (with_reducible have hl := lt_rule3 hz) | (with_reducible have hl := lt_rule2 hz) | (with_reducible have hl := lt_rule1 hz) | have hl := lt_rule0 hz); (try (have hz0 : w.heap.size < w9.heap.size := by omega)); (try (have hz1 : w.heap.size + 1 < w9.heap.size := by omega)); (try (have hz2 : w.heap.size + 1 + 1 < w9.heap.size := by omega)); (try (have hz3 : w.heap.size + 1 + 1 + 1 < w9.heap.size := by omega)); (try (have hz4 : w.heap.size + 1 + 1 + 1 + 1 < w9.heap.size := by omega)); have N9 := N8.out.keep hb_w9)
                      exact ⟨⟨k + 1, by have := HK.out; omega, by go_num, Lib.hid (by rw [hk5.out]; exact N9)⟩, by have := HMk.out; simp [intOf]; omega⟩
                  · have e2 : ¬ (n0 : Int) = 2 := by omega
                    have hr : ¬ ruleP l (X, Y) = true := by rw [hru, decide_eq_false n3, decide_eq_false n2]; simp
                    clear hru n2 n3
                    have hst : stepP l (nbr p' k) s = (s.1, s.2 ++ [(X, Y)]) := by rw [HXY.out]; unfold stepP; rw [if_neg HIn.out, if_neg hr]
                    have hk5 := Lib.hid (HSk.out.trans hst)
                    clear hst hr
                    go_wp2_with ((go_at_call 22); (with_reducible refine HIA.out.mono ?_); rintro e w9 ⟨rfl, hb_w9⟩; obtain ⟨hc, hf⟩ := bcell hb_w9; have hz := hb_w9.size; (try simp only [World.size_alloc, World.size_setCell, World.size_drew] at hz); (first | (with_reducible have hl := lt_rule6 hz) | (with_reducible have hl := lt_rule5 hz) | (with_reducible have hl := lt_rule4 hz) | (with_reducible have hl := lt_rule3 hz) | (with_reducible have hl := lt_rule2 hz) | (with_reducible have hl := lt_rule1 hz) | have hl := lt_rule0 hz); (try (have hz0 : w.heap.size < w9.heap.size := by omega)); (try (have hz1 : w.heap.size + 1 < w9.heap.size := by omega)); (try (have hz2 : w.heap.size + 1 + 1 < w9.heap.size := by omega)); (try (have hz3 : w.heap.size + 1 + 1 + 1 < w9.heap.size := by omega)); (try (have hz4 : w.heap.size + 1 + 1 + 1 + 1 < w9.heap.size := by omega)); have N9 := N8.out.keep hb_w9)
                    exact ⟨⟨k + 1, by have := HK.out; omega, by go_num, Lib.hid (by rw [hk5.out]; exact N9)⟩, by have := HMk.out; simp [intOf]; omega⟩
        · obtain rfl : k = 9 := by omega
          have N3 := N2.out
          rw [← HSO.out] at N3
          have N4 := Lib.hid N3
          have l64 := HL.out
          clear hkt hk N3
          go_wp2_with fail
          exact ⟨⟨i + 1, by have := HI.out; omega, by go_num, N4⟩, by have := HM.out; simp [intOf]; omega⟩
    · obtain rfl : i = l.length := by omega
      clear hlt hi
      go_wp2_with fail
      go_ret
      exact ⟨_, rfl, N1.out.ro, N1.out.low⟩
end Go.Proofs.Ytjiliiclebdbfaa

/- The walk of the statement GridAll: all points of any small rectangle, row by row. -/
import Derived.Test.YtmjdlofkjjofcaaProg
import Derived.Test.YtmjdlofkjjofcaaKit
import Derived.Test.YtmjdlofkjjofcaaOpen
import Derived.Test.YtmjdlofkjjofcaaGrid
import Derived.Test.YtmjdlofkjjofcaaGridRef
import Derived.Test.YtmjdlofkjjofcaaRange
import Derived.Sort.BigQuietIn
namespace Go.Proofs.Ytmjdlofkjjofcaa
open Go.RowKit Go.Shelf
set_option linter.unusedVariables false
set_option linter.unusedSimpArgs false
attribute [local go_sem] Oper.semAt_some
theorem three_pts (w w1 : World) (T0 T1 T2 : TypeId) (a b c : Array Value) (h : Below (((w.alloc (.cells a T0)).alloc (.cells b T1)).alloc (.cells c T2)).heap.size (((w.alloc (.cells a T0)).alloc (.cells b T1)).alloc (.cells c T2)) w1) :
    Pt w1 w.heap.size a T0 ∧ Pt w1 (w.heap.size + 1) b T1 ∧ Pt w1 (w.heap.size + 1 + 1) c T2 ∧ Below w.heap.size w w1 := by
  have p0 := (((Pt.new w a T0).alloc (.cells b T1)).alloc (.cells c T2)).keep h
  have p1 := ((Pt.new (w.alloc (.cells a T0)) b T1).alloc (.cells c T2)).keep h
  have p2 := (Pt.new ((w.alloc (.cells a T0)).alloc (.cells b T1)) c T2).keep h
  rw [World.size_alloc] at p1
  rw [World.size_alloc, World.size_alloc] at p2
  exact ⟨p0, p1, p2, ((((Below.refl w.heap.size w).alloc (Nat.le_refl _) (.cells a T0)).alloc (by simp) (.cells b T1)).alloc (by simp; omega) (.cells c T2)).trans (h.mono (by simp; omega))⟩
/-- What lies at the loops. -/
def AllI (w : World) (b0 b1 b2 b3 b4 : Nat) (x y : Int) (u p q k : Nat) (W : World) : Prop :=
  Pt W b0 #[.int .i64 x, .int .i64 y] 23 ∧ Pt W b1 #[.int .u8 u] 5 ∧ Pt W b2 #[.bool false] 4 ∧ Pt W b3 #[.int .i64 x, .int .i64 y, .int .i64 (x + p), .int .i64 (y + q)] 26 ∧ Pt W b4 #[.int .i64 k] 2 ∧ Below w.heap.size w W
theorem AllI.keep {w W W' : World} {b0 b1 b2 b3 b4 B : Nat} {x y : Int} {u p q k : Nat} (h : AllI w b0 b1 b2 b3 b4 x y u p q k W) (hb : Below B W W') (h0 : b0 < B ∧ b1 < B ∧ b2 < B ∧ b3 < B ∧ b4 < B) (hw : w.heap.size ≤ B) : AllI w b0 b1 b2 b3 b4 x y u p q k W' :=
  ⟨(hb.block _ h0.1).trans h.1, (hb.block _ h0.2.1).trans h.2.1, (hb.block _ h0.2.2.1).trans h.2.2.1, (hb.block _ h0.2.2.2.1).trans h.2.2.2.1, (hb.block _ h0.2.2.2.2).trans h.2.2.2.2.1, h.2.2.2.2.2.trans (hb.mono hw)⟩
theorem i64w {n : Int} (h : -9223372036854775808 ≤ n) (h' : n ≤ 9223372036854775807) : IntKind.i64.wrap n = n := (i64_w n).trans (w64 h h')
theorem AllI.step {w W : World} {b0 b1 b2 b3 b4 : Nat} {x y : Int} {u p q k : Nat} (h : AllI w b0 b1 b2 b3 b4 x y u p q k W) (h0 : b0 ≠ b4 ∧ b1 ≠ b4 ∧ b2 ≠ b4 ∧ b3 ≠ b4) (hw : w.heap.size ≤ b4) : AllI w b0 b1 b2 b3 b4 x y u p q (k + 1) (W.setCell ⟨b4, 0, none⟩ (.int .i64 ((k : Int) + 1))) := by
  have hb : ∀ b, b ≠ b4 → (W.setCell ⟨b4, 0, none⟩ (.int .i64 ((k : Int) + 1))).heap[b]? = W.heap[b]? := fun b hb => Below.heap_setCell _ _ _ _ (by show b ≠ b4; exact hb)
  exact ⟨(hb _ h0.1).trans h.1, (hb _ h0.2.1).trans h.2.1, (hb _ h0.2.2.1).trans h.2.2.1, (hb _ h0.2.2.2).trans h.2.2.2.1, by have := h.2.2.2.2.1.set 0 (.int .i64 ((k : Int) + 1)); simpa using this, h.2.2.2.2.2.setCell (p := ⟨b4, 0, none⟩) hw _⟩
theorem mul_idx {p q : Nat} (hp : p < 40) (hq : q < 40) : wrap64 ((p : Int) * (q : Int)) = ((p * q : Nat) : Int) := by
  have := Nat.mul_le_mul (show p ≤ 39 by omega) (show q ≤ 39 by omega)
  rw [← Int.natCast_mul]
  exact w64 (by omega) (by omega)
theorem idx_lt {p q j i : Nat} (hj : j < q) (hi : i < p) (hp : p < 40) (hq : q < 40) : p * j + i < 1600 := by
  have := Nat.mul_le_mul (show p ≤ 39 by omega) (show j ≤ 39 by omega)
  omega
theorem rem_quo (p j i : Nat) (hi : i < p) : Int.tmod ((p * j + i : Nat) : Int) (p : Int) = i ∧ Int.tdiv ((p * j + i : Nat) : Int) (p : Int) = j := by
  constructor
  · rw [← Int.ofNat_tmod, Nat.mul_add_mod, Nat.mod_eq_of_lt hi]
  · rw [← Int.ofNat_tdiv, Nat.mul_add_div (by omega), Nat.div_eq_of_lt hi, Nat.add_zero]
set_option maxHeartbeats 4000000 in
set_option maxRecDepth 100000 in
theorem gridAll_in (x y : Int) (u v : Nat) (hu : u ≤ 255) (hv : v ≤ 255) (hx : -2305843009213693952 ≤ x ∧ x ≤ 2305843009213693952) (hy : -2305843009213693952 ≤ y ∧ y ≤ 2305843009213693952) (w : World) :
    CallsIn Fence.wide 9 Try.prog 3 #[.agg #[.int .i64 (x), .int .i64 (y)], .int .u8 u, .int .u8 v] w fun e w' => e = .returned (.bool true) ∧ Below w.heap.size w w' := by
  have g1 : decide (x > 2305843009213693952) = false := decide_eq_false (by omega)
  have g2 : decide (y > 2305843009213693952) = false := decide_eq_false (by omega)
  have g3 : decide (x < -2305843009213693952) = false := decide_eq_false (by omega)
  have g4 : decide (y < -2305843009213693952) = false := decide_eq_false (by omega)
  have HX := Lib.hid hx
  have HY := Lib.hid hy
  have HU := Lib.hid (And.intro hu hv)
  clear hx hy hu hv
  refine callsIn_of_wp_marks Try.func3 rfl trivial ?_ rfl
  simp only [Try.ntmps3, List.size_toArray, List.length_cons, List.length_nil, Nat.reduceAdd, Nat.reduceSub, Array.replicate_succ, Array.replicate_zero, List.push_toArray, List.append_toArray, List.nil_append, List.cons_append]
  gi_wp2_with (refine ⟨trivial, ?_⟩; gi_at_call 10; refine (callsIn_wide.2 (lives4 _)).mono ?_; rintro e w1 ⟨rfl, hb1⟩; obtain ⟨p0, p1, p2, hbb⟩ := three_pts w w1 23 5 4 _ _ _ hb1; have c0 := p0.cell; have c1 := p1.cell; have c2 := p2.cell; have f2 := p2.frozen; have b1 := Lib.hid hbb; clear hbb; clear hb1)
  obtain ⟨p, hp, hp2⟩ : ∃ p : Nat, (u : Int) % 40 = p ∧ p < 40 := ⟨u % 40, by omega, by omega⟩
  obtain ⟨q, hq, hq2⟩ : ∃ q : Nat, (v : Int) % 40 = q ∧ q < 40 := ⟨v % 40, by omega, by omega⟩
  have hwx : wrap64 (x + (p : Int)) = x + p := by have := HX.out; rw [w64 (by omega) (by omega)]
  have hwy : wrap64 (y + (q : Int)) = y + q := by have := HY.out; rw [w64 (by omega) (by omega)]
  rw [hp, hq, hwx, hwy]
  clear c0 c1 c2 f2 hwx hwy
  have s0 := p0.lt
  have s1 := p1.lt
  have s2 := p2.lt
  have A0 := Lib.hid (show AllI w w.heap.size (w.heap.size + 1) (w.heap.size + 1 + 1) w1.heap.size (w1.heap.size + 1) x y u p q 0 ((w1.alloc (.cells #[.int .i64 x, .int .i64 y, .int .i64 (x + p), .int .i64 (y + q)] 26)).alloc (.cells #[.int .i64 0] 2)) from by
    refine ⟨(p0.alloc _).alloc _, (p1.alloc _).alloc _, (p2.alloc _).alloc _, (Pt.new w1 _ _).alloc _, ?_, (b1.out.alloc (by have := b1.out.size; omega) _).alloc (by have := b1.out.size; simp; omega) _⟩
    have := Pt.new (w1.alloc (.cells #[.int .i64 x, .int .i64 y, .int .i64 (x + p), .int .i64 (y + q)] 26)) #[.int .i64 0] 2
    rwa [World.size_alloc] at this)
  have S0 := Lib.hid (show w1.heap.size + 1 + 1 = ((w1.alloc (.cells #[.int .i64 x, .int .i64 y, .int .i64 (x + p), .int .i64 (y + q)] 26)).alloc (.cells #[.int .i64 0] 2)).heap.size by simp)
  clear p0 p1 p2 g1 g2 g3 g4
  generalize (w1.alloc (.cells #[.int .i64 x, .int .i64 y, .int .i64 (x + p), .int .i64 (y + q)] 26)).alloc (.cells #[.int .i64 0] 2) = w2 at *
  have hlt : (w.heap.size < w2.heap.size ∧ w.heap.size + 1 < w2.heap.size ∧ w.heap.size + 1 + 1 < w2.heap.size ∧ w1.heap.size < w2.heap.size ∧ w1.heap.size + 1 < w2.heap.size) := by have := S0.out; omega
  refine range_all x y p q (by have := HX.out; omega) (by have := HY.out; omega) (by omega) (by omega) rfl rfl (fun k W => AllI w w.heap.size (w.heap.size + 1) (w.heap.size + 1 + 1) w1.heap.size (w1.heap.size + 1) x y u p q k W) (fun _ _ => False)
    (fun k W W' h hb => h.keep hb hlt (by omega)) (fun _ _ _ h _ => h) A0.out ?round ?done (fun _ _ h _ => h.elim)
  case round =>
    intro l j i W hl hge hj hi hA
    obtain ⟨tm, td⟩ := rem_quo p j i hi
    have hN := idx_lt hj hi hp2 hq2
    generalize p * j + i = N at *
    gi_wp2
    refine ⟨?_, ?_⟩
    · exact Hi.alloc _ _ _
    · intro W2 hs2 hb2 hB2
      have hA2 := (hA.keep ((Below.refl w2.heap.size W).alloc (by omega) (.cells #[.int .i64 (x + i), .int .i64 (y + j)] 23)) hlt (by omega)).keep hB2 hlt (by omega)
      have pq : Pt W2 W.heap.size #[.int .i64 (x + i), .int .i64 (y + j)] 23 := (hb2 _ (by omega)).trans (Pt.new W _ _)
      clear hA hb2 hB2
      obtain ⟨q0, q1, q2, q3, q4, qb⟩ := hA2
      have hne := fun a b c d w => ne_pt a b c d w
      have c0 := q0.cell
      have c1 := q1.cell
      have c4 := q4.cell
      have f4 := q4.frozen
      have cq := pq.cell
      have hp0 : ¬ (p : Int) = 0 := by omega
      have hwi : wrap64 (x + (i : Int)) = x + i := by have := HX.out; rw [w64 (by omega) (by omega)]
      have hwj : wrap64 (y + (j : Int)) = y + j := by have := HY.out; rw [w64 (by omega) (by omega)]
      have hpt : IntKind.i64.wrap (Int.tmod (u : Int) 40) = p := by rw [Int.tmod_eq_emod_of_nonneg (by omega), hp, i64w (by omega) (by omega)]
      have hwi2 : IntKind.i64.wrap (x + (i : Int)) = x + i := by have := HX.out; rw [i64w (by omega) (by omega)]
      have hwj2 : IntKind.i64.wrap (y + (j : Int)) = y + j := by have := HY.out; rw [i64w (by omega) (by omega)]
      have hwj3 : IntKind.i64.wrap (j : Int) = j := by rw [i64w (by omega) (by omega)]
      have hlt4 := hlt.2.2.2.2
      clear hge hl hlt
      have hmo : Try.prog.follows .mixedOrders = true := by kernel_rfl
      gi_wp2
      refine region_round (by kernel_rfl) (by kernel_rfl) (by kernel_rfl) ?_
      repeat (gi_big_quiet_step (fail))
      refine wpQuietIn_nil ?_
      rintro _ ⟨nq, rfl⟩
      clear c0 c1 c4 f4 cq hwi hwj hwi2 hwj2 hwj3 hpt tm td hp hq hp0 hne
      have kb : Below W2.heap.size W2 (W2.drewN nq) := below_dn (Below.refl _ W2) nq
      have f4 := (q4.keep kb).frozen
      have c4 := (q4.keep kb).cell
      have Q := Lib.hid (show AllI w w.heap.size (w.heap.size + 1) (w.heap.size + 1 + 1) w1.heap.size (w1.heap.size + 1) x y u p q N (W2.drewN nq) from ⟨q0.keep kb, q1.keep kb, q2.keep kb, q3.keep kb, q4.keep kb, qb.trans (kb.mono qb.size)⟩)
      have H2 := Lib.hid (show Hi w2.heap.size W2 (W2.drewN nq) from ⟨kb.size, fun b o _ h => (kb.block b (Array.getElem?_eq_some_iff.1 h).1).trans h⟩)
      have hwN := Lib.hid (show wrap64 ((N : Int) + 1) = ((N + 1 : Nat) : Int) by rw [w64 (by omega) (by omega)]; rfl)
      clear q0 q1 q2 q3 q4 qb kb pq
      generalize W2.drewN nq = W3 at *
      gi_wp2
      exact ⟨H2.out.trans (Hi.setCell _ hlt4 _ _), Q.out.step (by omega) (by omega)⟩
  case done =>
    intro W hA hD
    have c3 := (hA.2.2.2.1.alloc (.cells #[.int .i64 0] 2)).cell
    gi_wp2
    clear c3
    have hDl : w2.heap.size < W.heap.size := (Array.getElem?_eq_some_iff.1 hD).1
    have hb3 : Below W.heap.size W (W.alloc (.cells #[.int .i64 0] 2)) := (Below.refl _ W).alloc (Nat.le_refl _) _
    have A3 := hA.keep hb3 (by omega) (by omega)
    have P3 := Pt.new W #[.int .i64 0] 2
    have D3 := (hb3.block _ hDl).trans hD
    have hs3 : (W.alloc (.cells #[.int .i64 0] 2)).heap.size = W.heap.size + 1 := by simp
    clear hA hD hb3
    generalize W.alloc (.cells #[.int .i64 0] 2) = W3 at *
    refine range_all x y p q (by have := HX.out; omega) (by have := HY.out; omega) (by omega) (by omega) rfl rfl (fun k X => k = 0 ∧ AllI w w.heap.size (w.heap.size + 1) (w.heap.size + 1 + 1) w1.heap.size (w1.heap.size + 1) x y u p q (p * q) X ∧ Pt X W.heap.size #[.int .i64 0] 2 ∧ X.heap[w2.heap.size]? = some (.deferred (some [])))
      (fun c X => c = .exit 2 ∧ p * q ≠ 0 ∧ AllI w w.heap.size (w.heap.size + 1) (w.heap.size + 1 + 1) w1.heap.size (w1.heap.size + 1) x y u p q (p * q) X ∧ Pt X W.heap.size #[.int .i64 1] 2 ∧ X.heap[w2.heap.size]? = some (.deferred (some [])))
      (fun k X X' h hb => ⟨h.1, h.2.1.keep hb (by omega) (by omega), (hb.block _ (by omega)).trans h.2.2.1, (hb.block _ (by omega)).trans h.2.2.2⟩)
      (fun c X X' h hb => ⟨h.1, h.2.1, h.2.2.1.keep hb (by omega) (by omega), (hb.block _ (by omega)).trans h.2.2.2.1, (hb.block _ (by omega)).trans h.2.2.2.2⟩)
      ⟨rfl, A3, P3, D3⟩ ?round2 ?done2 ?stop2
    case round2 =>
      rintro l j i X hl hge hj hi ⟨hk, hA4, hP4, hD4⟩
      have hpq : p * q ≠ 0 := by
        have := Nat.mul_pos (show 0 < p by omega) (show 0 < q by omega)
        omega
      clear A3 P3 D3
      generalize p * j + i + 1 = kk
      gi_wp2
      refine ⟨Hi.refl _ _, ?_⟩
      intro X2 hs2 hb2 hB2
      have hA5 := hA4.keep hB2 (by omega) (by omega)
      have hP5 : Pt X2 W.heap.size #[.int .i64 0] 2 := (hB2.block _ (by omega)).trans hP4
      have hD5 := (hB2.block w2.heap.size (by omega)).trans hD4
      have c5 := hP5.cell
      have f5 := hP5.frozen
      gi_wp2
      have hP6 := hP5.set 0 (.int .i64 1)
      have hne : ∀ b, b ≠ W.heap.size → (X2.setCell ⟨W.heap.size, 0, none⟩ (.int .i64 1)).heap[b]? = X2.heap[b]? := fun b hb => Below.heap_setCell _ _ _ _ (by show b ≠ W.heap.size; exact hb)
      exact ⟨Hi.setCell _ (by omega) _ _, rfl, hpq, ⟨(hne _ (by omega)).trans hA5.1, (hne _ (by omega)).trans hA5.2.1, (hne _ (by omega)).trans hA5.2.2.1, (hne _ (by omega)).trans hA5.2.2.2.1, (hne _ (by omega)).trans hA5.2.2.2.2.1, hA5.2.2.2.2.2.setCell (p := ⟨W.heap.size, 0, none⟩) (by show w.heap.size ≤ W.heap.size; omega) _⟩, by simpa using hP6, (hne _ (by omega)).trans hD5⟩
    case done2 =>
      rintro X ⟨hk, hA4, hP4, hD4⟩ hD5
      have c1 := hA4.2.1.cell
      have c2 := hA4.2.2.1.cell
      have f2 := hA4.2.2.1.frozen
      have c4 := hA4.2.2.2.2.1.cell
      have c5 := hP4.cell
      have hpr : Pt (X.setCell ⟨w.heap.size + 1 + 1, 0, none⟩ (.bool true)) (w.heap.size + 1 + 1) #[.bool true] 4 := by simpa using hA4.2.2.1.set 0 (.bool true)
      have hne : ∀ b, b ≠ w.heap.size + 1 + 1 → (X.setCell ⟨w.heap.size + 1 + 1, 0, none⟩ (.bool true)).heap[b]? = X.heap[b]? := fun b hb => Below.heap_setCell _ _ _ _ (by show b ≠ w.heap.size + 1 + 1; exact hb)
      rw [hs3] at hD5
      have e1 := (hne (W.heap.size + 1) (by omega)).trans hD5
      have e2 := (hne w2.heap.size (by omega)).trans hD4
      have hbw := hA4.2.2.2.2.2.setCell (p := ⟨w.heap.size + 1 + 1, 0, none⟩) (by show w.heap.size ≤ w.heap.size + 1 + 1; omega) (.bool true)
      have hm := mul_idx hp2 hq2
      rw [hk] at hm c4
      gi_wp2
      refine ⟨by simp, .inl ⟨_, _, rfl, run_takeDeferred e1, by simp, .inl ⟨_, _, rfl, run_takeDeferred ((World.putObj_heap_other (by omega)).trans e2), ?_⟩⟩⟩
      have hpf : Pt (((X.setCell ⟨w.heap.size + 1 + 1, 0, none⟩ (.bool true)).putObj (W.heap.size + 1) (.deferred none)).putObj w2.heap.size (.deferred none)) (w.heap.size + 1 + 1) #[.bool true] 4 :=
        (World.putObj_heap_other (by omega)).trans ((World.putObj_heap_other (by omega)).trans hpr)
      have cf := hpf.cell
      refine ⟨.bool true, ?_, rfl, hbw.trans ((below_put _ _ (by omega)).trans (below_put _ _ (by omega)))⟩
      simp [results, Try.f3, go_sem, cf]
    case stop2 =>
      rintro c X ⟨rfl, hk, hA4, hP4, hD4⟩ hD5
      have c1 := hA4.2.1.cell
      have c2 := hA4.2.2.1.cell
      have f2 := hA4.2.2.1.frozen
      have c4 := hA4.2.2.2.2.1.cell
      have c5 := hP4.cell
      have hpr : Pt (X.setCell ⟨w.heap.size + 1 + 1, 0, none⟩ (.bool true)) (w.heap.size + 1 + 1) #[.bool true] 4 := by simpa using hA4.2.2.1.set 0 (.bool true)
      have hne : ∀ b, b ≠ w.heap.size + 1 + 1 → (X.setCell ⟨w.heap.size + 1 + 1, 0, none⟩ (.bool true)).heap[b]? = X.heap[b]? := fun b hb => Below.heap_setCell _ _ _ _ (by show b ≠ w.heap.size + 1 + 1; exact hb)
      rw [hs3] at hD5
      have e1 := (hne (W.heap.size + 1) (by omega)).trans hD5
      have e2 := (hne w2.heap.size (by omega)).trans hD4
      have hbw := hA4.2.2.2.2.2.setCell (p := ⟨w.heap.size + 1 + 1, 0, none⟩) (by show w.heap.size ≤ w.heap.size + 1 + 1; omega) (.bool true)
      have hm := mul_idx hp2 hq2
      have HK := Lib.hid hk
      clear hk
      generalize p * q = N at *
      gi_wp2
      all_goals try (rw [show ((1 : Int) == (N : Int)) = true from by rw [beq_iff_eq]; have := HK.out; omega])
      all_goals
        refine ⟨by simp, .inl ⟨_, _, rfl, run_takeDeferred e1, by simp, .inl ⟨_, _, rfl, run_takeDeferred ((World.putObj_heap_other (by omega)).trans e2), ?_⟩⟩⟩
        have hpf : Pt (((X.setCell ⟨w.heap.size + 1 + 1, 0, none⟩ (.bool true)).putObj (W.heap.size + 1) (.deferred none)).putObj w2.heap.size (.deferred none)) (w.heap.size + 1 + 1) #[.bool true] 4 :=
          (World.putObj_heap_other (by omega)).trans ((World.putObj_heap_other (by omega)).trans hpr)
        have cf := hpf.cell
        refine ⟨.bool true, ?_, rfl, hbw.trans ((below_put _ _ (by omega)).trans (below_put _ _ (by omega)))⟩
        simp [results, Try.f3, go_sem, cf]
set_option maxHeartbeats 4000000 in
set_option maxRecDepth 100000 in
theorem gridAll_out (x y : Int) (u v : Nat) (h : x > 2305843009213693952 ∨ y > 2305843009213693952 ∨ x < -2305843009213693952 ∨ y < -2305843009213693952) (w : World) :
    CallsIn Fence.wide 9 Try.prog 3 #[.agg #[.int .i64 (x), .int .i64 (y)], .int .u8 u, .int .u8 v] w fun e w' => e = .returned (.bool true) ∧ Below w.heap.size w w' := by
  have hor : (decide (x > 2305843009213693952) = true) ∨ (decide (x > 2305843009213693952) = false ∧ decide (y > 2305843009213693952) = true) ∨ (decide (x > 2305843009213693952) = false ∧ decide (y > 2305843009213693952) = false ∧ decide (x < -2305843009213693952) = true) ∨ (decide (x > 2305843009213693952) = false ∧ decide (y > 2305843009213693952) = false ∧ decide (x < -2305843009213693952) = false ∧ decide (y < -2305843009213693952) = true) := by
    simp only [decide_eq_true_eq, decide_eq_false_iff_not]
    omega
  clear h
  rcases hor with g1 | ⟨g1, g2⟩ | ⟨g1, g2, g3⟩ | ⟨g1, g2, g3, g4⟩
  all_goals
    refine callsIn_of_wp_marks Try.func3 rfl trivial ?_ rfl
    simp only [Try.ntmps3, List.size_toArray, List.length_cons, List.length_nil, Nat.reduceAdd, Nat.reduceSub, Array.replicate_succ, Array.replicate_zero, List.push_toArray, List.append_toArray, List.nil_append, List.cons_append]
    gi_wp2_with (refine ⟨trivial, ?_⟩; gi_at_call 10; refine (callsIn_wide.2 (lives4 _)).mono ?_; first | (have done_ := b1; rintro e w2 ⟨rfl, hb2⟩; have r2 := p2.keep hb2; have c2 := r2.cell; have f2 := r2.frozen; have b2 := Lib.hid (b1.out.trans (hb2.mono b1.out.size)); clear hb2) | (rintro e w1 ⟨rfl, hb1⟩; obtain ⟨p0, p1, p2, hbb⟩ := three_pts w w1 23 5 4 _ _ _ hb1; have c0 := p0.cell; have c1 := p1.cell; have b1 := Lib.hid hbb; clear hbb; clear hb1))
    have cf := (r2.set 0 (.bool true)).cell
    refine ⟨.bool true, ?_, rfl, b2.out.setCell (p := ⟨w.heap.size + 1 + 1, 0, none⟩) (by show w.heap.size ≤ w.heap.size + 1 + 1; omega) _⟩
    simp [results, Try.f3, go_sem, cf]
set_option maxRecDepth 100000 in
theorem gridAll_walk (v0 : Value) (u v : Int) {W0 : World} {base : Nat} (h0 : Value.okWide Try.prog W0 .any base 23 v0) (h1 : (Lit.int .u8 u).wf = true) (h2 : (Lit.int .u8 v).wf = true) (w : World) :
    Calls Try.prog 3 #[v0, .int .u8 u, .int .u8 v] w fun e w' => e = .returned (.bool true) ∧ Below w.heap.size w w' := by
  have ct : Try.prog.cellTypes Try.prog.depth 23 = some [2, 2] := by kernel_rfl
  have un : [2, 2].map Try.prog.underlying = [IntKind.i64, IntKind.i64].map fun k => some (.int k) := by kernel_rfl
  obtain ⟨x, y, rfl, _, _⟩ := ok_ints2 .i64 .i64 (by kernel_rfl) ct (by kernel_rfl) un h0
  have ru := u8_rng h1
  have rv := u8_rng h2
  obtain ⟨m, rfl⟩ : ∃ m : Nat, u = m := ⟨u.toNat, by omega⟩
  obtain ⟨n, rfl⟩ : ∃ n : Nat, v = n := ⟨v.toNat, by omega⟩
  refine (callsIn_wide (n := 9)).1 ?_
  by_cases h : x > 2305843009213693952 ∨ y > 2305843009213693952 ∨ x < -2305843009213693952 ∨ y < -2305843009213693952
  · exact gridAll_out x y m n h w
  · exact gridAll_in x y m n (by omega) (by omega) (by omega) (by omega) w
end Go.Proofs.Ytmjdlofkjjofcaa

/- A loop over all points of a rectangle, whatever its body does: what the iterator hands the body, and in which order. -/
import Derived.Test.YtmjdlofkjjofcaaProg
import Derived.Test.YtmjdlofkjjofcaaKit
import Derived.RangeFuncNested
import Derived.RangeFuncBound
import Derived.RangeFuncCalls
import Derived.RangeFuncLeaves
import Derived.Shelf.Abstract
import Derived.Shelf.RegionOpen
import Derived.WalkKit
import Derived.OwnWalkIn
import Derived.TacticsInMore
import Derived.LoopNIn
import Derived.LoopIn
import Derived.Sort.BigQuietIn
namespace Go.Proofs.Ytmjdlofkjjofcaa
open Go.RowKit Go.Shelf
set_option linter.unusedVariables false
set_option linter.unusedSimpArgs false
attribute [local go_sem] Oper.semAt_some
/-- The rectangle, as the iterator keeps it. -/
def rcObj (a b c d : Int) : Obj := .cells #[.int .i64 a, .int .i64 b, .int .i64 c, .int .i64 d] 26
theorem rc_cell {W : World} {B : Nat} {a b c d : Int} (h : W.heap[B]? = some (rcObj a b c d)) :
    W.cell? ⟨B, 0, none⟩ = some (.int .i64 a) ∧ W.cell? ⟨B, 1, none⟩ = some (.int .i64 b) ∧ W.cell? ⟨B, 2, none⟩ = some (.int .i64 c) ∧ W.cell? ⟨B, 3, none⟩ = some (.int .i64 d) := by
  refine ⟨?_, ?_, ?_, ?_⟩ <;> (unfold World.cell?; rw [h]; rfl)
/-- The iterator: point by point, row by row; J k: behind k points; Jx: a round has said 'no more'. -/
theorem all_walk (a b : Int) (p q : Nat) (l : Nat) (J : Nat → World → Prop) (Jx : World → Prop) (W : World) (ha : -4611686018427387904 ≤ a ∧ a ≤ 4611686018427387904) (hb : -4611686018427387904 ≤ b ∧ b ≤ 4611686018427387904) (hp : p ≤ 1000) (hq : q ≤ 1000)
    (h0 : J 0 (W.alloc (rcObj a b (a + p) (b + q)))) (hJ : ∀ k W', J k W' → W'.heap[W.heap.size]? = some (rcObj a b (a + p) (b + q)))
    (hY : ∀ (j i : Nat) (W1 : World), j < q → i < p → J (p * j + i) W1 → YieldAt Fence.wide 7 Try.prog l #[.agg #[.int .i64 (a + i), .int .i64 (b + j)]] W1 fun e W' =>
      (e = .returned (.bool true) ∧ J (p * j + i + 1) W') ∨ (e = .returned (.bool false) ∧ Jx W')) :
    CallsIn Fence.wide 8 Try.prog 11 #[.agg #[.int .i64 (a), .int .i64 (b), .int .i64 (a + p), .int .i64 (b + q)], .func (.yield l) #[] #[]] W fun e W' => (∃ v, e = .returned v) ∧ (J (p * q) W' ∨ Jx W') := by
  have HA := Lib.hid ha
  have HB := Lib.hid hb
  have HP := Lib.hid (And.intro hp hq)
  have HY := Lib.hid hY
  have HJ := Lib.hid hJ
  clear ha hb hp hq hY hJ
  refine callsIn_of_wp Try.func11 rfl trivial ?_ rfl
  simp only [Try.ntmps11, List.size_toArray, List.length_cons, List.length_nil, Nat.reduceAdd, Nat.reduceSub, Array.replicate_succ, Array.replicate_zero, List.push_toArray, List.append_toArray, List.nil_append, List.cons_append]
  gi_wp2
  gi_loopw [4] (fun v4 wr => ∃ j : Nat, j ≤ q ∧ v4 = .int .i64 (b + j) ∧ Hid (J (p * j) wr)) (fun v4 _ => q - (intOf v4 - b).toNat)
  case atStart => exact ⟨0, Nat.zero_le _, by simp, Lib.hid h0⟩
  case round =>
    clear h0
    obtain ⟨j, hj, rfl, hJj⟩ := hrel
    obtain ⟨c0, c1, c2, c3⟩ := rc_cell (HJ.out _ _ hJj.out)
    by_cases hlt : j < q
    · have t1 : b + (j : Int) < b + (q : Int) := by omega
      gi_wp2
      clear c0 c1 c2 c3
      gi_loopw [5] (fun v5 wr => ∃ i : Nat, i ≤ p ∧ v5 = .int .i64 (a + i) ∧ Hid (J (p * j + i) wr)) (fun v5 _ => p - (intOf v5 - a).toNat)
      case atStart => exact ⟨0, Nat.zero_le _, by simp, hJj⟩
      case round =>
        clear hJj
        obtain ⟨i, hi, rfl, hJi⟩ := hrel
        obtain ⟨c0, c1, c2, c3⟩ := rc_cell (HJ.out _ _ hJi.out)
        by_cases hlt2 : i < p
        · have t2 : a + (i : Int) < a + (p : Int) := by omega
          obtain ⟨fn, tmps, assign, body, hy, hR⟩ := HY.out j i _ hlt hlt2 hJi.out
          have HJW := Lib.hid (show wrap64 (a + (i : Int) + 1) = a + ((i + 1 : Nat) : Int) by have := HA.out; have := HP.out; rw [w64 (by omega) (by omega)]; omega)
          have HM := Lib.hid (show p - (a + ((i + 1 : Nat) : Int) - a).toNat < p - (a + (i : Int) - a).toNat by omega)
          gi_wp2
          refine hR.mono ?_
          rintro e W3 (⟨rfl, hJ3⟩ | ⟨rfl, hJx3⟩)
          · have HJ3 := Lib.hid hJ3
            clear hJ3 hy hR c0 c1 c2 c3
            gi_wp2
            exact ⟨⟨i + 1, hlt2, by rw [HJW.out], HJ3⟩, by rw [HJW.out]; exact HM.out⟩
          · have HX := Lib.hid hJx3
            clear hJx3 hy hR c0 c1 c2 c3
            gi_wp2
            refine bodyPost_ret (results_none rfl _ _ _) rfl ?_
            exact ⟨⟨_, rfl⟩, .inr HX.out⟩
        · obtain rfl : i = p := by omega
          have HJ1 := Lib.hid (show J (i * (j + 1)) wr by have := hJi.out; rwa [Nat.mul_succ])
          have HJW := Lib.hid (show wrap64 (b + (j : Int) + 1) = b + ((j + 1 : Nat) : Int) by have := HB.out; have := HP.out; rw [w64 (by omega) (by omega)]; omega)
          have HM := Lib.hid (show q - (b + ((j + 1 : Nat) : Int) - b).toNat < q - (b + (j : Int) - b).toNat by omega)
          clear hJi
          gi_wp2
          exact ⟨⟨j + 1, hlt, by rw [HJW.out], HJ1⟩, by rw [HJW.out]; exact HM.out⟩
    · obtain rfl : j = q := by omega
      gi_wp2
      go_end0
      exact ⟨⟨_, rfl⟩, .inl hJj.out⟩
/-- What lies at or beyond B lies as it lay. -/
def Hi (B : Nat) (X Y : World) : Prop := X.heap.size ≤ Y.heap.size ∧ ∀ b o, B ≤ b → X.heap[b]? = some o → Y.heap[b]? = some o
theorem Hi.refl (B : Nat) (X : World) : Hi B X X := ⟨Nat.le_refl _, fun _ _ _ h => h⟩
theorem Hi.trans {B : Nat} {X Y Z : World} (h : Hi B X Y) (k : Hi B Y Z) : Hi B X Z := ⟨Nat.le_trans h.1 k.1, fun b o hb ho => k.2 b o hb (h.2 b o hb ho)⟩
theorem Hi.alloc (B : Nat) (X : World) (o : Obj) : Hi B X (X.alloc o) := ⟨by simp, fun b o' _ h => (Below.heap_alloc X o b (Array.getElem?_eq_some_iff.1 h).1).trans h⟩
theorem Hi.setCell {B : Nat} (X : World) {b : Nat} (hb : b < B) (o : Nat) (v : Value) : Hi B X (X.setCell ⟨b, o, none⟩ v) := ⟨by rw [World.size_setCell]; exact Nat.le_refl _, fun b' o' hb' h => (Below.heap_setCell X _ v b' (by show b' ≠ b; omega)).trans h⟩
theorem below_put {B l : Nat} (W : World) (o : Obj) (h : B ≤ l) : Below B W (W.putObj l o) :=
  ⟨rfl, rfl, rfl, by simp, fun k hk => World.putObj_heap_other (by omega)⟩
/-- How a round may be left. -/
def roundGo (B : Nat) (W : World) (I : Nat → World → Prop) (Ix : Code → World → Prop) (k : Nat) : Exit → Act → World → Prop
  | .normal, _, W' => Hi B W W' ∧ I k W'
  | .ret, _, W' => Hi B W W' ∧ Ix .ret W'
  | .exit id, _, W' => Hi B W W' ∧ Ix (.exit id) W'
  | .goto _, _, _ => False
  | .panic _, _, _ => False
  | .outgrown, _, _ => False
/-- The loop over all points of a rectangle: an invariant of the points that have come. -/
theorem range_all {g : Operand} {ps : Array Tmp} {assign body : Code} {Q : Exit → Act → World → Prop} {a : Act} {w : World} (x y : Int) (p q : Nat)
    (hx : -4611686018427387904 ≤ x ∧ x ≤ 4611686018427387904) (hy : -4611686018427387904 ≤ y ∧ y ≤ 4611686018427387904) (hp : p ≤ 1000) (hq : q ≤ 1000)
    (hg : a.eval g = .func (.func 11) #[.agg #[.int .i64 (x), .int .i64 (y), .int .i64 (x + p), .int .i64 (y + q)]] #[]) (hps : ps.size = 1)
    (I : Nat → World → Prop) (Ix : Code → World → Prop) (hI : ∀ k W W', I k W → Below w.heap.size W W' → I k W') (hIx : ∀ c W W', Ix c W → Below w.heap.size W W' → Ix c W') (h0 : I 0 w)
    (hround : ∀ (l j i : Nat) (W : World), l < W.heap.size → w.heap.size ≤ l → j < q → i < p → I (p * j + i) W →
      assign.wpIn (Fence.wide.inRound l) 7 Try.prog (Exit.then (fun a1 W1 => Hi w.heap.size W W1 ∧ ∀ W2, W2.heap.size = W1.heap.size → (∀ b, b ≠ l → W2.heap[b]? = W1.heap[b]?) → Below w.heap.size W1 W2 →
        body.wpIn (Fence.wide.inRound l) 7 Try.prog (roundGo w.heap.size W2 I Ix (p * j + i + 1)) a1 W2) (fun _ _ _ => False))
        { tmps := (ps.zip #[.agg #[.int .i64 (x + i), .int .i64 (y + j)]]).foldl (fun t (p, v) => t.setIfInBounds p v) a.tmps, defers := [] } W)
    (hdone : ∀ W, I (p * q) W → W.heap[w.heap.size]? = some (.deferred (some [])) → Q .normal { a with defers := { target := .collected w.heap.size, args := #[] } :: a.defers } W)
    (hstop : ∀ c W, Ix c W → W.heap[w.heap.size]? = some (.deferred (some [])) → c.wpIn Fence.wide 9 Try.prog Q { a with defers := { target := .collected w.heap.size, args := #[] } :: a.defers } W) :
    (Code.rangeFunc g ps assign body).wpIn Fence.wide 9 Try.prog Q a w := by
  refine wpIn_rangeFunc fun fn _ => ?_
  obtain ⟨rec, hrec⟩ : ∃ rec : LoopState → Option Code → Loop, rec = fun st pe => { state := st, pending := pe, fn, tmps := a.tmps, params := ps, assign, body, defers := w.heap.size } := ⟨_, rfl⟩
  have hb1 : Below w.heap.size w ((w.alloc (.deferred (some []))).alloc (.loop (rec .ready none))) := ((Below.refl _ w).alloc (Nat.le_refl _) _).alloc (by simp) _
  have hs1 : ((w.alloc (.deferred (some []))).alloc (.loop (rec .ready none))).heap.size = w.heap.size + 2 := by simp
  have hL1 : ((w.alloc (.deferred (some []))).alloc (.loop (rec .ready none))).heap[w.heap.size + 1]? = some (.loop (rec .ready none)) := by
    have := World.alloc_heap_new (w.alloc (.deferred (some []))) (.loop (rec .ready none)); rwa [World.size_alloc] at this
  have hK1 : ((w.alloc (.deferred (some []))).alloc (.loop (rec .ready none))).heap[w.heap.size]? = some (.deferred (some [])) :=
    (Below.heap_alloc _ _ _ (by simp)).trans (World.alloc_heap_new w _)
  refine ⟨w.heap.size + 1, [{ target := .collected w.heap.size, args := #[] }], (w.alloc (.deferred (some []))).alloc (.loop (rec .ready none)), { target := .fn (.func 11) #[], args := #[.agg #[.int .i64 (x), .int .i64 (y), .int .i64 (x + p), .int .i64 (y + q)], .func (.yield (w.heap.size + 1)) #[] #[]] }, (w.alloc (.deferred (some []))).alloc (.loop (rec .ready none)), 11,
    #[.agg #[.int .i64 (x), .int .i64 (y), .int .i64 (x + p), .int .i64 (y + q)], .func (.yield (w.heap.size + 1)) #[] #[]], (w.alloc (.deferred (some []))).alloc (.loop (rec .ready none)), ?_, ?_, ?_, ?_, ?_, ?_⟩
  · rw [hrec]; exact run_enterLoop_outer _ _ _ _ _
  · simp only [resolve, hg]
    simp [go_sem]
  · intro f' _; trivial
  · simp [invoke, go_sem, enters_of Try.func11 (by kernel_rfl) rfl]
  · intro h; cases h
  · generalize (w.alloc (.deferred (some []))).alloc (.loop (rec .ready none)) = W0 at *
    have hb2 : Below W0.heap.size W0 (W0.alloc (rcObj x y (x + p) (y + q))) := (Below.refl _ W0).alloc (Nat.le_refl _) _
    refine (all_walk x y p q (w.heap.size + 1)
      (fun k W => I k W ∧ W.heap[w.heap.size + 1]? = some (.loop (rec .ready none)) ∧ W.heap[w.heap.size]? = some (.deferred (some [])) ∧ W.heap[W0.heap.size]? = some (rcObj x y (x + p) (y + q)))
      (fun W => ∃ c, Ix c W ∧ W.heap[w.heap.size + 1]? = some (.loop (rec .done (some c))) ∧ W.heap[w.heap.size]? = some (.deferred (some []))) W0 hx hy hp hq
      ⟨hI _ _ _ (hI _ _ _ h0 hb1) (hb2.mono (by omega)), (hb2.block _ (by omega)).trans hL1, (hb2.block _ (by omega)).trans hK1, World.alloc_heap_new W0 _⟩ (fun k W' h => h.2.2.2) ?_).mono ?_
    · rintro j i W hj hi ⟨hi1, hl, hk, hr⟩
      have hlt : w.heap.size + 1 < W.heap.size := (Array.getElem?_eq_some_iff.1 hl).1
      have hyl := run_yield (P := Try.prog) (args := #[.agg #[.int .i64 (x + i), .int .i64 (y + j)]]) hl (by rw [hrec]; exact hps.symm)
      rw [hrec] at hyl
      refine ⟨fn, _, assign, body, hyl, roundIn_of_wpIn trivial (wpIn_mono (hround (w.heap.size + 1) j i W hlt (by omega) hj hi hi1) ?_)⟩
      clear hyl
      intro e a1 W1 he
      cases e with
      | normal =>
        obtain ⟨hH, hB⟩ := he
        have hl1 := hH.2 _ _ (by omega) hl
        have hlt1 : w.heap.size + 1 < W1.heap.size := (Array.getElem?_eq_some_iff.1 hl1).1
        refine ⟨_, run_beginRound hl1 (by rw [hrec]), wpIn_mono (hB _ (by simp) (fun b hb => World.putObj_heap_other hb) (below_put _ _ (by omega))) ?_⟩
        have hH2 : ∀ b o, w.heap.size ≤ b → b ≠ w.heap.size + 1 → W.heap[b]? = some o → (W1.putObj (w.heap.size + 1) (.loop { rec .ready none with state := .busy })).heap[b]? = some o :=
          fun b o hb hne ho => (World.putObj_heap_other hne).trans (hH.2 _ _ hb ho)
        have hl2 : (W1.putObj (w.heap.size + 1) (.loop { rec .ready none with state := .busy })).heap[w.heap.size + 1]? = some (.loop { rec .ready none with state := .busy }) := World.putObj_heap_same hlt1
        generalize W1.putObj (w.heap.size + 1) (.loop { rec .ready none with state := .busy }) = W2 at *
        have fin : ∀ (jump : Option Code) (W3 : World), Hi w.heap.size W2 W3 →
            (Instr.endRound (w.heap.size + 1) jump).run Try.prog W3 = .ok (.bool jump.isNone) (W3.putObj (w.heap.size + 1) (.loop (rec (if jump.isNone then .ready else .done) jump))) ∧
            (W3.putObj (w.heap.size + 1) (.loop (rec (if jump.isNone then .ready else .done) jump))).heap[w.heap.size + 1]? = some (.loop (rec (if jump.isNone then .ready else .done) jump)) ∧
            (∀ b o, w.heap.size ≤ b → b ≠ w.heap.size + 1 → W.heap[b]? = some o → (W3.putObj (w.heap.size + 1) (.loop (rec (if jump.isNone then .ready else .done) jump))).heap[b]? = some o) := fun jump W3 hk3 => by
          have hl3 := hk3.2 _ _ (by omega) hl2
          have := run_endRound (P := Try.prog) jump hl3
          rw [hrec] at this ⊢
          exact ⟨this, World.putObj_heap_same (Array.getElem?_eq_some_iff.1 hl3).1, fun b o hb hne ho => (World.putObj_heap_other hne).trans (hk3.2 _ _ hb (hH2 b o hb hne ho))⟩
        rintro e a3 W3 hpost
        cases e with
        | normal =>
          obtain ⟨h3, i3⟩ := hpost
          obtain ⟨r, l3, o3⟩ := fin none W3 h3
          exact ⟨_, _, r, .inl ⟨rfl, hI _ _ _ i3 (below_put _ _ (by omega)), l3, o3 _ _ (Nat.le_refl _) (by omega) hk, o3 _ _ (by omega) (by omega) hr⟩⟩
        | ret =>
          obtain ⟨h3, i3⟩ := hpost
          obtain ⟨r, l3, o3⟩ := fin (some .ret) W3 h3
          exact ⟨_, _, r, .inr ⟨rfl, .ret, hIx _ _ _ i3 (below_put _ _ (by omega)), l3, o3 _ _ (Nat.le_refl _) (by omega) hk⟩⟩
        | exit id =>
          obtain ⟨h3, i3⟩ := hpost
          obtain ⟨r, l3, o3⟩ := fin (some (.exit id)) W3 h3
          exact ⟨_, _, r, .inr ⟨rfl, .exit id, hIx _ _ _ i3 (below_put _ _ (by omega)), l3, o3 _ _ (Nat.le_refl _) (by omega) hk⟩⟩
        | goto t => exact hpost.elim
        | panic ch => exact hpost.elim
        | outgrown => exact hpost.elim
      | ret => exact he.elim
      | exit id => exact he.elim
      | goto t => exact he.elim
      | panic ch => exact he.elim
      | outgrown => exact he.elim
    · rintro e W2 ⟨⟨v, rfl⟩, (⟨i2, l2, k2, _⟩ | ⟨c, i2, l2, k2⟩)⟩
      · exact ⟨none, _, by have := run_endLoop (P := Try.prog) l2 (by rw [hrec]; simp); rw [hrec] at this; exact this, hdone _ (hI _ _ _ i2 (below_put _ _ (by omega))) ((World.putObj_heap_other (by omega)).trans k2)⟩
      · exact ⟨some c, _, by have := run_endLoop (P := Try.prog) l2 (by rw [hrec]; simp); rw [hrec] at this; exact this, hstop c _ (hIx _ _ _ i2 (below_put _ _ (by omega))) ((World.putObj_heap_other (by omega)).trans k2)⟩
/-! A region that draws its order, within a round: where every operation leaves the world alone, one order serves all. -/
def noDefer (o : Oper) : Bool := match o.op with | .defer _ => false | _ => true
theorem wpIn_round {F : Fence} {n : Nat} {P : Program} {Q : Exit → Act → World → Prop} {o : Oper} {a : Act} {w : World} {K : Act → World → Prop} (l : Nat) (hro : F.round = none) (hd : noDefer o = true) (h : o.wpIn F n P a w K Q) : o.wpIn (F.inRound l) n P a w K Q := by
  have hs : o.semAt (F.inRound l).round a.eval = o.semAt F.round a.eval := by
    rw [hro, Oper.semAt_none, Oper.semAt_eq _ _ _ (fun c e => by unfold noDefer at hd; rw [e] at hd; cases hd)]
  unfold Oper.wpIn at *
  rw [hs]
  exact h
theorem wpAnyIn_round {F : Fence} {n : Nat} {P : Program} {md : Region.Mode} {ops : Array Oper} {Q : Exit → Act → World → Prop} (l : Nat) (hro : F.round = none) (hd : ∀ (i : Nat) (o : Oper), ops[i]? = some o → noDefer o = true) :
    ∀ (fuel : Nat) (listed : Array Bool) (a : Act) (w : World), wpAnyIn F n P md ops Q fuel listed a w → wpAnyIn (F.inRound l) n P md ops Q fuel listed a w
  | 0, _, _, _, h => h
  | fuel + 1, listed, a, w, h => ⟨h.1, fun i hi => by
      have := wpOpIn_mono (fun a' w' => wpAnyIn_round l hro hd fuel (listed.setIfInBounds i true) a' w') (h.2 i hi)
      unfold wpOpIn at *
      split
      · rename_i ho; simpa only [ho] using this
      · rename_i o ho
        simp only [ho] at this
        split
        · rename_i hw; simp only [hw, if_true] at this; exact wpIn_round l hro (hd i o ho) this
        · rename_i hw; simp only [hw] at this; exact this⟩
theorem region_round {n : Nat} {P : Program} {id l : Nat} {Q : Exit → Act → World → Prop} {a : Act} {w : World} {ops : List Oper} (hm : P.follows .mixedOrders = true) (hd : ops.all noDefer = true) (hB : Region.lexB .any ops.toArray = true)
    (h : wpQuietIn Fence.wide n P ops.toArray (fun w' => ∃ k, w' = w.drewN k) (fun a' => ∀ w', (∃ k, w' = w.drewN k) → Q .normal a' w') ops a) : (Code.region id ops.toArray true).wpIn (Fence.wide.inRound l) n P Q a w := by
  simp only [Region.lexB, Bool.and_eq_true] at hB
  refine wpIn_region_any hm (wpAnyIn_round l rfl (fun i o ho => ?_) _ _ _ _ (wpAnyIn_of_quiet (C := fun w' => ∃ k, w' = w.drewN k) (Q := fun a' => ∀ w', (∃ k, w' = w.drewN k) → Q .normal a' w') rfl (fun _ w' hw' h => h w' hw') _ _ _ _ ⟨1, rfl⟩ ?_))
  · exact List.all_eq_true.1 hd o (List.mem_of_getElem? (by simpa using ho))
  · have := wpAnyQIn_lex (F := Fence.wide) (n := n) (P := P) (C := fun w' => ∃ k, w' = w.drewN k) (Q := fun a' => ∀ w', (∃ k, w' = w.drewN k) → Q .normal a' w') (md := .any) hB.1 ops 0 (Array.replicate ops.toArray.size false) a (by simp) (by simpa using hB.2) h
    simpa using this
end Go.Proofs.Ytmjdlofkjjofcaa

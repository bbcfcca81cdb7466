/- The walk of layer 6's small square of 64 cells. -/
import Derived.Test.YtjiliiclebdbfaaPackP
import Derived.Test.YtjiliiclebdbfaaRow1
import Derived.Test.YtjiliiclebdbfaaStw
import Derived.Test.YtjiliiclebdbfaaQuadC
import Derived.Laws.BitsAllLaws
namespace Go.Proofs.Ytjiliiclebdbfaa
open Go.RowKit
set_option linter.unusedVariables false
set_option linter.unusedSimpArgs false
attribute [local go_sem] eqGuard_errV neq_errV eql_errV
attribute [local go_sem ↓] Go.wp_at_zero Go.wp_at_succ

def uv (l : List Nat) : List Value := l.map fun (u : Nat) => (.int .u32 (u : Int) : Value)
theorem uv_app (l m : List Nat) : uv (l ++ m) = uv l ++ uv m := by simp [uv]
theorem uv_get (l : List Nat) (j : Nat) : (uv l)[j]? = (l[j]?).map fun (u : Nat) => (.int .u32 (u : Int) : Value) := by simp [uv]
theorem errV0' : errV 0 = .nilIface := rfl
theorem bit_run (c i : Nat) (hc : c < 18446744073709551616) : IntKind.u32.wrap (bits BinOp.and IntKind.u64 ((c : Int) / 2 ^ i) 1) = (bitN c i : Nat) := by
  have e1 : ((c : Int) / 2 ^ i) = ((c / 2 ^ i : Nat) : Int) := by simp
  have h : c / 2 ^ i < 18446744073709551616 := Nat.lt_of_le_of_lt (Nat.div_le_self _ _) hc
  have e2 := u64_and_nat (c / 2 ^ i) 1 h (by omega)
  rw [show ((1 : Nat) : Int) = 1 from rfl] at e2
  rw [e1, e2, Nat.and_one_is_mod, IntKind.wrap_u32']
  have := bitN_le c i
  unfold bitN at this ⊢
  omega
/-- The cells, the first i of them filled. -/
def fillA (c i : Nat) : Array Value := ((List.range 64).map fun j => (.int .u32 (if j < i then bitN c j else 0 : Nat) : Value)).toArray
theorem fillA_zero (c : Nat) : fillA c 0 = Array.replicate 64 (.int .u32 0) := by
  unfold fillA
  simp
  rfl
theorem fillA_get (c i j : Nat) (hj : j < 64) : (fillA c i)[j]? = some (.int .u32 (if j < i then bitN c j else 0 : Nat)) := by
  unfold fillA
  simp [hj]
theorem fillA_set (c i : Nat) (hi : i < 64) : (fillA c i).setIfInBounds i (.int .u32 (bitN c i : Nat)) = fillA c (i + 1) := by
  apply Array.ext
  · simp [fillA]
  · intro j h1 h2
    have hj : j < 64 := by simpa [fillA] using h2
    have a := fillA_get c (i + 1) j hj
    have b := fillA_get c i j hj
    rw [Array.getElem?_eq_getElem h2] at a
    injection a with a
    rw [a, Array.getElem_setIfInBounds]
    rotate_left
    · simpa [fillA] using hj
    by_cases e : i = j
    · subst e; simp
    · rw [if_neg e]
      rw [Array.getElem?_eq_getElem (by simpa [fillA] using h1)] at b
      injection b with b
      rw [b]
      have : (j < i + 1) = (j < i) := by apply propext; omega
      simp only [this]
/-- Where packing stands. -/
structure PkIn (base S most : Nat) (w : World) (lb : Nat) (L : List Nat) (v : Value) (out : List Nat) (ns : List Nd) (W : World) : Prop where
  left : Left base S most ns w W
  lt : lb < W.heap.size
  rd : ∀ (j x : Nat), L[j]? = some x → W.cell? ⟨lb, j, none⟩ = some (.int .u32 x)
  nf : ¬ Foot W S lb
  row : W.ownsRow w.heap.size 31 1 v out.length (uv out)
  own : ∀ g, v.ownBlock = some g → ¬ Foot W S g ∧ g ≠ lb
  small : ∀ (j x : Nat), L[j]? = some x → x < 4294967296
  out32 : ∀ (j x : Nat), out[j]? = some x → x < 4294967296
section
variable {base S most lb : Nat} {w W W' : World} {L out : List Nat} {v : Value} {ns ns' : List Nd}
theorem Left.grown (h : Left base S most ns w W) {r : Option Nat} (hg : W.grownBy W' r) (hr : ∀ k, r = some k → w.heap.size ≤ k ∧ ¬ Foot W S k) : Left base S most ns w W' := by
  have hf : ∀ b, Foot W S b → W'.heap[b]? = W.heap[b]? := fun b hb => hg.block b (h.st.foot hb).2 (fun e => (hr b e.symm).2 hb)
  have hS : W'.heap[S]? = W.heap[S]? := hf S (.inl rfl)
  exact ⟨h.st.same hf, hg.os.trans h.fr.os, hg.tape.trans h.fr.tape, hg.output.trans h.fr.output, Nat.le_trans h.fr.size hg.size, fun b hb hn => by
    rw [hg.block b (Nat.lt_of_lt_of_le hb h.fr.size) (fun e => by have := (hr b e.symm).1; omega)]
    exact h.fr.block b hb hn, fun b hb => by
    rw [Foot.same hS] at hb
    exact h.fr.foot b hb⟩
theorem PkIn.call (h : PkIn base S most w lb L v out ns W) (k : Left base S most ns' W W') : PkIn base S most w lb L v out ns' W' :=
  ⟨h.left.call k, Nat.lt_of_lt_of_le h.lt k.fr.size, fun j x hx => by rw [World.cell?_of_block (a := ⟨lb, j, none⟩) (k.fr.block lb h.lt h.nf)]; exact h.rd j x hx, k.fr.nf h.lt h.nf,
    ownsRow_same h.row (fun g hg => k.fr.block g (h.row.lt g hg).2 (h.own g hg).1), fun g hg => ⟨k.fr.nf (h.row.lt g hg).2 (h.own g hg).1, (h.own g hg).2⟩, h.small, h.out32⟩
theorem PkIn.alloc (h : PkIn base S most w lb L v out ns W) (O : Obj) : PkIn base S most w lb L v out ns (W.alloc O) :=
  h.call (Left.alloc (Left.of h.left.st (Below.refl _ _)) O)
theorem PkIn.app (h : PkIn base S most w lb L v out ns W) {v' : Value} {x : Nat} (hx : x < 4294967296) (hrow : W'.ownsRow w.heap.size 31 1 v' (out.length + 1) (uv out ++ [.int .u32 x])) (hg : W.grownBy W' v.ownBlock) (hv : v'.ownBlock = v.ownBlock ∨ v'.ownBlock = some W.heap.size) : PkIn base S most w lb L v' (out ++ [x]) ns W' := by
  have hl := h.left.grown hg (fun k hk => ⟨(h.row.lt k hk).1, (h.own k hk).1⟩)
  have hS : W'.heap[S]? = W.heap[S]? := hg.block S h.left.st.lt.1 (fun e => (h.own S e.symm).1 (.inl rfl))
  refine ⟨hl, Nat.lt_of_lt_of_le h.lt hg.size, fun j y hy => ?_, by rw [Foot.same hS]; exact h.nf, by rw [List.length_append, uv_app]; exact hrow, fun g hgv => ?_, h.small, fun j y hy => ?_⟩
  · rw [World.cell?_of_block (a := ⟨lb, j, none⟩) (hg.block lb h.lt (fun e => (h.own lb e.symm).2 rfl))]
    exact h.rd j y hy
  · rw [Foot.same hS]
    rcases hv with e | e
    · rw [e] at hgv; exact h.own g hgv
    · rw [e] at hgv
      injection hgv with hgv
      have := h.lt
      exact ⟨fun hf => by have := (h.left.st.foot hf).2; omega, by omega⟩
  · by_cases hj : j < out.length
    · rw [List.getElem?_append_left hj] at hy; exact h.out32 j y hy
    · have hjl : j < (out ++ [x]).length := (List.getElem?_eq_some_iff.1 hy).1
      rw [List.length_append] at hjl
      have : j = out.length := by simp at hjl; omega
      subst this
      simp at hy
      omega
theorem St.foot_new (h : St base w S ns most) (O : Obj) : ¬ Foot (w.alloc O) S w.heap.size := fun hf => by
  rw [Foot.same (((Below.refl w.heap.size w).alloc (Nat.le_refl _) O).block S h.lt.1)] at hf
  exact Nat.lt_irrefl _ (h.foot hf).2
theorem Left.setF (h : Left base S most ns w W) {b : Nat} (hb : w.heap.size ≤ b) (hf : ¬ Foot W S b) (o : Nat) (v : Value) : Left base S most ns w (W.setCell ⟨b, o, none⟩ v) ∧ ¬ Foot (W.setCell ⟨b, o, none⟩ v) S b :=
  ⟨⟨h.st.set hf o v, Fr.set h.fr hb hf o v⟩, by
    rw [Foot.same (Below.heap_setCell _ _ _ _ (fun e => hf (.inl (by have e' : S = b := e; exact e'.symm))))]
    exact hf⟩
def slN : Value → Nat
  | .slice _ n _ => n
  | _ => 0
set_option maxRecDepth 20000 in
set_option maxHeartbeats 4000000 in
theorem build6_any (h : St base w S ns most) (c : Nat) (hc : c < 18446744073709551616) :
    Calls Try.prog 16 #[.pointer (some ⟨S, 0, none⟩), .int .u64 c] w fun e w' => e = .returned (.tuple #[.int .u32 (buildN ns most c).1, errV (buildN ns most c).2.1]) ∧ Left base S most (buildN ns most c).2.2 w w' := by
  have H := Lib.hid h
  have HC := Lib.hid hc
  have hm : ∀ W, (Instr.makeSlice 76 (.int .i64 64) (.int .i64 64)).run Try.prog W = .ok (.slice (some ⟨W.heap.size, 0, none⟩) 64 64) (W.alloc (.cells (fillA c 0) 31)) := fun W => by rw [fillA_zero]; exact make_ids 64 (by omega) W
  have HR : Hid (buildN ns most c = levelsN most 3 (bitsL c) ns) := rfl
  clear h hc
  generalize buildN ns most c = R at *
  go_enter Try.func16, Try.ntmps16
  go_wp2_with fail
  have pL := Lib.hid (Pt.new w (fillA c 0) 31)
  have HL := Lib.hid (Left.alloc (Left.of H.out (Below.refl _ _)) (.cells (fillA c 0) 31))
  have nF := Lib.hid (H.out.foot_new (.cells (fillA c 0) 31))
  generalize hlb : w.heap.size = lb at pL nF ⊢
  have Hlb := Lib.hid (show w.heap.size ≤ lb by omega)
  clear hlb hm
  generalize w.alloc (.cells (fillA c 0) 31) = W1 at *
  go_loopw [15] (fun v wr => ∃ i : Nat, i ≤ 64 ∧ v = .int .i64 i ∧ Hid (Pt wr lb (fillA c i) 31) ∧ Hid (Left base S most ns w wr) ∧ Hid (¬ Foot wr S lb)) (fun v _ => 64 - (intOf v).toNat)
  case atStart => exact ⟨0, by omega, rfl, pL, HL, nF⟩
  case round =>
    obtain ⟨i, hi, rfl, pL1, HL1, nF1⟩ := hrel
    clear pL HL nF
    by_cases hlt : i < 64
    · have HI := Lib.hid hlt
      have i0 : (0 : Int) ≤ (i : Int) := by omega
      have i1 : (i : Int) < 64 := by omega
      have ck : wr.cell? ⟨lb, i, none⟩ = some (.int .u32 (0 : Nat)) := by rw [pL1.out.cell, fillA_get c i i hlt, if_neg (Nat.lt_irrefl _)]
      have fk := pL1.out.frozen
      have lk := pL1.out.lt
      have hb := bit_run c i HC.out
      have HM := Lib.hid (show 64 - (i + 1) < 64 - i by omega)
      clear hlt hi
      go_wp2_with fail
      have hs := HL1.out.setF Hlb.out nF1.out i (.int .u32 (bitN c i : Nat))
      have hp := pL1.out.set i (.int .u32 (bitN c i : Nat))
      rw [fillA_set c i HI.out] at hp
      exact ⟨⟨i + 1, by have := HI.out; omega, by go_num, Lib.hid hp, Lib.hid hs.1, Lib.hid hs.2⟩, by have := HM.out; simp [intOf]; omega⟩
    · obtain rfl : i = 64 := by omega
      clear hlt hi
      go_wp2_with fail
      have PK := Lib.hid (show PkIn base S most w lb (bitsL c) (.slice none 0 0) [] ns wr from ⟨HL1.out, pL1.out.lt, fun j x hx => by
          have hj : j < 64 := by have := (List.getElem?_eq_some_iff.1 hx).1; simpa [bitsL] using this
          have e := bits_get c j hj
          rw [List.getD_eq_getElem?_getD, hx] at e
          simp only [Option.getD_some] at e
          rw [pL1.out.cell, fillA_get c 64 j hj, if_pos hj, e], nF1.out, ⟨rfl, .inl ⟨rfl, rfl⟩⟩, fun g hg => (by cases hg), fun j x hx => by
          have hj : j < 64 := by have := (List.getElem?_eq_some_iff.1 hx).1; simpa [bitsL] using this
          have e := bits_get c j hj
          rw [List.getD_eq_getElem?_getD, hx] at e
          simp only [Option.getD_some] at e
          have := bitN_le c j
          omega, fun j x hx => by simp at hx⟩)
      have hlen := Lib.hid (show (bitsL c).length = 64 from by simp [bitsL])
      clear pL1 HL1 nF1 HC
      generalize bitsL c = L0 at *
      go_loopw [6] (fun v wq => ∃ (k lb : Nat) (L : List Nat) (cap : Nat) (ns1 : List Nd), k ≤ 3 ∧ v = .slice (some ⟨lb, 0, none⟩) L.length cap ∧ Hid (L.length = 4 ^ k) ∧ Hid (L.length ≤ cap) ∧ Hid (R = levelsN most k L ns1) ∧ Hid (PkIn base S most w lb L (.slice none 0 0) [] ns1 wq)) (fun v _ => slN v)
      case atStart => exact ⟨3, lb, L0, 64, ns, by omega, by rw [hlen.out], hlen, Lib.hid (by rw [hlen.out]; omega), HR, PK⟩
      case round =>
        rename World => wq
        obtain ⟨k, lb, L, cap, ns1, hk, rfl, HLn, HCp, HR1, PK1⟩ := hrel
        clear PK HR hlen
        match k, hk with
        | 0, _ =>
          have ln : L.length = 1 := HLn.out
          have hrd := PK1.out.rd 0 (L.getD 0 0) (by rw [List.getD_eq_getElem?_getD, List.getElem?_eq_getElem (by omega)]; rfl)
          have hlt := PK1.out.lt
          rw [ln]
          have HR2 : R = (L.getD 0 0, 0, ns1) := HR1.out
          have HR3 := Lib.hid HR2
          clear HR2 HLn HCp HR1 ln
          generalize L.getD 0 0 = x0 at *
          go_wp2_with fail
          refine bodyPost_ret (by simp [results, Try.results16, go_sem, *]; rfl) rfl ?_
          exact ⟨by rw [HR3.out]; rfl, by rw [HR3.out]; exact PK1.out.left⟩
        | k + 1, hk =>
          have HK := Lib.hid hk
          have h1 : (1 : Int) < (L.length : Int) := by
            have h := HLn.out
            have hp : 4 ^ (k + 1) = 4 ^ k * 4 := Nat.pow_succ ..
            have hpos : 0 < 4 ^ k := Nat.pow_pos (by omega)
            omega
          have h1' : 1 < L.length := by omega
          clear hk
          have HR2 : R = if (packGo most L (4 ^ k) 0 [] ns1).2.1 = 0 then levelsN most k (packGo most L (4 ^ k) 0 [] ns1).1 (packGo most L (4 ^ k) 0 [] ns1).2.2 else (0, (packGo most L (4 ^ k) 0 [] ns1).2.1, (packGo most L (4 ^ k) 0 [] ns1).2.2) := HR1.out
          have HR3 := Lib.hid HR2
          have HL4 := Lib.hid (show L.length = 4 * 4 ^ k by have h := HLn.out; have hp : 4 ^ (k + 1) = 4 ^ k * 4 := Nat.pow_succ ..; omega)
          have Hm := Lib.hid (show 0 < 4 ^ k from Nat.pow_pos (by omega))
          have Hm64 := Lib.hid (show 4 ^ k ≤ 16 from by have := HK.out; have h2 : 4 ^ k ≤ 4 ^ 2 := Nat.pow_le_pow_right (by omega) (by omega); omega)
          have H4k := Lib.hid (rfl : 4 ^ k = 4 ^ k)
          go_wp2_with fail
          clear HR2 HR1 HLn
          obtain ⟨P, hPe⟩ : ∃ P, P = packGo most L (4 ^ k) 0 [] ns1 := ⟨_, rfl⟩
          rw [← hPe] at HR3
          have HP := Lib.hid hPe
          clear hPe
          obtain ⟨m, hm⟩ : ∃ m, m = 4 ^ k := ⟨_, rfl⟩
          rw [← hm] at HP HL4 Hm Hm64
          have Hmk := Lib.hid hm
          clear hm H4k
          go_loopw [9, 8] (fun v9 v8 wr => ∃ (j i : Nat) (out : List Nat) (ns2 : List Nd) (v : Value), v9 = .int .i64 i ∧ v8 = v ∧ Hid (i = 4 * j) ∧ Hid (j ≤ m) ∧ Hid (out.length = j) ∧ Hid (P = packGo most L (m - j) j out ns2) ∧ Hid (PkIn base S most w lb L v out ns2 wr)) (fun v9 _ _ => 64 - (intOf v9).toNat)
          case atStart => exact ⟨0, 0, [], ns1, _, rfl, rfl, rfl, Lib.hid (Nat.zero_le _), rfl, HP, PK1⟩
          case round =>
            rename World => wi
            obtain ⟨j, i, out, ns2, v, rfl, rfl, Hi, Hj, Ho, HP1, PK2⟩ := hrel
            clear PK1 HP
            by_cases hlt : i < L.length
            · have hj4 := Lib.hid (show j < m from by have := HL4.out; have := Hi.out; omega)
              have hi3 : i + 3 < L.length := by have := HL4.out; have := Hi.out; have := hj4.out; omega
              have i0 : (0 : Int) ≤ (i : Int) := by omega
              have i1 : (i : Int) < (L.length : Int) := by omega
              have l64 : L.length ≤ 64 := by have := HL4.out; have := Hm64.out; omega
              have g0 : L[i]? = some (L.getD i 0) := by rw [List.getD_eq_getElem?_getD, List.getElem?_eq_getElem (by omega)]; rfl
              have g1 : L[i + 1]? = some (L.getD (i + 1) 0) := by rw [List.getD_eq_getElem?_getD, List.getElem?_eq_getElem (by omega)]; rfl
              have g2 : L[i + 2]? = some (L.getD (i + 2) 0) := by rw [List.getD_eq_getElem?_getD, List.getElem?_eq_getElem (by omega)]; rfl
              have g3 : L[i + 3]? = some (L.getD (i + 3) 0) := by rw [List.getD_eq_getElem?_getD, List.getElem?_eq_getElem (by omega)]; rfl
              have c0 := PK2.out.rd _ _ g0
              have c1 := PK2.out.rd _ _ g1
              have c2 := PK2.out.rd _ _ g2
              have c3 := PK2.out.rd _ _ g3
              have HMk := Lib.hid fun W (b : Below wi.heap.size wi W) => make_l (PK2.out.left.st.below b) (L.getD i 0) (L.getD (i + 1) 0) (L.getD (i + 2) 0) (L.getD (i + 3) 0) (PK2.out.small _ _ g0) (PK2.out.small _ _ g1) (PK2.out.small _ _ g2) (PK2.out.small _ _ g3)
              have hq : q4 L j = ⟨L.getD i 0, L.getD (i + 1) 0, L.getD (i + 2) 0, L.getD (i + 3) 0⟩ := by unfold q4; rw [← Hi.out]
              have hst : packGo most L (m - j) j out ns2 = if (makeN ns2 most (q4 L j)).2.1 = 0 then packGo most L (m - (j + 1)) (j + 1) (out ++ [(makeN ns2 most (q4 L j)).1]) (makeN ns2 most (q4 L j)).2.2 else ([], (makeN ns2 most (q4 L j)).2.1, (makeN ns2 most (q4 L j)).2.2) := by
                have := hj4.out
                rw [show m - j = (m - (j + 1)) + 1 by omega]; rfl
              rw [hq] at hst
              have HS2 := Lib.hid (HP1.out.trans hst)
              have h32 := Lib.hid (makeN_32 PK2.out.left.st ⟨L.getD i 0, L.getD (i + 1) 0, L.getD (i + 2) 0, L.getD (i + 3) 0⟩)
              have HM16 := Lib.hid (show 64 - (i + 4) < 64 - i by omega)
              clear g0 g1 g2 g3 hq hst HP1
              generalize L.getD i 0 = x0 at *
              generalize L.getD (i + 1) 0 = x1 at *
              generalize L.getD (i + 2) 0 = x2 at *
              generalize L.getD (i + 3) 0 = x3 at *
              have Hw4 := Lib.hid (show wrap64 ((i : Int) + 4) = ((i + 4 : Nat) : Int) by rw [w64 (by omega) (by omega)]; omega)
              have a1 : ((i : Int) + 1).toNat = i + 1 := by omega
              have a2 : ((i : Int) + 2).toNat = i + 2 := by omega
              have a3 : ((i : Int) + 3).toNat = i + 3 := by omega
              have b1 : (i : Int) + 1 < (L.length : Int) := by omega
              have b2 : (i : Int) + 2 < (L.length : Int) := by omega
              have b3 : (i : Int) + 3 < (L.length : Int) := by omega
              have z1 : (0 : Int) ≤ (i : Int) + 1 := by omega
              have z2 : (0 : Int) ≤ (i : Int) + 2 := by omega
              have z3 : (0 : Int) ≤ (i : Int) + 3 := by omega
              have y1 : IntKind.i64.wrap ((i : Int) + 1) = (i : Int) + 1 := by rw [i64_w, w64 (by omega) (by omega)]
              have y2 : IntKind.i64.wrap ((i : Int) + 2) = (i : Int) + 2 := by rw [i64_w, w64 (by omega) (by omega)]
              have y3 : IntKind.i64.wrap ((i : Int) + 3) = (i : Int) + 3 := by rw [i64_w, w64 (by omega) (by omega)]
              clear l64 hi3
              go_upto_region 12 with fail
              generalize hrr : makeN ns2 most ⟨x0, x1, x2, x3⟩ = r at *
              clear hrr
              go_cut [10, 11] (fun s10 s11 W => s10 = .int .u32 (r.1 : Nat) ∧ s11 = errV r.2.1 ∧ Hid (Left base S most r.2.2 wi W))
              case first =>
                go_region_with ((go_at_call 31); (with_reducible refine (HMk.out _ (by (repeat' (first | (with_reducible exact Below.refl _ _) | (with_reducible assumption) | (with_reducible exact Hid.out (by assumption)) | (with_reducible refine below_a ?_ _) | (with_reducible refine below_dn ?_ _) | (with_reducible refine below_c ?_ (by assumption)) | (with_reducible refine below_d ?_) | (with_reducible refine Below.setCell ?_ ?_ _) | (with_reducible refine Below.alloc ?_ ?_ _) | (with_reducible refine below_call ?_ ?_ (by assumption)) | (with_reducible refine Below.drew ?_) | go_size | ((try simp only [World.size_alloc, World.size_setCell, World.size_drew] at *); omega))))).mono ?_); rintro e w3 ⟨rfl, k3⟩; have K3 := Lib.hid ((Left.of PK2.out.left.st (show Below wi.heap.size wi _ from by (repeat' (first | (with_reducible exact Below.refl _ _) | (with_reducible assumption) | (with_reducible exact Hid.out (by assumption)) | (with_reducible refine below_a ?_ _) | (with_reducible refine below_dn ?_ _) | (with_reducible refine below_c ?_ (by assumption)) | (with_reducible refine below_d ?_) | (with_reducible refine Below.setCell ?_ ?_ _) | (with_reducible refine Below.alloc ?_ ?_ _) | (with_reducible refine below_call ?_ ?_ (by assumption)) | (with_reducible refine Below.drew ?_) | go_size | ((try simp only [World.size_alloc, World.size_setCell, World.size_drew] at *); omega))))).call k3); clear k3)
                all_goals (go_wp2_with fail; go_meet)
                all_goals exact ⟨rfl, rfl, K3⟩
              case rest =>
                obtain ⟨rfl, rfl, K3⟩ := hcut
                clear y1 y2 y3 a1 a2 a3 b1 b2 b3 z1 z2 z3 c0 c1 c2 c3
                have PK3 := Lib.hid (PK2.out.call K3.out)
                have PK4 := Lib.hid (PK3.out.alloc (.cells #[.int .u32 (r.1 : Nat)] 31))
                have lo := Lib.hid (show out.length < 4194304 by have := Ho.out; have := hj4.out; have := Hm64.out; omega)
                have hbs := Lib.hid (PK4.out.left.fr.size)
                clear K3
                go_wp2_with ((with_reducible refine at_dst (N := 67) rfl ?_); go_loud (refine app_one rfl (.tmp 64) (.tmp 66) 76 rfl Try.underlying76 4 (.int .u32 0) info_id rfl (by omega) rfl PK4.out.row rfl (Pt.new _ _ _) rfl lo.out hbs.out ?_); intro v' w' hrow hg hv)
                · refine bodyPost_ret (by simp [results, Try.results16, go_sem, *]; rfl) rfl ?_
                  have hne : ¬ r.2.1 = 0 := by have h := ‹(!decide _) = true›; simpa using h
                  have h0 := HS2.out.trans (if_neg hne)
                  have h1 := HR3.out
                  rw [h0] at h1
                  have h2 := h1.trans (if_neg hne)
                  exact ⟨by rw [h2]; rfl, by rw [h2]; exact PK3.out.left⟩
                · have he : r.2.1 = 0 := by have h := ‹(!decide _) = false›; simpa using h
                  have h0 := HS2.out.trans (if_pos he)
                  go_roundw
                  case rel => exact ⟨j + 1, i + 4, out ++ [r.1], r.2.2, v', by rw [Hw4.out], rfl, Lib.hid (by have := Hi.out; omega), Lib.hid (by have := hj4.out; omega), Lib.hid (by rw [List.length_append, Ho.out]; rfl), Lib.hid h0, Lib.hid (PK4.out.app h32.out hrow hg hv)⟩
                  case measure => rw [Hw4.out]; have := HM16.out; simp [intOf]; omega
            · have hjm : j = m := by have := HL4.out; have := Hi.out; have := Hj.out; omega
              have i0 : (0 : Int) ≤ (i : Int) := by omega
              have i1 : (L.length : Int) ≤ (i : Int) := by omega
              have hPo : P = (out, 0, ns2) := by
                have := HP1.out
                rw [hjm, Nat.sub_self] at this
                exact this
              obtain ⟨g, gc, rfl, hg1, hg2, hg3, hg4⟩ := ownsRow_shape PK2.out.row (by have := Hm.out; have := Ho.out; omega)
              have hol : out.length = 4 ^ k := by rw [Ho.out, hjm, Hmk.out]
              have hR := HR3.out
              rw [hPo, if_pos rfl] at hR
              have hdec := Lib.hid (show out.length < L.length by have := HL4.out; have := Ho.out; have := Hm.out; omega)
              have PKn := Lib.hid (show PkIn base S most w g out (.slice none 0 0) [] ns2 wi from ⟨PK2.out.left, hg2, fun j x hx => hg4 j _ (by rw [uv_get, hx]; rfl), (PK2.out.own g rfl).1, ⟨rfl, .inl ⟨rfl, rfl⟩⟩, fun g hg => (by cases hg), PK2.out.out32, fun j x hx => by simp at hx⟩)
              have fin := Lib.hid (And.intro hol (And.intro hg3 hR))
              clear hlt hjm hPo hg1 hg2 hg3 hg4 hol hR
              go_wp2_with fail
              exact ⟨⟨_, _, _, ⟨k, by have := HK.out; omega, g, out, gc, rfl, Lib.hid fin.out.1, Lib.hid fin.out.2.1, ns2, Lib.hid fin.out.2.2, PKn⟩, rfl, rfl, rfl⟩, by have := hdec.out; simp only [slN]; omega⟩
end
end Go.Proofs.Ytjiliiclebdbfaa

/- Contracts of package store: the place of a key in the table. -/
import Derived.Test.YtjiliiclebdbfaaProg
import Derived.Test.YtjiliiclebdbfaaKit
import Derived.Test.YtjiliiclebdbfaaKitb
import Derived.Test.YtjiliiclebdbfaaBytes
import Derived.Test.YtjiliiclebdbfaaOnly
import Derived.Test.YtjiliiclebdbfaaErr
import Derived.Test.YtjiliiclebdbfaaFault
import Derived.Test.YtjiliiclebdbfaaFaultB
import Derived.Test.YtjiliiclebdbfaaStoreV
import Derived.Test.YtjiliiclebdbfaaStore
import Derived.Test.YtjiliiclebdbfaaArr
import Derived.Laws.BitsAllLaws
import Derived.Deep.QuietTactic
import Derived.BigQuiet
import Derived.Deep.LoopGhost
namespace Go.Proofs.Ytjiliiclebdbfaa
open Go.RowKit
set_option linter.unusedVariables false
set_option linter.unusedSimpArgs false

def mulH (n x : Nat) : Nat := ((n ^^^ x) * 11400714819323198485) % 18446744073709551616
def stepH (n x : Nat) : Nat := mulH n x ^^^ (mulH n x / 536870912)
def kL (k : K4) : List Nat := [k.a, k.b, k.c, k.d]
def preH (k : K4) (j : Nat) : Nat := ((kL k).take j).foldl stepH 0
def hK (k : K4) : Nat := preH k 4
theorem mod64_lt (y : Nat) : y % 18446744073709551616 < 18446744073709551616 := by omega
theorem mulH_lt (n x : Nat) : mulH n x < 18446744073709551616 := by unfold mulH; exact mod64_lt _
theorem stepH_lt (n x : Nat) : stepH n x < 18446744073709551616 := by
  have h := mulH_lt n x
  exact Nat.xor_lt_two_pow (n := 64) h (Nat.lt_of_le_of_lt (Nat.div_le_self _ _) h)
theorem take_fold (f : Nat → Nat → Nat) (l : List Nat) (z j : Nat) (hj : j < l.length) : (l.take (j + 1)).foldl f z = f ((l.take j).foldl f z) (l.getD j 0) := by
  rw [List.take_succ_eq_append_getElem hj, List.foldl_append, List.getD_eq_getElem?_getD, List.getElem?_eq_getElem hj]
  rfl
theorem preH_succ (k : K4) (j : Nat) (hj : j < 4) : preH k (j + 1) = stepH (preH k j) ((kL k).getD j 0) := take_fold stepH (kL k) 0 j hj
theorem preH_zero (k : K4) : preH k 0 = 0 := by unfold preH; simp only [List.take_zero, List.foldl_nil]
theorem preH_lt (k : K4) (j : Nat) (hj : j ≤ 4) : preH k j < 18446744073709551616 := by
  cases j with
  | zero => rw [preH_zero]; omega
  | succ j => rw [preH_succ k j (by omega)]; exact stepH_lt _ _
def k32 (k : K4) : Prop := k.a < 4294967296 ∧ k.b < 4294967296 ∧ k.c < 4294967296 ∧ k.d < 4294967296
theorem k32.get {k : K4} (h : k32 k) (j : Nat) : (kL k).getD j 0 < 4294967296 := by
  obtain ⟨h0, h1, h2, h3⟩ := h
  match j with
  | 0 => exact h0
  | 1 => exact h1
  | 2 => exact h2
  | 3 => exact h3
  | j + 4 => exact (by omega : (0 : Nat) < 4294967296)
theorem idxK (k : K4) (j : Nat) (hj : j < 4) (w : World) : (Instr.index 55 (.agg #[.int .u32 k.a, .int .u32 k.b, .int .u32 k.c, .int .u32 k.d]) (.int .i64 j)).run Try.prog w = .ok (.int .u32 ((kL k).getD j 0 : Nat)) w := by
  refine run_index_arr Try.underlying55 Try.isAgg31 Try.sizeOf31 _ j _ hj ?_ w
  match j, hj with
  | 0, _ => rfl
  | 1, _ => rfl
  | 2, _ => rfl
  | 3, _ => rfl
def eqK (x y : K4) : Bool := ((x.a : Int) == (y.a : Int) && (x.b : Int) == (y.b : Int)) && ((x.c : Int) == (y.c : Int) && (x.d : Int) == (y.d : Int))
theorem eqK_iff (x y : K4) : eqK x y = true ↔ x = y := by
  unfold eqK
  cases x; cases y
  simp only [Bool.and_eq_true, beq_iff_eq, K4.mk.injEq]
  omega
theorem eqK_run (x y : K4) (w : World) : (Op.equalIn 10000 55 (.agg #[.int .u32 x.a, .int .u32 x.b, .int .u32 x.c, .int .u32 x.d]) (.agg #[.int .u32 y.a, .int .u32 y.b, .int .u32 y.c, .int .u32 y.d])).run Try.prog w = .ok (eqK x y) w :=
  run_equal_arr4 Try.underlying55 Try.underlying31 Try.isAgg31 Try.sizeOf31 9998 _ _ _ _ _ _ _ _ w
theorem neK_run (x y : K4) (w : World) : (binOp BinOp.neq 55 (.agg #[.int .u32 x.a, .int .u32 x.b, .int .u32 x.c, .int .u32 x.d]) (.agg #[.int .u32 y.a, .int .u32 y.b, .int .u32 y.c, .int .u32 y.d])).run Try.prog w = .ok (.bool (!eqK x y)) w := by
  simp only [binOp]
  simp [Op.equal, Op.maxDepth, eqK_run]
theorem u64wH (x : Int) : IntKind.u64.wrap x = x % 18446744073709551616 := by first | rfl | simp [IntKind.wrap]
set_option maxRecDepth 20000 in
theorem step_num (n x : Nat) (hn : n < 18446744073709551616) (hx : x < 4294967296) :
    bits BinOp.xor IntKind.u64 (IntKind.u64.wrap (bits BinOp.xor IntKind.u64 (n : Int) (IntKind.u64.wrap (x : Int)) * 11400714819323198485)) (IntKind.u64.wrap (bits BinOp.xor IntKind.u64 (n : Int) (IntKind.u64.wrap (x : Int)) * 11400714819323198485) / 536870912) = (stepH n x : Int) := by
  have e1 : IntKind.u64.wrap (x : Int) = (x : Int) := by rw [u64wH]; omega
  have hx64 : x < 18446744073709551616 := by omega
  have e2 : IntKind.u64.wrap (((n ^^^ x : Nat) : Int) * 11400714819323198485) = (mulH n x : Int) := by
    rw [u64wH]; unfold mulH; omega
  have e3 : (mulH n x : Int) / 536870912 = ((mulH n x / 536870912 : Nat) : Int) := by omega
  have h := mulH_lt n x
  have hd : mulH n x / 536870912 < 18446744073709551616 := Nat.lt_of_le_of_lt (Nat.div_le_self _ _) h
  have hst : stepH n x = mulH n x ^^^ (mulH n x / 536870912) := by unfold stepH; rfl
  rw [hst, e1, u64_xor_nat n x hn hx64, e2, e3]
  generalize mulH n x = m at *
  exact u64_xor_nat m (m / 536870912) h hd
theorem hash_mod (n M : Nat) (hM : 0 < M) (_h : M ≤ 4194304) : (n : Int).tmod (M : Int) = ((n % M : Nat) : Int) := by
  rw [Int.tmod_eq_emod_of_nonneg (by omega)]; simp
theorem hash_mod2 (n M : Nat) (hM : 0 < M) (h : M ≤ 4194304) : wrap64 ((n : Int) % (M : Int)) = ((n % M : Nat) : Int) := by
  have := Nat.mod_lt n hM
  rw [show (n : Int) % (M : Int) = ((n % M : Nat) : Int) by simp]
  exact w64 (by omega) (by omega)
theorem place_next (h : K4 → Nat) (k : K4) (d M : Nat) : (placeT h M k d + 1) % M = placeT h M k (d + 1) := by unfold placeT; rw [Nat.mod_add_mod]; rfl
section
variable {base : Nat} {w : World} {S N T : Nat} {ns : List Nd} {tb : List Nat} {most : Nat}
set_option maxRecDepth 20000 in
set_option maxHeartbeats 2000000 in
theorem slot_gen (hf : K4 → Nat) (hh : ∀ k, hf k = preH k 4) (h : SM base w S N T ns tb most) (t : TabOk hf ns tb) (k : K4) (hk : k32 k) :
    Calls Try.prog 66 #[.pointer (some ⟨S, 0, none⟩), kAgg k] w fun e w' => (∃ d : Nat, e = .returned (.int .i64 (placeT hf tb.length k d)) ∧ Probed hf ns tb k d ∧ (tb[placeT hf tb.length k d]? = some 0 ∨ ∃ v nd, tb[placeT hf tb.length k d]? = some v ∧ v ≠ 0 ∧ ns[v]? = some nd ∧ nd.k = k)) ∧ Below w.heap.size w w' := by
  have H := Lib.hid (h.below ((Below.refl w.heap.size w).alloc (Nat.le_refl _) (.cells #[.int .u32 k.a, .int .u32 k.b, .int .u32 k.c, .int .u32 k.d] 55)))
  have H32 := Lib.hid hk
  have HT := Lib.hid t
  have HH := Lib.hid hh
  unfold kAgg
  clear h hk t hh
  go_enter Try.func66, Try.ntmps66
  go_wp2_with fail
  go_loop [5, 10] (fun n i => ∃ j : Nat, j ≤ 4 ∧ i = .int .i64 j ∧ n = .int .u64 (preH k j)) (fun _ i => 4 - (intOf i).toNat)
  case atStart => exact ⟨0, by omega, rfl, by rw [preH_zero]; rfl⟩
  case round =>
    obtain ⟨j, hj, rfl, rfl⟩ := hrel
    by_cases hlt : j < 4
    · have i0 := idxK k j hlt
      have hs := Lib.hid (step_num (preH k j) ((kL k).getD j 0) (preH_lt k j hj) (H32.out.get j))
      have hsu := Lib.hid (preH_succ k j hlt)
      generalize (kL k).getD j 0 = x at *
      generalize preH k j = n at *
      have hd : decide ((j : Int) < 4) = true := decide_eq_true (by omega)
      go_wp2_with fail
      rw [hs.out]
      exact ⟨⟨j + 1, by omega, rfl, by rw [hsu.out]⟩, by simp only [intOf]; omega⟩
    · obtain rfl : j = 4 := by omega
      obtain ⟨cn, c0, c1, c2, hcn⟩ := H.out.cellS
      have hM : 0 < tb.length := HT.out.pos
      have hM2 : tb.length ≤ 4194304 := by obtain ⟨_, _, _, _, _, _, _, _, h8⟩ := H.out; exact h8
      have hcv : IntKind.u64.wrap (tb.length : Int) = (tb.length : Int) := by rw [u64wH]; omega
      have hrem := hash_mod (preH k 4) tb.length hM hM2
      have hfin := hash_mod2 (preH k 4) tb.length hM hM2
      have HPL := Lib.hid (show placeT hf tb.length k 0 = preH k 4 % tb.length by unfold placeT; rw [HH.out k, Nat.add_zero])
      clear hcn
      generalize preH k 4 = hv at *
      have HW := Lib.hid (show ∀ cs T, (w.alloc (.cells cs T)).heap.size = w.heap.size + 1 by intros; simp)
      go_wp2_with fail
      have HP0 := Lib.hid (Pt.new w #[.int .u32 k.a, .int .u32 k.b, .int .u32 k.c, .int .u32 k.d] 55)
      have HB0 := Lib.hid (show Below w.heap.size w (w.alloc (.cells #[.int .u32 k.a, .int .u32 k.b, .int .u32 k.c, .int .u32 k.d] 55)) from (Below.refl _ _).alloc (Nat.le_refl _) _)
      have HM := Lib.hid hM
      have HM2 := Lib.hid hM2
      clear c0 c1 c2 HW hM2 hcv hrem hfin hM
      generalize w.alloc (.cells #[.int .u32 k.a, .int .u32 k.b, .int .u32 k.c, .int .u32 k.d] 55) = W0 at *
      go_loopg [8] tb.length (fun g v wr => ∃ d : Nat, g = tb.length - d ∧ v = .int .i64 (placeT hf tb.length k d) ∧ Hid (Probed hf ns tb k d) ∧ Hid (Below W0.heap.size W0 wr))
      case atStart => exact ⟨0, rfl, by rw [HPL.out]; simp, Lib.hid (Probed.start k), Lib.hid (Below.refl _ _)⟩
      case round =>
        obtain ⟨d, rfl, rfl, hP, hBr⟩ := hrel
        have hpl := place_lt hf tb.length HM.out k d
        obtain ⟨v, hv⟩ : ∃ v, tb[placeT hf tb.length k d]? = some v := ⟨_, List.getElem?_eq_getElem hpl⟩
        have HV := Lib.hid hv
        have HD := Lib.hid (hP.out.lt HT.out)
        have HR := Lib.hid (H.out.below hBr.out)
        have hPk := (HP0.out.keep hBr.out).cell
        obtain ⟨cn', c0, c1, c2, hcn'⟩ := HR.out.cellS
        have hcT := HR.out.cellT hv
        have hnx := Lib.hid (place_next hf k d tb.length)
        have HE := Lib.hid (⟨hP.out, HV.out⟩ : Probed hf ns tb k d ∧ tb[placeT hf tb.length k d]? = some v)
        clear hv
        by_cases hv0 : v = 0
        · subst hv0
          clear hnx HR HP0 H
          generalize hp : placeT hf tb.length k d = p at hcT hpl ⊢
          have HPP := Lib.hid hp
          clear hp
          go_wp2_with fail
          go_quiet (fail)
          go_wp2_with fail
          go_ret
          refine ⟨⟨d, by rw [HPP.out]; rfl, HE.out.1, Or.inl HE.out.2⟩, HB0.out.trans ((below_dn hBr.out _).mono HB0.out.size)⟩
        · obtain ⟨hv2, hvn⟩ := HT.out.ent _ v HV.out hv0
          obtain ⟨nd, hnd⟩ : ∃ nd, ns[v]? = some nd := ⟨_, List.getElem?_eq_getElem hvn⟩
          have k0 := HR.out.cellN hnd (j := 0) (by omega)
          rw [Nat.add_zero] at k0
          replace k0 : _ = some (Value.int .u32 nd.k.a) := k0
          have k1 : _ = some (Value.int .u32 nd.k.b) := HR.out.cellN hnd (j := 1) (by omega)
          have k2 : _ = some (Value.int .u32 nd.k.c) := HR.out.cellN hnd (j := 2) (by omega)
          have k3 : _ = some (Value.int .u32 nd.k.d) := HR.out.cellN hnd (j := 3) (by omega)
          have hne := neK_run nd.k k
          have hv1 : ((v : Int) != 0) = true := by rw [bne_iff_ne]; omega
          have hstep := Lib.hid (fun hk => hP.out.step HV.out hv0 hnd hk)
          have hfin := Lib.hid (fun (hk : nd.k = k) => (Or.inr ⟨v, nd, HV.out, hv0, hnd, hk⟩ : tb[placeT hf tb.length k d]? = some 0 ∨ ∃ v nd, tb[placeT hf tb.length k d]? = some v ∧ v ≠ 0 ∧ ns[v]? = some nd ∧ nd.k = k))
          have heq := Lib.hid (eqK_iff nd.k k)
          clear hv0 hnd hv2 HR HP0 H
          generalize hp : placeT hf tb.length k d = p at hcT hpl hnx ⊢
          have HPP := Lib.hid hp
          clear hp
          cases hek : eqK nd.k k
          · rw [hek] at heq
            have hnk := Lib.hid (show nd.k ≠ k from fun e => by have := heq.out.2 e; cases this)
            have hw := HM2.out
            have hsum : wrap64 ((p : Int) + 1) = ((p + 1 : Nat) : Int) := by rw [w64 (by omega) (by omega)]; rfl
            have hmod : ((p + 1 : Nat) : Int).tmod (tb.length : Int) = (((p + 1) % tb.length : Nat) : Int) := by rw [Int.tmod_eq_emod_of_nonneg (by omega)]; simp
            have hmod2 : ((p + 1 : Nat) : Int) % (tb.length : Int) = (((p + 1) % tb.length : Nat) : Int) := by simp
            have hM0 : 0 < tb.length := HM.out
            clear hw heq
            go_wp2_with fail
            go_quiet (fail)
            go_wp2_with fail
            go_roundg (tb.length - (d + 1))
            case measure => have := HD.out; omega
            case rel => exact ⟨d + 1, rfl, by rw [← hnx.out]; first | rfl | (simp; done), Lib.hid (hstep.out hnk.out), Lib.hid (below_dn hBr.out _)⟩
          · rw [hek] at heq
            have hkk := Lib.hid (heq.out.1 rfl)
            clear heq
            go_wp2_with fail
            go_quiet (fail)
            go_wp2_with fail
            go_ret
            refine ⟨⟨d, by rw [HPP.out]; rfl, hP.out, hfin.out hkk.out⟩, HB0.out.trans ((below_dn hBr.out _).mono HB0.out.size)⟩
theorem slot_any (h : SM base w S N T ns tb most) (t : TabOk hK ns tb) (k : K4) (hk : k32 k) :
    Calls Try.prog 66 #[.pointer (some ⟨S, 0, none⟩), kAgg k] w fun e w' => (∃ d : Nat, e = .returned (.int .i64 (placeT hK tb.length k d)) ∧ Probed hK ns tb k d ∧ (tb[placeT hK tb.length k d]? = some 0 ∨ ∃ v nd, tb[placeT hK tb.length k d]? = some v ∧ v ≠ 0 ∧ ns[v]? = some nd ∧ nd.k = k)) ∧ Below w.heap.size w w' :=
  slot_gen hK (fun k => by unfold hK; rfl) h t k hk
end
end Go.Proofs.Ytjiliiclebdbfaa

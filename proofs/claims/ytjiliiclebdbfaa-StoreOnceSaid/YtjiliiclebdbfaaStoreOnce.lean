/- The walk of the statement StoreOnce: of any cells of a small square the same number comes, whatever was made between. -/
import Derived.Test.YtjiliiclebdbfaaPack
import Derived.Test.YtjiliiclebdbfaaStoreL
import Derived.Test.YtjiliiclebdbfaaInts
namespace Go.Proofs.Ytjiliiclebdbfaa
open Go.RowKit
set_option linter.unusedVariables false
set_option linter.unusedSimpArgs false
attribute [local go_sem] eqGuard_errV neq_errV eql_errV

theorem u64_nat {n : Int} (h : (Lit.int .u64 n).wf = true) : 0 ≤ n ∧ n < 18446744073709551616 := by
  have h1 : IntKind.u64.min = 0 := rfl
  have h2 : IntKind.u64.max = 18446744073709551615 := rfl
  simp only [Lit.wf, Bool.and_eq_true, decide_eq_true_eq] at h
  rw [h1, h2] at h
  omega
/-- The same square just for the same cells. -/
theorem tree_iff {ns : List Nd} (s : StOk ns) (d : ∀ (i j : Nat) (nd md : Nd), 2 ≤ i → 2 ≤ j → ns[i]? = some nd → ns[j]? = some md → nd.k = md.k → i = j) {x y a b : Nat} (hx : TreeN ns 3 x (bitN a)) (hy : TreeN ns 3 y (bitN b)) (ha : a < 18446744073709551616) (hb : b < 18446744073709551616) : x = y ↔ a = b := by
  constructor
  · rintro rfl
    exact bits_inj a b ha hb (hx.same hy)
  · rintro rfl
    exact hx.inj s d hy fun _ _ => rfl
theorem same_num {x y a b : Nat} (h : x = y ↔ a = b) : (!((x : Int) == (y : Int)) == ((a : Int) == (b : Int))) = false := by
  have e : ((x : Int) == (y : Int)) = ((a : Int) == (b : Int)) := by
    rw [Bool.eq_iff_iff]
    simp only [beq_iff_eq]
    omega
  rw [e]
  simp
theorem sum_step (c i : Nat) (hi : i < 64) (hc : c < 18446744073709551616) : IntKind.u64.wrap ((sumTo c i : Nat) + bits BinOp.and IntKind.u64 ((c : Int) / 2 ^ i) 1) = (sumTo c (i + 1) : Nat) := by
  have e1 : ((c : Int) / 2 ^ i) = ((c / 2 ^ i : Nat) : Int) := by simp
  have h : c / 2 ^ i < 18446744073709551616 := Nat.lt_of_le_of_lt (Nat.div_le_self _ _) hc
  have e2 := u64_and_nat (c / 2 ^ i) 1 h (by omega)
  rw [show ((1 : Nat) : Int) = 1 from rfl] at e2
  rw [e1, e2, Nat.and_one_is_mod]
  have h1 := sumTo_le c i
  have h2 := bitN_le c i
  show _ = ((sumTo c i + bitN c i : Nat) : Int)
  unfold bitN at *
  rw [u64wH]
  omega
set_option maxRecDepth 20000 in
set_option maxHeartbeats 4000000 in
theorem storeOnce_walk0 (c : Nat) (hc : c < 18446744073709551616) (A : Option Addr) (cap : Nat) (l : List Int) {w : World} (h : Is .u64 w w.heap.size A l) (hu : ∀ n ∈ l, (Lit.int .u64 n).wf = true) :
    Calls Try.prog 3 #[.int .u64 c, .slice A l.length cap] w fun e w' => e = .returned (.bool true) ∧ Below w.heap.size w w' := by
  by_cases h30 : 30 < l.length
  · have h1 : (30 : Int) < (l.length : Int) := by omega
    clear h hu
    go_enter Try.func3, Try.ntmps3
    go_wp2_with (first | ((go_at_call 14); (with_reducible refine (lives6 _).mono ?_); rintro e w1 ⟨rfl, hb_w1⟩; obtain ⟨hc, hf⟩ := bcell hb_w1; have hz := hb_w1.size; (try simp only [World.size_alloc, World.size_setCell, World.size_drew] at hz); (first | (with_reducible have hl := lt_rule6 hz) | (with_reducible have hl := lt_rule5 hz) | (with_reducible have hl := lt_rule4 hz) | (with_reducible have hl := lt_rule3 hz) | (with_reducible have hl := lt_rule2 hz) | (with_reducible have hl := lt_rule1 hz) | have hl := lt_rule0 hz); (try (have hz0 : w.heap.size < w1.heap.size := by omega)); (try (have hz1 : w.heap.size + 1 < w1.heap.size := by omega)); (try (have hz2 : w.heap.size + 1 + 1 < w1.heap.size := by omega)); (try (have hz3 : w.heap.size + 1 + 1 + 1 < w1.heap.size := by omega)); (try (have hz4 : w.heap.size + 1 + 1 + 1 + 1 < w1.heap.size := by omega))))
    go_ret
    exact ⟨rfl, by (repeat' (first | (with_reducible exact Below.refl _ _) | (with_reducible assumption) | (with_reducible exact Hid.out (by assumption)) | (with_reducible refine below_a ?_ _) | (with_reducible refine below_dn ?_ _) | (with_reducible refine below_c ?_ (by assumption)) | (with_reducible refine below_d ?_) | (with_reducible refine Below.setCell ?_ ?_ _) | (with_reducible refine Below.alloc ?_ ?_ _) | (with_reducible refine below_call ?_ ?_ (by assumption)) | (with_reducible refine Below.drew ?_) | go_size | ((try simp only [World.size_alloc, World.size_setCell, World.size_drew] at *); omega)))⟩
  · have HL := Lib.hid h30
    have h1 : ¬ (30 : Int) < (l.length : Int) := by omega
    clear h30
    have HC := Lib.hid hc
    have HI := Lib.hid h
    have HU := Lib.hid hu
    have HN := Lib.hid fun W => (show Calls Try.prog 15 #[.int .i64 5000] W _ from new_in W 5000 (by omega) (by omega))
    obtain ⟨f1, f2, f3, f4, f5⟩ := build_done (ns := twoN) (most := 5000) c StOk.fresh (by decide)
    have f6 : (buildN twoN 5000 c).2.2.length ≤ 66 := f4
    have HB := Lib.hid fun S (W W0 : World) (h : St W0.heap.size W S twoN 5000) => (show Calls Try.prog 16 #[.pointer (some ⟨S, 0, none⟩), .int .u64 c] W fun e w' => e = .returned (.tuple #[.int .u32 (buildN twoN 5000 c).1, .nilIface]) ∧ Left W0.heap.size S 5000 (buildN twoN 5000 c).2.2 W w' by
      have := build6_any h c hc
      rw [f1, errV0'] at this
      exact this)
    clear f1 f2 f3 f4 h hc hu
    generalize buildN twoN 5000 c = F at *
    have F5 := Lib.hid f5
    have F6 := Lib.hid f6
    clear f5 f6
    have q3 := fun w => eql_nil_nil (P := Try.prog) w (ti := 27) Try.underlying27
    have q4 := fun w => neq_nil_nil (P := Try.prog) w (ti := 27) Try.underlying27
    go_enter Try.func3, Try.ntmps3
    go_wp2_with (first | ((go_at_call 14); (with_reducible refine (lives6 _).mono ?_); rintro e w1 ⟨rfl, hb_w1⟩; obtain ⟨hc, hf⟩ := bcell hb_w1; have hz := hb_w1.size; (try simp only [World.size_alloc, World.size_setCell, World.size_drew] at hz); (first | (with_reducible have hl := lt_rule6 hz) | (with_reducible have hl := lt_rule5 hz) | (with_reducible have hl := lt_rule4 hz) | (with_reducible have hl := lt_rule3 hz) | (with_reducible have hl := lt_rule2 hz) | (with_reducible have hl := lt_rule1 hz) | have hl := lt_rule0 hz); (try (have hz0 : w.heap.size < w1.heap.size := by omega)); (try (have hz1 : w.heap.size + 1 < w1.heap.size := by omega)); (try (have hz2 : w.heap.size + 1 + 1 < w1.heap.size := by omega)); (try (have hz3 : w.heap.size + 1 + 1 + 1 < w1.heap.size := by omega)); (try (have hz4 : w.heap.size + 1 + 1 + 1 + 1 < w1.heap.size := by omega))))
    have B1 := Lib.hid (show Below w.heap.size w w1 from by (repeat' (first | (with_reducible exact Below.refl _ _) | (with_reducible assumption) | (with_reducible exact Hid.out (by assumption)) | (with_reducible refine below_a ?_ _) | (with_reducible refine below_dn ?_ _) | (with_reducible refine below_c ?_ (by assumption)) | (with_reducible refine below_d ?_) | (with_reducible refine Below.setCell ?_ ?_ _) | (with_reducible refine Below.alloc ?_ ?_ _) | (with_reducible refine below_call ?_ ?_ (by assumption)) | (with_reducible refine Below.drew ?_) | go_size | ((try simp only [World.size_alloc, World.size_setCell, World.size_drew] at *); omega))))
    go_wp2_with ((go_at_call 15); (with_reducible refine (HN.out w1).mono ?_); rintro e w3 ⟨S, rfl, h3, b3⟩; have H3 := Lib.hid h3; have B3 := Lib.hid (below_c B1.out b3); clear h3 b3)
    go_wp2_with ((go_at_call 16); (with_reducible refine (HB.out S w3 w1 H3.out).mono ?_); rintro e w4 ⟨rfl, k4⟩; have H4 := Lib.hid k4.st; have B4 := Lib.hid (B3.out.trans ((Left.low k4 H3.out).mono B1.out.size)); clear k4)
    have HF66 := Lib.hid (show F.2.2.length ≤ 66 + 64 * 0 from F6.out)
    clear hb_w1 hc hf hz hl H3 B3 F6
    go_loopw [37] (fun v wr => ∃ (i : Nat) (ns : List Nd), i ≤ l.length ∧ v = .int .i64 i ∧ Hid (TreeN ns 3 F.1 (bitN c)) ∧ Hid (ns.length ≤ 66 + 64 * i) ∧ Hid (St w1.heap.size wr S ns 5000) ∧ Hid (Below w.heap.size w wr)) (fun v _ => 64 - (intOf v).toNat)
    case atStart => exact ⟨0, F.2.2, by omega, rfl, F5, HF66, H4, B4⟩
    case round =>
      obtain ⟨i, ns, hi, rfl, T1, N1, H5, B5⟩ := hrel
      clear F5 HF66 H4 B4
      have Hi := Lib.hid hi
      by_cases hlt : i < l.length
      · have HLT := Lib.hid hlt
        obtain ⟨b, o, rfl, hcell⟩ := (HI.out.below B5.out).at_ hlt
        have i0 : (0 : Int) ≤ (i : Int) := by omega
        have i1 : (i : Int) < (l.length : Int) := by omega
        have hd0 := u64_nat (HU.out (l.getD i 0) (by rw [List.getD_eq_getElem?_getD, List.getElem?_eq_getElem hlt]; exact List.getElem_mem hlt))
        have H30 := HL.out
        obtain ⟨d, hd⟩ := Int.eq_ofNat_of_zero_le hd0.1
        rw [hd] at hcell hd0
        obtain ⟨g1, g2, g3, g4, g5⟩ := build_done (ns := ns) (most := 5000) d H5.out.ok (by have := N1.out; omega)
        have HBD := Lib.hid (show Calls Try.prog 16 #[.pointer (some ⟨S, 0, none⟩), .int .u64 d] wr fun e w' => e = .returned (.tuple #[.int .u32 (buildN ns 5000 d).1, .nilIface]) ∧ Left w1.heap.size S 5000 (buildN ns 5000 d).2.2 wr w' by
          have := build6_any H5.out d (by omega)
          rw [g1, errV0'] at this
          exact this)
        have HM := Lib.hid (show 64 - (i + 1) < 64 - i by omega)
        have HT := Lib.hid (T1.out.ext g2 H5.out.ok)
        have HG := Lib.hid g5
        have HN2 := Lib.hid (show (buildN ns 5000 d).2.2.length ≤ 66 + 64 * (i + 1) by have := N1.out; omega)
        have Hd := Lib.hid (show d < 18446744073709551616 by omega)
        clear g1 g2 g3 g4 g5 hlt hi H30 hd hd0 h1
        generalize buildN ns 5000 d = G at *
        have HW := Lib.hid (show w.heap.size ≤ w1.heap.size from B1.out.size)
        go_wp2_with ((go_at_call 16); (with_reducible refine (HBD.out).mono ?_); rintro e w6 ⟨rfl, k6⟩; have H6 := Lib.hid k6.st; have B6 := Lib.hid (B5.out.trans ((Left.low k6 H5.out).mono HW.out)); have it := same_num (tree_iff k6.st.ok k6.st.dist HG.out HT.out Hd.out HC.out); clear k6)
        exact ⟨⟨i + 1, G.2.2, by have := HLT.out; omega, by go_num, HT, HN2, H6, B6⟩, by have := HM.out; simp [intOf]; omega⟩
      · obtain rfl : i = l.length := by omega
        obtain ⟨g1, g2, g3, g4, g5⟩ := build_done (ns := ns) (most := 5000) c H5.out.ok (by have := N1.out; have := HL.out; omega)
        have HBD := Lib.hid (show Calls Try.prog 16 #[.pointer (some ⟨S, 0, none⟩), .int .u64 c] wr fun e w' => e = .returned (.tuple #[.int .u32 (buildN ns 5000 c).1, .nilIface]) ∧ Left w1.heap.size S 5000 (buildN ns 5000 c).2.2 wr w' by
          have := build6_any H5.out c HC.out
          rw [g1, errV0'] at this
          exact this)
        have HT := Lib.hid (T1.out.ext g2 H5.out.ok)
        have HG := Lib.hid g5
        have g3' := g3
        have HW := Lib.hid (show w.heap.size ≤ w1.heap.size from B1.out.size)
        have hlv := Lib.hid (HT.out.lvl g3)
        have hal := Lib.hid (show aliveOf (buildN ns 5000 c).2.2 F.1 = sumTo c 64 by
          rw [alive_cnt g3 hlv.out, HT.out.cnt g3, sum_all]
          have := sumTo_le c 64
          unfold maxU
          omega)
        have hxl := Lib.hid (show F.1 < (buildN ns 5000 c).2.2.length from lvlN_lt (by rw [hlv.out]; omega))
        clear g1 g2 g3 g4 g5 g3' hlt hi
        generalize buildN ns 5000 c = G at *
        go_wp2_with ((go_at_call 16); (with_reducible refine (HBD.out).mono ?_); rintro e w6 ⟨rfl, k6⟩; have H6 := Lib.hid k6.st; have B6 := Lib.hid (B5.out.trans ((Left.low k6 H5.out).mono HW.out)); have it := (tree_iff k6.st.ok k6.st.dist HG.out HT.out HC.out HC.out).2 rfl; clear k6)
        go_loopw [65, 15] (fun v n wq => ∃ i : Nat, i ≤ 64 ∧ v = .int .i64 i ∧ n = .int .u64 (sumTo c i : Nat) ∧ w6 = wq) (fun v _ _ => 64 - (intOf v).toNat)
        case atStart => exact ⟨0, by omega, rfl, rfl, rfl⟩
        case round =>
          obtain ⟨i, hi, rfl, rfl, rfl⟩ := hrel
          by_cases hlt : i < 64
          · have HLT := Lib.hid hlt
            have i0 : (0 : Int) ≤ (i : Int) := by omega
            have i1 : (i : Int) < 64 := by omega
            have hs := sum_step c i hlt HC.out
            have HM := Lib.hid (show 64 - (i + 1) < 64 - i by omega)
            clear hlt hi
            go_wp2_with fail
            exact ⟨⟨i + 1, by have := HLT.out; omega, by go_num, by first | rfl | simp, by first | rfl | trivial⟩, by have := HM.out; simp [intOf]; omega⟩
          · obtain rfl : i = 64 := by omega
            clear hlt hi
            have h2 := H6.out.two
            have HLV := Lib.hid (level_at H6.out F.1 (by have := hxl.out; omega) 3 hlv.out (Below.refl _ _))
            have HCT := Lib.hid (count_st H6.out F.1 (by have := hxl.out; omega))
            rw [hal.out] at HCT
            clear h2 it
            go_wp2_with (first | ((go_at_call 17); (with_reducible refine (HLV.out).mono ?_); rintro e w' ⟨rfl, rfl⟩) | ((go_at_call 18); (with_reducible refine (HCT.out).mono ?_); rintro e w' ⟨rfl, rfl⟩))
            go_ret
            exact ⟨rfl, B6.out⟩
theorem storeOnce_w (a0 : Int) (A : Option Addr) (cap : Nat) (l : List Int) {w : World} (h0 : (Lit.int .u64 a0).wf = true) (h : Is .u64 w w.heap.size A l) (hu : ∀ n ∈ l, (Lit.int .u64 n).wf = true) (hc : l.length ≤ cap) (hc2 : cap * 8 ≤ 140737488351232) :
    Calls Try.prog 3 #[.int .u64 a0, .slice A l.length cap] w fun e w' => e = .returned (.bool true) ∧ Below w.heap.size w w' := by
  have b0 := u64_nat h0
  obtain ⟨c, rfl⟩ := Int.eq_ofNat_of_zero_le b0.1
  exact storeOnce_walk0 c (by omega) A cap l h hu
end Go.Proofs.Ytjiliiclebdbfaa

/- Contracts of package quad: root, New, Centre, lone. -/
import Derived.Test.YtjiliiclebdbfaaQuadA
namespace Go.Proofs.Ytjiliiclebdbfaa
open Go.RowKit
set_option linter.unusedVariables false
set_option linter.unusedSimpArgs false
attribute [local go_sem] eqGuard_errV neq_errV eql_errV
section
variable {base S : Nat} {w : World} {ns : List Nd} {most : Nat}
theorem planeV_ok {S : Nat} {r : Res} (h : r.2.1 = 0) : planeV S r = .agg #[.pointer (some ⟨S, 0, none⟩), .int .u32 r.1] := if_pos h
theorem planeV_no {S : Nat} {r : Res} (h : ¬ r.2.1 = 0) : planeV S r = .agg #[.pointer none, .int .u32 0] := if_neg h
theorem root_any (h : St base w S ns most) (a b c d : Nat) (ha : a < 4294967296) (hb : b < 4294967296) (hc : c < 4294967296) (hd : d < 4294967296) (x : Nat) :
    Calls Try.prog 88 #[.agg #[.pointer (some ⟨S, 0, none⟩), .int .u32 x], .agg #[.int .u32 a, .int .u32 b, .int .u32 c, .int .u32 d]] w fun e w' => e = .returned (.tuple #[planeV S (makeN ns most ⟨a, b, c, d⟩), errV (makeN ns most ⟨a, b, c, d⟩).2.1]) ∧ Left base S most (makeN ns most ⟨a, b, c, d⟩).2.2 w w' := by
  have H := Lib.hid h
  have HK := Lib.hid (And.intro ha (And.intro hb (And.intro hc hd)))
  have hp1 := Lib.hid (planeV_ok (S := S) (r := makeN ns most ⟨a, b, c, d⟩))
  have hp2 := Lib.hid (planeV_no (S := S) (r := makeN ns most ⟨a, b, c, d⟩))
  clear h ha hb hc hd
  go_enter Try.func88, Try.ntmps88
  go_wp2_with ((go_at_call 31); (with_reducible refine (make_l (H.out.below (by (repeat' (first | (with_reducible exact Below.refl _ _) | (with_reducible assumption) | (with_reducible refine Below.setCell ?_ ?_ _) | (with_reducible refine Below.alloc ?_ ?_ _) | (with_reducible refine below_dn ?_ _) | (with_reducible refine below_call ?_ ?_ (by assumption)) | (with_reducible refine Below.drew ?_) | go_size)))) a b c d HK.out.1 HK.out.2.1 HK.out.2.2.1 HK.out.2.2.2).mono ?_); rintro e w1 ⟨rfl, k1⟩; have K1 := Lib.hid ((Left.of H.out (show Below w.heap.size w _ from by (repeat' (first | (with_reducible exact Below.refl _ _) | (with_reducible assumption) | (with_reducible refine Below.setCell ?_ ?_ _) | (with_reducible refine Below.alloc ?_ ?_ _) | (with_reducible refine below_dn ?_ _) | (with_reducible refine below_call ?_ ?_ (by assumption)) | (with_reducible refine Below.drew ?_) | go_size)))).call k1); have p0 := Pt.left (show Pt _ (w.heap.size) #[.pointer (some ⟨S, 0, none⟩), .int .u32 x] 91 from by (repeat' (first | (with_reducible assumption) | (with_reducible refine Pt.drew ?_) | (with_reducible refine Pt.new' (by first | rfl | (simp; done) | omega)) | (with_reducible refine Pt.alloc ?_ _) | (with_reducible refine Pt.keep ?_ (by with_reducible assumption))))) (H.out.below (by (repeat' (first | (with_reducible exact Below.refl _ _) | (with_reducible assumption) | (with_reducible refine Below.setCell ?_ ?_ _) | (with_reducible refine Below.alloc ?_ ?_ _) | (with_reducible refine below_dn ?_ _) | (with_reducible refine below_call ?_ ?_ (by assumption)) | (with_reducible refine Below.drew ?_) | go_size)))) k1 (by decide) (by decide) (by decide); have c_p0 := p0.cell; have f_p0 := p0.frozen; have l_p0 := p0.lt; have p2 := Pt.left (show Pt _ (w.heap.size + 1 + 1) #[.pointer none, .int .u32 0] 91 from by (repeat' (first | (with_reducible assumption) | (with_reducible refine Pt.drew ?_) | (with_reducible refine Pt.new' (by first | rfl | (simp; done) | omega)) | (with_reducible refine Pt.alloc ?_ _) | (with_reducible refine Pt.keep ?_ (by with_reducible assumption))))) (H.out.below (by (repeat' (first | (with_reducible exact Below.refl _ _) | (with_reducible assumption) | (with_reducible refine Below.setCell ?_ ?_ _) | (with_reducible refine Below.alloc ?_ ?_ _) | (with_reducible refine below_dn ?_ _) | (with_reducible refine below_call ?_ ?_ (by assumption)) | (with_reducible refine Below.drew ?_) | go_size)))) k1 (by decide) (by decide) (by decide); have c_p2 := p2.cell; have f_p2 := p2.frozen; have l_p2 := p2.lt; clear k1)
  all_goals generalize makeN ns most ⟨a, b, c, d⟩ = r at *
  all_goals refine bodyPost_ret (by simp [results, Try.results88, go_sem, *]; rfl) rfl ?_
  · exact ⟨by rw [hp2.out (by simpa using ‹(!decide _) = true›)], K1.out.set2 p2 (by decide) (by decide) (by decide) (by omega) _ _ _ _⟩
  · have h0 : r.2.1 = 0 := by simpa using ‹(!decide _) = false›
    exact ⟨by rw [hp1.out h0, h0]; rfl, K1.out.set2 p2 (by decide) (by decide) (by decide) (by omega) _ _ _ _⟩
theorem quadNew_any (h : St base w S ns most) :
    Calls Try.prog 47 #[.pointer (some ⟨S, 0, none⟩)] w fun e w' => e = .returned (.tuple #[planeV S (emptyN ns most 3), errV (emptyN ns most 3).2.1]) ∧ Left base S most (emptyN ns most 3).2.2 w w' := by
  have H := Lib.hid h
  have hp1 := Lib.hid (planeV_ok (S := S) (r := emptyN ns most 3))
  have hp2 := Lib.hid (planeV_no (S := S) (r := emptyN ns most 3))
  clear h
  go_enter Try.func47, Try.ntmps47
  go_wp2_with ((go_at_call 32); (with_reducible refine (empty_l (H.out.below (by (repeat' (first | (with_reducible exact Below.refl _ _) | (with_reducible assumption) | (with_reducible refine Below.setCell ?_ ?_ _) | (with_reducible refine Below.alloc ?_ ?_ _) | (with_reducible refine below_dn ?_ _) | (with_reducible refine below_call ?_ ?_ (by assumption)) | (with_reducible refine Below.drew ?_) | go_size)))) 3).mono ?_); rintro e w1 ⟨rfl, k1⟩; have K1 := Lib.hid ((Left.of H.out (show Below w.heap.size w _ from by (repeat' (first | (with_reducible exact Below.refl _ _) | (with_reducible assumption) | (with_reducible refine Below.setCell ?_ ?_ _) | (with_reducible refine Below.alloc ?_ ?_ _) | (with_reducible refine below_dn ?_ _) | (with_reducible refine below_call ?_ ?_ (by assumption)) | (with_reducible refine Below.drew ?_) | go_size)))).call k1); have p2 := Pt.left (show Pt _ (w.heap.size) #[.pointer none, .int .u32 0] 91 from by (repeat' (first | (with_reducible assumption) | (with_reducible refine Pt.drew ?_) | (with_reducible refine Pt.new' (by first | rfl | (simp; done) | omega)) | (with_reducible refine Pt.alloc ?_ _) | (with_reducible refine Pt.keep ?_ (by with_reducible assumption))))) (H.out.below (by (repeat' (first | (with_reducible exact Below.refl _ _) | (with_reducible assumption) | (with_reducible refine Below.setCell ?_ ?_ _) | (with_reducible refine Below.alloc ?_ ?_ _) | (with_reducible refine below_dn ?_ _) | (with_reducible refine below_call ?_ ?_ (by assumption)) | (with_reducible refine Below.drew ?_) | go_size)))) k1 (by decide) (by decide) (by decide); have c_p2 := p2.cell; have f_p2 := p2.frozen; have l_p2 := p2.lt; clear k1)
  all_goals generalize emptyN ns most 3 = r at *
  all_goals refine bodyPost_ret (by simp [results, Try.results47, go_sem, *]; rfl) rfl ?_
  · exact ⟨by rw [hp2.out (by simpa using ‹(!decide _) = true›)], K1.out.set2 p2 (by decide) (by decide) (by decide) (by omega) _ _ _ _⟩
  · have h0 : r.2.1 = 0 := by simpa using ‹(!decide _) = false›
    exact ⟨by rw [hp1.out h0, h0]; rfl, K1.out.set2 p2 (by decide) (by decide) (by decide) (by omega) _ _ _ _⟩
end
end Go.Proofs.Ytjiliiclebdbfaa

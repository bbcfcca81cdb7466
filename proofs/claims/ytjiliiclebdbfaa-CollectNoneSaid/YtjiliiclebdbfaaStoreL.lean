/- The chapter's example of layer 6. -/
import Derived.Test.YtjiliiclebdbfaaNew
namespace Go.Proofs.Ytjiliiclebdbfaa
open Go.RowKit
set_option linter.unusedVariables false
set_option linter.unusedSimpArgs false

def K0 : K4 := ⟨0, 0, 0, 0⟩
theorem errV0 : errV 0 = .nilIface := rfl
theorem make0_st {base S : Nat} {w : World} {ns : List Nd} {most : Nat} (h : St base w S ns most) (y : Nat) (ns' : List Nd) (e : makeN ns most K0 = (y, 0, ns')) :
    Calls Try.prog 31 #[.pointer (some ⟨S, 0, none⟩), .agg #[.int .u32 0, .int .u32 0, .int .u32 0, .int .u32 0]] w fun e w' => e = .returned (.tuple #[.int .u32 y, .nilIface]) ∧ St base w' S ns' most ∧ Fr S w w' := by
  have := make_st h 0 0 0 0 (by omega) (by omega) (by omega) (by omega)
  rw [show (⟨0, 0, 0, 0⟩ : K4) = K0 from rfl, e] at this
  exact this
def threeN : List Nd := twoN ++ [newN twoN K0]
theorem lives6 (w : World) : Calls Try.prog 14 #[] w fun e w' => e = .returned (.bool true) ∧ Below w.heap.size w w' := by
  have e1 : makeN twoN 9 K0 = (2, 0, threeN) := by kernel_rfl
  have e2 : makeN threeN 9 K0 = (2, 0, threeN) := by kernel_rfl
  have HN := Lib.hid (show Calls Try.prog 15 #[.int .i64 9] w _ from new_in w 9 (by omega) (by omega))
  have HM1 := Lib.hid fun S (W : World) (h : St w.heap.size W S twoN 9) => make0_st h _ _ e1
  have HM2 := Lib.hid fun S (W : World) (h : St w.heap.size W S threeN 9) => make0_st h _ _ e2
  have q := fun w => eql_nil_nil (P := Try.prog) w (ti := 27) Try.underlying27
  clear e1 e2
  go_enter Try.func14, Try.ntmps14
  go_wp2_with ((go_at_call 15); (with_reducible refine (HN.out).mono ?_); rintro e w1 ⟨S, rfl, h1, b1⟩; have H1 := Lib.hid h1; have B1 := Lib.hid b1; clear h1 b1)
  go_wp2_with ((go_at_call 31); (with_reducible refine (HM1.out S w1 H1.out).mono ?_); rintro e w2 ⟨rfl, h2, f2⟩; have H2 := Lib.hid h2; have B2 := Lib.hid (B1.out.trans (Fr.low f2 H1.out)); clear h2 f2)
  go_wp2_with ((go_at_call 31); (with_reducible refine (HM2.out S w2 H2.out).mono ?_); rintro e w3 ⟨rfl, h3, f3⟩; have H3 := Lib.hid h3; have B3 := Lib.hid (B2.out.trans (Fr.low f3 H2.out)); clear h3 f3)
  go_ret
  exact ⟨rfl, B3.out⟩
end Go.Proofs.Ytjiliiclebdbfaa

/- Contracts of package store: what is written. -/
import Derived.Test.YtjiliiclebdbfaaProg
import Derived.Test.YtjiliiclebdbfaaKit
import Derived.Test.YtjiliiclebdbfaaKitb
import Derived.Test.YtjiliiclebdbfaaBytes
import Derived.Test.YtjiliiclebdbfaaOnly
import Derived.Test.YtjiliiclebdbfaaErr
import Derived.Test.YtjiliiclebdbfaaFault
import Derived.Test.YtjiliiclebdbfaaFaultB
import Derived.Test.YtjiliiclebdbfaaStoreV
import Derived.Test.YtjiliiclebdbfaaStore
import Derived.Test.YtjiliiclebdbfaaArr
import Derived.Test.YtjiliiclebdbfaaStoreS
import Derived.Test.YtjiliiclebdbfaaPlus
import Derived.Test.YtjiliiclebdbfaaRow6
import Derived.Laws.BitsAllLaws
import Derived.Deep.QuietTactic
import Derived.Deep.DeepCutAuto
import Derived.BigQuiet
import Derived.Deep.LoopGhost
namespace Go.Proofs.Ytjiliiclebdbfaa
open Go.RowKit
set_option linter.unusedVariables false
set_option linter.unusedSimpArgs false

section
variable {base : Nat} {w W W' : World} {S N N' T : Nat} {ns : List Nd} {tb : List Nat} {most : Nat}
theorem SM.lt (h : SM base W S N T ns tb most) : S < W.heap.size ∧ T < W.heap.size ∧ ns.length ≤ most ∧ 2 * most ≤ tb.length ∧ tb.length ≤ 4194304 := by
  obtain ⟨cn, h1, _, h3, _, _, h4⟩ := h
  exact ⟨h1.lt, h3.lt, h4⟩
theorem SM.ne (h : SM base W S N T ns tb most) (h0 : ns ≠ []) : S ≠ T ∧ S ≠ N ∧ T ≠ N ∧ N < W.heap.size ∧ base ≤ N := by
  obtain ⟨cn, h1, h2, h3, _⟩ := h
  rcases h2.2 with ⟨hv, _⟩ | ⟨g, cap, cur, hv, hg0, hg, _⟩
  · cases hv
  · injection hv with e1
    injection e1 with e1
    injection e1 with e1
    subst e1
    unfold Pt at h1 h3
    refine ⟨?_, ?_, ?_, (Array.getElem?_eq_some_iff.1 hg).1, hg0⟩ <;> intro e <;> subst e
    · rw [h1] at h3; injection h3 with h3; injection h3 with _ h3; revert h3; decide
    · rw [h1] at hg; injection hg with hg; injection hg with _ hg; revert hg; decide
    · rw [h3] at hg; injection hg with hg; injection hg with _ hg; revert hg; decide
theorem nodes_app (ns : List Nd) (nd : Nd) : nodesCells (ns ++ [nd]) = nodesCells ns ++ nodeCells nd := by unfold nodesCells; simp
theorem row_set {e size n : Nat} {v : Value} {xs : List Value} (h : W.ownsRow base e size v n xs) {b o : Nat} {u : Value} {cs : Array Value} {U : TypeId} (hp : Pt W b cs U) (hU : U ≠ e) : (W.setCell ⟨b, o, none⟩ u).ownsRow base e size v n xs := by
  refine ⟨h.1, ?_⟩
  rcases h.2 with h0 | ⟨g, cap, cur, hv, hg0, hg, hr⟩
  · exact .inl h0
  · refine .inr ⟨g, cap, cur, hv, hg0, ?_, hr⟩
    have hne : g ≠ b := by
      intro e
      subst e
      unfold Pt at hp
      rw [hp] at hg
      injection hg with hg
      injection hg with _ hg
      exact hU hg
    rw [Below.heap_setCell _ _ _ _ hne]
    exact hg
/-- The squares' row has grown by one. -/
theorem SM.app (h : SM base W S N T ns tb most) (h0 : ns ≠ []) (nd : Nd) {c' : Nat} (hg : W.grownBy W' (some N)) (ho : W'.ownsRow base 123 6 (.slice (some ⟨N', 0, none⟩) (ns.length + 1 : Nat) c') (ns.length + 1) (nodesCells ns ++ nodeCells nd)) (hm : ns.length < most) :
    SM base (W'.setCell ⟨S, 0, none⟩ (.slice (some ⟨N', 0, none⟩) (ns.length + 1 : Nat) c')) S N' T (ns ++ [nd]) tb most := by
  obtain ⟨n1, n2, n3, n4, n5⟩ := h.ne h0
  obtain ⟨cn, h1, h2, h3, h4, h5, h6, h7⟩ := h
  have p1 : Pt W' S _ _ := (hg.block S h1.lt (by simpa using n2)).trans h1
  have p3 : Pt W' T _ _ := (hg.block T h3.lt (by simpa using n3)).trans h3
  have hl : (ns ++ [nd]).length = ns.length + 1 := by simp
  refine ⟨c', ?_, ?_, p3.set_ne (by simpa using n1) _, h4, h5, by rw [hl]; omega, h7⟩
  · rw [hl]
    exact p1.set 0 _
  · rw [hl, nodes_app]
    exact row_set ho p1 (by decide)
/-- A place of the table is written. -/
theorem SM.setT (h : SM base W S N T ns tb most) (h0 : ns ≠ []) (p v : Nat) : SM base (W.setCell ⟨T, p, none⟩ (.int .u32 v)) S N T ns (tb.set p v) most := by
  obtain ⟨n1, n2, n3, n4, n5⟩ := h.ne h0
  obtain ⟨cn, h1, h2, h3, h4, h5, h6⟩ := h
  rw [SM]
  rw [List.length_set]
  refine ⟨cn, h1.set_ne (by simpa using n1.symm) _, row_set h2 h3 (by decide), ?_, h4, h5, h6⟩
  have := h3.set p (.int .u32 v)
  have e : tbCells (tb.set p v) = (tbCells tb).setIfInBounds p (.int .u32 v) := by unfold tbCells; simp [List.map_set]
  rw [e]
  exact this
theorem sRoom_any (h : SM base w S N T ns tb most) : Calls Try.prog 34 #[.pointer (some ⟨S, 0, none⟩)] w fun e w' => e = .returned (.int .i64 ((most : Int) - ns.length)) ∧ ∃ q, w' = w.drewN q := by
  obtain ⟨_, _, h1, h2, h3⟩ := h.lt
  obtain ⟨cn, c0, c1, c2, _⟩ := h.cellS
  have hw : wrap64 ((most : Int) - ns.length) = (most : Int) - ns.length := w64 (by omega) (by omega)
  clear h h1 h2 h3
  have hw2 : IntKind.i64.wrap ((most : Int) - ns.length) = (most : Int) - ns.length := by rw [i64_w, hw]
  go_enter Try.func34, Try.ntmps34
  go_wp2_with fail
  go_quiet (fail)
  go_wp2_with fail
  go_ret
  exact ⟨rfl, _, rfl⟩
theorem sMark_any (h : SM base w S N T ns tb most) : Calls Try.prog 36 #[.pointer (some ⟨S, 0, none⟩)] w fun e w' => e = .returned (.int .i64 ns.length) ∧ w = w' := by
  have H := Lib.hid h
  clear h
  go_enter Try.func36, Try.ntmps36
  go_wp2_with ((go_at_call 33); (with_reducible refine (sLen_any H.out).mono ?_); rintro e w' ⟨rfl, rfl⟩)
  go_ret
  exact ⟨rfl, rfl⟩
end
end Go.Proofs.Ytjiliiclebdbfaa

/- slices.Clip, Clone, Equal at bytes. -/
import Derived.Test.YtmjdlofkjjofcaaDoorProg
import Derived.Test.YtmjdlofkjjofcaaDoorKit
import Derived.Test.YtmjdlofkjjofcaaDoorKitb
import Derived.Test.YtmjdlofkjjofcaaDoorBytes
import Derived.Test.YtmjdlofkjjofcaaDoorApp
import Derived.Deep.QuietTactic
import Derived.BigQuiet
import Derived.WalkSpells
namespace Go.Proofs.YtmjdlofkjjofcaaDoor
open Go.RowKit
set_option linter.unusedVariables false
set_option linter.unusedSimpArgs false

theorem clip_any (A : Option Addr) (n c : Nat) (w : World) (hn : n ≤ c) (hc : c ≤ 9223372036854775807) :
    Calls Tryd.prog 83 #[.slice A n c] w fun e w' => e = .returned (.slice A n n) ∧ w = w' := by
  go_enter Tryd.func83, Tryd.ntmps83
  go_wp2
  go_ret
  exact ⟨rfl, rfl⟩

/-- A slice is given back that holds the bytes l; what stood ahead stays. -/
def RetBs (w : World) (l : List UInt8) (x : Ending) (w' : World) : Prop :=
  ∃ A c, x = .returned (.slice A l.length c) ∧ Bs w' w'.heap.size A l ∧ l.length ≤ c ∧ c ≤ 9223372036854775807 ∧ Below w.heap.size w w'
/-- A slice is given back that the call has made, and that holds the bytes l. -/
def RetRow (w : World) (T : TypeId) (l : List UInt8) (x : Ending) (w' : World) : Prop :=
  ∃ A c, x = .returned (.slice A l.length c) ∧ Row w' w.heap.size T (.slice A l.length c) l ∧ Below w.heap.size w w'
set_option maxRecDepth 20000 in
theorem clone_any (A : Option Addr) (n c : Nat) (l : List UInt8) (hn : n = l.length) (w : World) (h : Bs w w.heap.size A l) (hl : l.length ≤ 140737488355328) :
    Calls Tryd.prog 52 #[.slice A n c] w (RetRow w 5 l) := by
  subst hn
  have H := Lib.hid h
  have HL := Lib.hid hl
  clear h hl
  have h1 := fun w => Lib.run_eql_slice_nil (P := Tryd.prog) w
  cases A with
  | none =>
    have h0 : l = [] := by rcases H.out with h | ⟨b, o, hA, _⟩; exact h; cases hA
    subst h0
    go_enter Tryd.func52, Tryd.ntmps52
    go_wp2
    go_ret
    exact ⟨none, 0, rfl, Row.nil _ _ _, Below.refl _ _⟩
  | some a =>
    have hs : (some a : Option Addr).isNone = false := rfl
    go_enter Tryd.func52, Tryd.ntmps52
    go_wp2_with ((with_reducible refine at_dst (N := 7) rfl ?_); refine app_bytes2 rfl (.tmp 5) (.tmp 6) 22 rfl rfl (by kernel_rfl) [] l rfl (Row.mk0 _ _) rfl rfl (bs_at H.out ((Below.refl _ _).alloc (Nat.le_refl _) _)) rfl ?h1 ?h2 ?_; (case h1 => have := HL.out; omega); (case h2 => simp); intro A4 c4 w4 r4 b4 _; have HBW := ((Below.refl w.heap.size w).alloc (Nat.le_refl _) (.cells #[] 5)).trans b4; have r4 := Lib.hid r4)
    go_ret
    exact ⟨A4, c4, rfl, r4.out, HBW⟩

theorem eq_take_succ (a b : List UInt8) (k : Nat) (ha : k < a.length) (hb : k < b.length) (h : a.take k = b.take k) (e : a.getD k 0 = b.getD k 0) : a.take (k + 1) = b.take (k + 1) := by
  rw [List.getD_eq_getElem?_getD, List.getD_eq_getElem?_getD, List.getElem?_eq_getElem ha, List.getElem?_eq_getElem hb] at e
  have e' : a[k] = b[k] := by simpa using e
  rw [List.take_succ_eq_append_getElem ha, List.take_succ_eq_append_getElem hb, h, e']
theorem u8_bne (x y : UInt8) : (((x.toNat : Int) != (y.toNat : Int)) = !(x == y)) := by
  by_cases h : x = y
  · subst h; simp
  · have : ¬ (x.toNat : Int) = (y.toNat : Int) := fun e => h (UInt8.toNat_inj.1 (by omega))
    have h1 : ((x.toNat : Int) != (y.toNat : Int)) = true := bne_iff_ne.2 this
    have h2 : (x == y) = false := beq_eq_false_iff_ne.2 h
    rw [h1, h2]; rfl
theorem drewN_add (w : World) (q n : Nat) : (w.drewN q).drewN n = w.drewN (q + n) := by unfold World.drewN; simp only [Nat.add_assoc]
theorem cnt_m {k n : Nat} (h : k < n) : n - (intOf (.int .i64 ((k : Int) + 1))).toNat < n - (intOf (.int .i64 (k : Int))).toNat := by
  simp only [intOf]
  omega

end Go.Proofs.YtmjdlofkjjofcaaDoor

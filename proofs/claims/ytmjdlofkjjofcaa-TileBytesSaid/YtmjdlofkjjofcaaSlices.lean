/- slices.Clip, Clone, Equal at bytes. -/
import Derived.Test.YtmjdlofkjjofcaaProg
import Derived.Test.YtmjdlofkjjofcaaKit
import Derived.Test.YtmjdlofkjjofcaaKitb
import Derived.Test.YtmjdlofkjjofcaaBytes
import Derived.Test.YtmjdlofkjjofcaaApp
import Derived.Deep.QuietTactic
import Derived.BigQuiet
import Derived.WalkSpells
namespace Go.Proofs.Ytmjdlofkjjofcaa
open Go.RowKit
set_option linter.unusedVariables false
set_option linter.unusedSimpArgs false

theorem clip_any (A : Option Addr) (n c : Nat) (w : World) (hn : n ≤ c) (hc : c ≤ 9223372036854775807) :
    Calls Try.prog 75 #[.slice A n c] w fun e w' => e = .returned (.slice A n n) ∧ w = w' := by
  go_enter Try.func75, Try.ntmps75
  go_wp2
  go_ret
  exact ⟨rfl, rfl⟩

/-- A slice is given back that holds the bytes l; what stood ahead stays. -/
def RetBs (w : World) (l : List UInt8) (x : Ending) (w' : World) : Prop :=
  ∃ A c, x = .returned (.slice A l.length c) ∧ Bs w' w'.heap.size A l ∧ l.length ≤ c ∧ c ≤ 9223372036854775807 ∧ Below w.heap.size w w'
/-- A slice is given back that the call has made, and that holds the bytes l. -/
def RetRow (w : World) (T : TypeId) (l : List UInt8) (x : Ending) (w' : World) : Prop :=
  ∃ A c, x = .returned (.slice A l.length c) ∧ Row w' w.heap.size T (.slice A l.length c) l ∧ Below w.heap.size w w'
set_option maxRecDepth 20000 in
theorem clone_any (A : Option Addr) (n c : Nat) (l : List UInt8) (hn : n = l.length) (w : World) (h : Bs w w.heap.size A l) (hl : l.length ≤ 140737488355328) :
    Calls Try.prog 77 #[.slice A n c] w (RetRow w 5 l) := by
  subst hn
  have H := Lib.hid h
  have HL := Lib.hid hl
  clear h hl
  have h1 := fun w => Lib.run_eql_slice_nil (P := Try.prog) w
  cases A with
  | none =>
    have h0 : l = [] := by rcases H.out with h | ⟨b, o, hA, _⟩; exact h; cases hA
    subst h0
    go_enter Try.func77, Try.ntmps77
    go_wp2
    go_ret
    exact ⟨none, 0, rfl, Row.nil _ _ _, Below.refl _ _⟩
  | some a =>
    have hs : (some a : Option Addr).isNone = false := rfl
    go_enter Try.func77, Try.ntmps77
    go_wp2_with ((with_reducible refine at_dst (N := 7) rfl ?_); refine app_bytes2 rfl (.tmp 5) (.tmp 6) 39 rfl rfl (by kernel_rfl) [] l rfl (Row.mk0 _ _) rfl rfl (bs_at H.out ((Below.refl _ _).alloc (Nat.le_refl _) _)) rfl ?h1 ?h2 ?_; (case h1 => have := HL.out; omega); (case h2 => simp); intro A4 c4 w4 r4 b4 _; have HBW := ((Below.refl w.heap.size w).alloc (Nat.le_refl _) (.cells #[] 5)).trans b4; have r4 := Lib.hid r4)
    go_ret
    exact ⟨A4, c4, rfl, r4.out, HBW⟩

theorem eq_take_succ (a b : List UInt8) (k : Nat) (ha : k < a.length) (hb : k < b.length) (h : a.take k = b.take k) (e : a.getD k 0 = b.getD k 0) : a.take (k + 1) = b.take (k + 1) := by
  rw [List.getD_eq_getElem?_getD, List.getD_eq_getElem?_getD, List.getElem?_eq_getElem ha, List.getElem?_eq_getElem hb] at e
  have e' : a[k] = b[k] := by simpa using e
  rw [List.take_succ_eq_append_getElem ha, List.take_succ_eq_append_getElem hb, h, e']
theorem u8_bne (x y : UInt8) : (((x.toNat : Int) != (y.toNat : Int)) = !(x == y)) := by
  by_cases h : x = y
  · subst h; simp
  · have : ¬ (x.toNat : Int) = (y.toNat : Int) := fun e => h (UInt8.toNat_inj.1 (by omega))
    have h1 : ((x.toNat : Int) != (y.toNat : Int)) = true := bne_iff_ne.2 this
    have h2 : (x == y) = false := beq_eq_false_iff_ne.2 h
    rw [h1, h2]; rfl
theorem drewN_add (w : World) (q n : Nat) : (w.drewN q).drewN n = w.drewN (q + n) := by unfold World.drewN; simp only [Nat.add_assoc]
theorem cnt_m {k n : Nat} (h : k < n) : n - (intOf (.int .i64 ((k : Int) + 1))).toNat < n - (intOf (.int .i64 (k : Int))).toNat := by
  simp only [intOf]
  omega

set_option maxHeartbeats 1000000 in
theorem equal_any (A B : Option Addr) (n m c d : Nat) (a b : List UInt8) (hn : n = a.length) (hm : m = b.length) (w : World) (ha : Bs w w.heap.size A a) (hb : Bs w w.heap.size B b) (hl : a.length ≤ 140737488355328) :
    Calls Try.prog 76 #[.slice A n c, .slice B m d] w fun e w' => e = .returned (.bool (a == b)) ∧ ∃ q, w' = w.drewN q := by
  subst hn hm
  have HA := Lib.hid ha
  have HB := Lib.hid hb
  clear ha hb
  by_cases hab : a.length = b.length
  · have hne : ((a.length : Int) != (b.length : Int)) = false := by rw [hab]; simp
    have HAB := Lib.hid hab
    clear hab
    go_enter Try.func76, Try.ntmps76
    go_wp2_with fail
    go_loopw [13] (fun v wr => ∃ k : Nat, k ≤ a.length ∧ v = .int .i64 k ∧ Hid (a.take k = b.take k) ∧ ∃ q, wr = w.drewN q) (fun v _ => a.length - (intOf v).toNat)
    case atStart => exact ⟨0, by omega, rfl, Lib.hid rfl, 0, rfl⟩
    case round =>
      obtain ⟨k, hk, rfl, ht, q, rfl⟩ := hrel
      by_cases hlt : k < a.length
      · have hkb : k < b.length := by have := HAB.out; omega
        obtain ⟨b1, o1, rfl, cx⟩ := HA.out.at_ hlt
        obtain ⟨b2, o2, rfl, cy⟩ := HB.out.at_ hkb
        have hne2 := u8_bne (a.getD k 0) (b.getD k 0)
        have hstep := Lib.hid (eq_take_succ a b k hlt hkb ht.out)
        have hw := Lib.hid (w64 (n := (k : Int) + 1) (by omega) (by omega))
        cases hxy : (a.getD k 0 == b.getD k 0)
        · rw [hxy] at hne2
          have hfin : (a == b) = false := by
            rw [beq_eq_false_iff_ne]
            intro e; subst e
            simp at hxy
          have HF := Lib.hid hfin
          generalize a.getD k 0 = x at *
          generalize b.getD k 0 = y at *
          clear hfin hstep
          go_wp2_with fail
          go_quiet (fail)
          go_wp2_with fail
          go_ret
          exact ⟨by rw [HF.out]; rfl, _, by first | rfl | exact drewN_add _ _ _⟩
        · rw [hxy] at hne2
          have HF := Lib.hid (hstep.out (by simpa using hxy))
          generalize a.getD k 0 = x at *
          generalize b.getD k 0 = y at *
          clear hstep
          go_wp2_with fail
          go_quiet (fail)
          go_wp2_with fail
          exact ⟨⟨k + 1, by omega, rfl, HF, _, rfl⟩, cnt_m hlt⟩
      · have hk2 : k = a.length := by omega
        subst hk2
        go_wp2_with fail
        go_ret
        refine ⟨?_, _, rfl⟩
        have h1 := ht.out
        rw [List.take_length, HAB.out, List.take_length] at h1
        rw [h1]; simp
  · have hne : ((a.length : Int) != (b.length : Int)) = true := by rw [bne_iff_ne]; omega
    have hfin : (a == b) = false := by
      rw [beq_eq_false_iff_ne]
      intro e; exact hab (by rw [e])
    have HF := Lib.hid hfin
    clear hfin hab
    go_enter Try.func76, Try.ntmps76
    go_wp2_with fail
    go_ret
    exact ⟨by rw [HF.out]; rfl, 0, rfl⟩
end Go.Proofs.Ytmjdlofkjjofcaa

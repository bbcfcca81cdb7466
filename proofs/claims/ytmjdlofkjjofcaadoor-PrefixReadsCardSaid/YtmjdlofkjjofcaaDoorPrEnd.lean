/- What the reader tells behind each step, as the law asks it: what is left, the error, and what End says. -/
import Derived.Test.YtmjdlofkjjofcaaDoorRdQ
namespace Go.Proofs.YtmjdlofkjjofcaaDoor
open Go.RowKit
set_option linter.unusedVariables false
set_option linter.unusedSimpArgs false
/-- It is told right, in every world behind. -/
abbrev WrongR (w : World) (v : Value) (n a : Int) : Prop := ∀ W, Below w.heap.size w W → Calls Tryd.prog 19 #[v, .int .i64 n, .int .i64 a] W fun e W' => e = .returned (.bool true) ∧ Below W.heap.size W W'
theorem WrongR.keep {w w' : World} {v : Value} {n a : Int} (h : WrongR w v n a) (k : Below w.heap.size w w') : WrongR w' v n a := fun W b => h W (k.trans (b.mono k.size))
theorem wrongR_nil (w : World) (a : Int) : WrongR w .nilIface 0 a := fun W _ => wrong_nil 0 a W rfl
theorem wrongR_at {w : World} {b n a : Nat} (hg : HT w) (hn : n ≠ 0) (h : EV w (.fault byteS a (.num n)) (.iface 52 (.pointer (some ⟨b, 0, none⟩)))) : WrongR w (.iface 52 (.pointer (some ⟨b, 0, none⟩))) n a := fun W k => wrong_at b n a W (hg.keep k) hn (h.keep k)
abbrev WrongS (w0 w : World) (v : Value) (n a : Int) : Prop := ∀ W, Below w.heap.size w W → Calls Tryd.prog 19 #[v, .int .i64 n, .int .i64 a] W fun e W' => e = .returned (.bool true) ∧ Below w0.heap.size w0 W'
theorem WrongR.s {w0 w : World} {v : Value} {n a : Int} (k0 : Below w0.heap.size w0 w) (h : WrongR w v n a) : WrongS w0 w v n a := fun W k => (h W k).mono fun e W' ⟨q1, q2⟩ => ⟨q1, (k0.trans (k.mono k0.size)).trans (q2.mono (Nat.le_trans k0.size k.size))⟩
theorem bel_tr {w W W' : World} (k : Below w.heap.size w W) (q : Below W.heap.size W W') : Below w.heap.size w W' := k.trans (q.mono k.size)
theorem end_all (P : Nat) (l : List UInt8) (at_ : Nat) (w : World) (h : Rd w P l at_ .nil) (hl : l.length ≤ 4611686018427387904) (ha : at_ = l.length) :
    Calls Tryd.prog 21 #[.pointer (some ⟨P, 0, none⟩)] w fun e w' => e = .returned .nilIface ∧ Below w.heap.size w w' := by
  have HE := Lib.hid fun (W : World) (k : Below w.heap.size w W) => err_ok P l at_ W (h.only k)
  have HL := Lib.hid (left_any P l at_ .nil w h hl)
  have q3 := fun w => eql_nil_nil (P := Tryd.prog) w (ti := 39) Tryd.underlying39
  have hz : decide ((l.length : Int) - (at_ : Int) > 0) = false := decide_eq_false (by omega)
  have hz2 : ¬ (0 : Int) < (l.length : Int) - (at_ : Int) := by omega
  clear h hl ha
  go_enter Tryd.func21, Tryd.ntmps21
  go_wp2_with (first | ((go_at_call 20); (with_reducible refine (HE.out _ (by first | exact Below.refl _ _ | exact below_dn (Below.refl _ _) _)).mono ?_); rintro e w' ⟨rfl, rfl⟩) | ((go_at_call 18); (with_reducible refine (HL.out).mono ?_); rintro e w1 ⟨rfl, q, rfl⟩))
  go_ret
  exact ⟨rfl, below_dn (Below.refl _ _) q⟩
theorem ends {w : World} {P M : Nat} {A : Option Addr} {c : Nat} {l : List UInt8} {at1 E1 F1 : Nat} (h : Both w P M A c l at1 E1 F1) (hg : HT w) (hl : l.length ≤ 4000) :
    ∃ (ve : Value) (e1 en ea : Int), ((E1 = 0 ∧ at1 < l.length ∧ e1 = 0 ∧ en = 5 ∧ ea = at1) ∨ (E1 = 0 ∧ ¬ at1 < l.length ∧ e1 = 0 ∧ en = 0 ∧ ea = F1) ∨ (E1 ≠ 0 ∧ e1 = E1 ∧ en = E1 ∧ ea = F1)) ∧ WrongS w w ve e1 F1 ∧
      (∀ W, Below w.heap.size w W → Calls Tryd.prog 20 #[.pointer (some ⟨P, 0, none⟩)] W fun e W' => e = .returned ve ∧ Below w.heap.size w W') ∧
      (∀ W, Below w.heap.size w W → Calls Tryd.prog 21 #[.pointer (some ⟨P, 0, none⟩)] W fun e W' => ∃ vn, e = .returned vn ∧ Below w.heap.size w W' ∧ WrongS w W' vn en ea) ∧
      (∀ W, Below w.heap.size w W → Calls Tryd.prog 18 #[.pointer (some ⟨P, 0, none⟩)] W fun e W' => e = .returned (.int .i64 ((l.length : Int) - at1)) ∧ Below w.heap.size w W') := by
  have hLeft : ∀ W, Below w.heap.size w W → Calls Tryd.prog 18 #[.pointer (some ⟨P, 0, none⟩)] W fun e W' => e = .returned (.int .i64 ((l.length : Int) - at1)) ∧ Below w.heap.size w W' :=
    fun W k => (left_any P l at1 _ W (h.keep k).2.1 (by omega)).mono fun e W' ⟨q, n, q2⟩ => ⟨q, q2 ▸ below_dn k n⟩
  have hR := h.2.1
  by_cases hE : E1 = 0
  · subst hE
    rw [erA_nil] at hR
    have hR' : ∀ W, Below w.heap.size w W → Rd W P l at1 .nil := fun W k => by have := (h.keep k).2.1; rwa [erA_nil] at this
    by_cases ha : at1 < l.length
    · exact ⟨.nilIface, 0, 5, at1, .inl ⟨rfl, ha, rfl, rfl, rfl⟩, (wrongR_nil w F1).s (Below.refl _ _), fun W k => (err_ok P l at1 W (hR' W k)).mono fun e W' ⟨q1, q2⟩ => ⟨q1, q2 ▸ k⟩,
        fun W k => (end_long P l at1 W (hR' W k) (by omega) ha).mono fun e W' ⟨⟨b, q1, q2⟩, q3⟩ => ⟨_, q1, bel_tr k q3, WrongR.s (bel_tr k q3) (wrongR_at ((hg.keep k).keep q3) (by decide) q2)⟩, hLeft⟩
    · have hz : at1 = l.length := by have := h.2.2.2.2.1; omega
      refine ⟨.nilIface, 0, 0, F1, .inr (.inl ⟨rfl, ha, rfl, rfl, rfl⟩), (wrongR_nil w F1).s (Below.refl _ _), fun W k => (err_ok P l at1 W (hR' W k)).mono fun e W' ⟨q1, q2⟩ => ⟨q1, q2 ▸ k⟩, fun W k => ?_, hLeft⟩
      exact (end_all P l at1 W (hR' W k) (by omega) hz).mono fun e W' ⟨q1, q2⟩ => ⟨_, q1, bel_tr k q2, WrongR.s (bel_tr k q2) (wrongR_nil W' F1)⟩
  · rw [erA_bad hE] at hR
    obtain ⟨A', c', v, hp, hb, hev, h4⟩ := hR
    obtain ⟨b, v', h1, h2, h3⟩ := id hev
    subst h1
    exact ⟨_, E1, E1, F1, .inr (.inr ⟨hE, rfl, rfl, rfl⟩), (wrongR_at hg hE hev).s (Below.refl _ _), fun W k => (err_at P _ _ _ _ _ _ W (hp.keep k)).mono fun e W' ⟨q1, q2⟩ => ⟨q1, q2 ▸ k⟩,
      fun W k => (end_at P _ _ _ _ _ _ W (hp.keep k)).mono fun e W' ⟨q1, q2⟩ => ⟨_, q1, q2 ▸ k, WrongR.s (q2 ▸ k) (wrongR_at ((hg.keep k).keep (q2 ▸ Below.refl _ _)) hE ((hev.keep k).keep (q2 ▸ Below.refl _ _)))⟩, hLeft⟩
end Go.Proofs.YtmjdlofkjjofcaaDoor

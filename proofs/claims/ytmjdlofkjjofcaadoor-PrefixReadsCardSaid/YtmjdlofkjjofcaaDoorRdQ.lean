/- Two readers of the same bytes, step by step; what the law asks of them. -/
import Derived.Test.YtmjdlofkjjofcaaDoorProg
import Derived.Test.YtmjdlofkjjofcaaDoorKit
import Derived.Test.YtmjdlofkjjofcaaDoorKitb
import Derived.Test.YtmjdlofkjjofcaaDoorBytes
import Derived.Test.YtmjdlofkjjofcaaDoorOnly
import Derived.Test.YtmjdlofkjjofcaaDoorInts
import Derived.Test.YtmjdlofkjjofcaaDoorErr
import Derived.Test.YtmjdlofkjjofcaaDoorFault
import Derived.Test.YtmjdlofkjjofcaaDoorApp
import Derived.Test.YtmjdlofkjjofcaaDoorAppSet
import Derived.Test.YtmjdlofkjjofcaaDoorSlices
import Derived.Test.YtmjdlofkjjofcaaDoorPrefixV
import Derived.Test.YtmjdlofkjjofcaaDoorReader
import Derived.Test.YtmjdlofkjjofcaaDoorReaderU
import Derived.Test.YtmjdlofkjjofcaaDoorReaderM
import Derived.Test.YtmjdlofkjjofcaaDoorRdMore
import Derived.Test.YtmjdlofkjjofcaaDoorRefRd
import Derived.Test.YtmjdlofkjjofcaaDoorRdB
import Derived.Test.YtmjdlofkjjofcaaDoorRdP
import Derived.Test.YtmjdlofkjjofcaaDoorRdR
import Derived.Deep.QuietTactic
import Derived.BigQuiet
namespace Go.Proofs.YtmjdlofkjjofcaaDoor
open Go.RowKit
set_option linter.unusedVariables false
set_option linter.unusedSimpArgs false
section
variable {w w' w1 : World} {P M : Nat} {A : Option Addr} {c : Nat} {l : List UInt8} {at_ E F at1 E1 F1 : Nat} {er : Er}
theorem rm_str (A : Option Addr) (n c : Nat) (a b d : Int) : ∀ s p v, #[Value.slice A n c, .int .i64 a, .int .i64 b, .int .i64 d] ≠ #[.string s, .int .i64 p, v] := by
  intro s p v h
  have := congrArg Array.size h
  simp at this
theorem Rd.past (h : Rd w P l at_ er) (hM : RM w M A c l at1 E F) (k : Only M w w') (hne : P ≠ M) : Rd w' P l at_ er := by
  obtain ⟨A, c, v, h1, h2, h3, h4⟩ := h
  exact ⟨A, c, v, h1.only k hne, h2.only hM.1 (rm_cells _ _ _ _ _ _) k, EV.only hM.1 (rm_str _ _ _ _ _ _) k h3, h4⟩
theorem RM.past (h : RM w M A c l at_ E F) (hR : Rd w P l at1 er) (k : Only P w w') (hne : P ≠ M) : RM w' M A c l at_ E F := by
  obtain ⟨A1, c1, v, h1, _, h3, _⟩ := hR
  refine ⟨h.1.only k (Ne.symm hne), h.2.1.only h1 (rd_cells A1 l.length c1 at1 v ?_).1 k, h.2.2⟩
  rcases h3.val with ⟨_, rfl⟩ | ⟨_, t, a, rfl⟩
  · exact .inl rfl
  · exact .inr ⟨t, a, rfl⟩
/-- The reference's reader, moved, beside other changes. -/
theorem RM.mix (h : RM w M A c l at_ E F) (k : Only M w w') (hp : Pt w' M #[.slice A l.length c, .int .i64 at1, .int .i64 E1, .int .i64 F1] 29) (ha : at1 ≤ l.length) : RM w' M A c l at1 E1 F1 :=
  ⟨hp, h.2.1.only h.1 (rm_cells _ _ _ _ _ _) k, ha, h.2.2.2⟩
/-- Both readers are at one place, with one fault. -/
def Both (w : World) (P M : Nat) (A : Option Addr) (c : Nat) (l : List UInt8) (at_ E F : Nat) : Prop := P ≠ M ∧ Rd w P l at_ (erA E F) ∧ RM w M A c l at_ E F
theorem Both.keep (h : Both w P M A c l at_ E F) (k : Below w.heap.size w w') : Both w' P M A c l at_ E F := ⟨h.1, h.2.1.only k, h.2.2.keep k⟩
/-- One step of both. -/
def Duo (fr : Nat) (xr : Array Value) (fm : Nat) (xm : Array Value) (w : World) (P M : Nat) (A : Option Addr) (c : Nat) (l : List UInt8) (at_ E F : Nat) (v : Value) (at1 E1 F1 : Nat) : Prop :=
  Calls Tryd.prog fr xr w (fun e w1 => e = .returned v ∧ Only P w w1 ∧ Rd w1 P l at1 (erA E1 F1) ∧ RM w1 M A c l at_ E F) ∧
    ∀ w1, Rd w1 P l at1 (erA E1 F1) → RM w1 M A c l at_ E F → Calls Tryd.prog fm xm w1 fun e w2 => e = .returned v ∧ Only M w1 w2 ∧ Both w2 P M A c l at1 E1 F1
theorem duo_of {fr fm : Nat} {xr xm : Array Value} {v : Value} (h : Both w P M A c l at_ E F)
    (h1 : Calls Tryd.prog fr xr w fun e w1 => e = .returned v ∧ Rd w1 P l at1 (erA E1 F1) ∧ Only P w w1)
    (h2 : ∀ w1, RM w1 M A c l at_ E F → Calls Tryd.prog fm xm w1 fun e w2 => e = .returned v ∧ RM w2 M A c l at1 E1 F1 ∧ Only M w1 w2) : Duo fr xr fm xm w P M A c l at_ E F v at1 E1 F1 :=
  ⟨h1.mono fun e w1 ⟨q1, q2, q3⟩ => ⟨q1, q3, q2, h.2.2.past h.2.1 q3 h.1⟩, fun w1 r m => (h2 w1 m).mono fun e w2 ⟨q1, q2, q3⟩ => ⟨q1, q3, h.1, r.past m q3 h.1, q2⟩⟩
theorem duo_err {fr fm : Nat} {xr xm : Array Value} {v : Value} (h : Both w P M A c l at_ E F)
    (h1 : Calls Tryd.prog fr xr w fun e w1 => e = .returned v ∧ w = w1)
    (h2 : ∀ w1, RM w1 M A c l at_ E F → Calls Tryd.prog fm xm w1 fun e w2 => e = .returned v ∧ w1 = w2) : Duo fr xr fm xm w P M A c l at_ E F v at_ E F :=
  duo_of h (h1.mono fun e w1 ⟨q1, q2⟩ => ⟨q1, q2 ▸ h.2.1, q2 ▸ Only.refl _ _⟩) fun w1 m => (h2 w1 m).mono fun e w2 ⟨q1, q2⟩ => ⟨q1, q2 ▸ m, q2 ▸ Only.refl _ _⟩
theorem erA_if (e a f : Nat) : erA e (if e = 0 then f else a) = erA e a := by
  unfold erA
  by_cases h : e = 0
  · rw [if_pos h, if_pos h]
  · rw [if_neg h, if_neg h, if_neg h]
theorem erA_nil (f : Nat) : erA 0 f = .nil := rfl
theorem erA_bad {e : Nat} (h : e ≠ 0) (f : Nat) : erA e f = .fault byteS f (.num e) := if_neg h
theorem nilB_bad {e : Nat} (h : e ≠ 0) (f : Nat) : nilB (erA e f) = false := by rw [erA_bad h]; rfl
theorem duo_upto (most : Nat) (hm : most < 18446744073709551616) (h : Both w P M A c l at_ E F) (hl : l.length ≤ 4611686018427387904) :
    ∃ n at1 E1 F1 : Nat, Duo 14 #[.pointer (some ⟨P, 0, none⟩), .int .u64 most] 15 #[.pointer (some ⟨M, 0, none⟩), .int .u64 most] w P M A c l at_ E F (.int .u64 n) at1 E1 F1 := by
  by_cases hE : E = 0
  · subst hE
    refine ⟨upN most (l.drop at_), at_ + upK most (l.drop at_), upE most (l.drop at_), if upE most (l.drop at_) = 0 then F else at_, duo_of h ?_ ?_⟩
    · rw [erA_if]
      exact upto_any P l at_ most w h.2.1 hl
    · exact fun w1 m => upto_ref M A c l at_ F most w1 m hm
  · exact ⟨0, at_, E, F, duo_err h (upto_err P l at_ (erA E F) most w h.2.1 (nilB_bad hE F)) fun w1 m => upto_err_ref M A c l at_ E F most w1 m hE⟩
theorem duo_uint (h : Both w P M A c l at_ E F) (hl : l.length ≤ 4611686018427387904) :
    ∃ n at1 E1 F1 : Nat, Duo 10 #[.pointer (some ⟨P, 0, none⟩)] 11 #[.pointer (some ⟨M, 0, none⟩)] w P M A c l at_ E F (.int .u64 n) at1 E1 F1 := by
  by_cases hE : E = 0
  · subst hE
    refine ⟨upN mostU (l.drop at_), at_ + upK mostU (l.drop at_), upE mostU (l.drop at_), if upE mostU (l.drop at_) = 0 then F else at_, duo_of h ?_ ?_⟩
    · rw [erA_if]
      obtain ⟨e1, e2, e3⟩ := up_max (l.drop at_)
      rw [e1, e2, e3]
      exact uint_any P l at_ w h.2.1 hl
    · exact fun w1 m => ruint_any M A c l at_ F w1 m
  · exact ⟨0, at_, E, F, duo_err h (uint_err P l at_ (erA E F) w h.2.1 (nilB_bad hE F)) fun w1 m => ruint_err M A c l at_ E F w1 m hE⟩
theorem int_err (P : Nat) (l : List UInt8) (at_ : Nat) (er : Er) (w : World) (h : Rd w P l at_ er) (he : nilB er = false) :
    Calls Tryd.prog 12 #[.pointer (some ⟨P, 0, none⟩)] w fun e w' => e = .returned (.int .i64 0) ∧ w = w' := by
  have HU := Lib.hid (uint_err P l at_ er w h he)
  clear h he
  go_enter Tryd.func12, Tryd.ntmps12
  go_wp2_with (first | ((go_at_call 10); (with_reducible refine (HU.out).mono ?_); rintro e w1 ⟨rfl, rfl⟩) | ((go_at_call 57); (with_reducible refine (open_zero _).mono ?_); rintro e w2 ⟨rfl, rfl⟩))
  go_ret
  exact ⟨rfl, rfl⟩
theorem duo_int (h : Both w P M A c l at_ E F) (hl : l.length ≤ 4611686018427387904) :
    ∃ (n : Int) (at1 E1 F1 : Nat), Duo 12 #[.pointer (some ⟨P, 0, none⟩)] 13 #[.pointer (some ⟨M, 0, none⟩)] w P M A c l at_ E F (.int .i64 n) at1 E1 F1 := by
  by_cases hE : E = 0
  · subst hE
    refine ⟨openI (upN mostU (l.drop at_)), at_ + upK mostU (l.drop at_), upE mostU (l.drop at_), if upE mostU (l.drop at_) = 0 then F else at_, duo_of h ?_ ?_⟩
    · rw [erA_if]
      obtain ⟨e1, e2, e3⟩ := up_max (l.drop at_)
      rw [e1, e2, e3]
      exact int_any P l at_ w h.2.1 hl
    · exact fun w1 m => rint_any M A c l at_ F w1 m
  · exact ⟨0, at_, E, F, duo_err h (int_err P l at_ (erA E F) w h.2.1 (nilB_bad hE F)) fun w1 m => rint_err M A c l at_ E F w1 m hE⟩
/-- Both give so many bytes. -/
theorem duo_bytes (n : Int) (h : Both w P M A c l at_ E F) (hl : l.length ≤ 4000) :
    ∃ (X : List UInt8) (at1 E1 F1 : Nat), X.length ≤ 4000 ∧ at1 ≤ l.length ∧ Calls Tryd.prog 16 #[.pointer (some ⟨P, 0, none⟩), .int .i64 n] w (BytR P l at1 (erA E1 F1) X w) ∧
      ∀ w1, RM w1 M A c l at_ E F → Calls Tryd.prog 17 #[.pointer (some ⟨M, 0, none⟩), .int .i64 n] w1 fun e w2 => (∃ A' c', e = .returned (.slice A' X.length c') ∧ Bs w2 w2.heap.size A' X) ∧ RM w2 M A c l at1 E1 F1 ∧ Only M w1 w2 := by
  have hat := h.2.2.2.2.1
  by_cases hE : E = 0
  · subst hE
    by_cases hn : n ≤ 0
    · refine ⟨[], at_, 0, F, Nat.zero_le _, hat, ?_, fun w1 m => (rbytes_err M A c l at_ 0 F n w1 m (.inr hn)).mono fun e w2 ⟨q1, q2⟩ => ⟨⟨none, 0, q1, Or.inl rfl⟩, q2 ▸ m, q2 ▸ Only.refl _ _⟩⟩
      have hk : maxI n 0 = ((0 : Nat) : Int) := by unfold maxI; split <;> omega
      have := pbytes_ok P l at_ 0 n hk w h.2.1 (by omega) hat
      rw [erA_nil]
      simpa using this
    · obtain ⟨k, rfl⟩ : ∃ k : Nat, n = k := ⟨n.toNat, by omega⟩
      have hmx : maxI (k : Int) 0 = k := by unfold maxI; split <;> omega
      by_cases hk : at_ + k ≤ l.length
      · refine ⟨(l.drop at_).take k, at_ + k, 0, F, ?_, hk, pbytes_ok P l at_ k k hmx w h.2.1 (by omega) hk, fun w1 m => (rbytes_ok M A c l at_ F k w1 m (by omega) hk).mono fun e w2 ⟨⟨A', c', q1, q2⟩, q3⟩ => ⟨⟨A', c', ?_, q2⟩, q3⟩⟩
        · rw [List.length_take, List.length_drop]; omega
        · rw [q1, List.length_take, List.length_drop, Nat.min_eq_left (by omega)]
      · exact ⟨[], at_, 2, at_, Nat.zero_le _, hat, pbytes_cut P l at_ k w h.2.1 (by omega) (by rw [hmx]; omega), fun w1 m => (rbytes_cut M A c l at_ F k w1 m (by omega) (by omega)).mono fun e w2 ⟨q1, q2⟩ => ⟨⟨none, 0, q1, Or.inl rfl⟩, q2⟩⟩
  · exact ⟨[], at_, E, F, Nat.zero_le _, hat, pbytes_err P l at_ (erA E F) n w h.2.1 (nilB_bad hE F), fun w1 m => (rbytes_err M A c l at_ E F n w1 m (.inl hE)).mono fun e w2 ⟨q1, q2⟩ => ⟨⟨none, 0, q1, Or.inl rfl⟩, q2 ▸ m, q2 ▸ Only.refl _ _⟩⟩
end
/-! What the reader tells. -/
theorem err_at (P : Nat) (A : Option Addr) (n c : Nat) (a : Int) (t : TypeId) (v : Value) (w : World) (h : Pt w P #[.slice A n c, .int .i64 a, .iface t v] 97) :
    Calls Tryd.prog 20 #[.pointer (some ⟨P, 0, none⟩)] w fun e w' => e = .returned (.iface t v) ∧ w = w' := by
  have c1 := h.cell
  clear h
  go_enter Tryd.func20, Tryd.ntmps20
  go_wp2_with fail
  go_ret
  exact ⟨rfl, rfl⟩
theorem end_at (P : Nat) (A : Option Addr) (n c : Nat) (a : Int) (t : TypeId) (v : Value) (w : World) (h : Pt w P #[.slice A n c, .int .i64 a, .iface t v] 97) :
    Calls Tryd.prog 21 #[.pointer (some ⟨P, 0, none⟩)] w fun e w' => e = .returned (.iface t v) ∧ w = w' := by
  have HE := Lib.hid (err_at P A n c a t v w h)
  have q3 := fun t a w => eql_iface_nil (P := Tryd.prog) w (ti := 39) (ta := t) a Tryd.underlying39
  clear h
  go_enter Tryd.func21, Tryd.ntmps21
  go_wp2_with ((go_at_call 20); (with_reducible refine (HE.out).mono ?_); rintro e w' ⟨rfl, rfl⟩)
  go_ret
  exact ⟨rfl, rfl⟩
theorem end_long (P : Nat) (l : List UInt8) (at_ : Nat) (w : World) (h : Rd w P l at_ .nil) (hl : l.length ≤ 4611686018427387904) (ha : at_ < l.length) :
    Calls Tryd.prog 21 #[.pointer (some ⟨P, 0, none⟩)] w fun e w' => (∃ b, e = .returned (.iface 52 (.pointer (some ⟨b, 0, none⟩))) ∧ EV w' (.fault byteS at_ (.num 5)) (.iface 52 (.pointer (some ⟨b, 0, none⟩)))) ∧ Below w.heap.size w w' := by
  have HE := Lib.hid (err_ok P l at_ w h)
  have HL := Lib.hid (left_any P l at_ .nil w h hl)
  have q3 := fun w => eql_nil_nil (P := Tryd.prog) w (ti := 39) Tryd.underlying39
  have hz : decide ((l.length : Int) - (at_ : Int) > 0) = true := decide_eq_true (by omega)
  have hz2 : (0 : Int) < (l.length : Int) - (at_ : Int) := by omega
  obtain ⟨A, c, v, hp, _, _, _⟩ := h
  have HP := Lib.hid hp
  clear hp hl ha
  go_enter Tryd.func21, Tryd.ntmps21
  go_wp2_with (first | ((go_at_call 20); (with_reducible refine (HE.out).mono ?_); rintro e w' ⟨rfl, rfl⟩) | ((go_at_call 18); (with_reducible refine (HL.out).mono ?_); rintro e w1 ⟨rfl, q, rfl⟩; have c1 := (HP.out.keep (below_dn (Below.refl _ _) q)).cell) | ((go_at_call 30); (with_reducible refine (at_num byteS at_ 5 _).mono ?_); rintro e w2 ⟨⟨b, rfl, ev⟩, b2⟩; have EV2 := Lib.hid ev; have B2 := Lib.hid b2; clear ev b2))
  go_ret
  exact ⟨⟨b, rfl, EV2.out⟩, (below_dn (Below.refl _ _) q).trans B2.out⟩
end Go.Proofs.YtmjdlofkjjofcaaDoor

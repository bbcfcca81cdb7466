/- Contracts of package prefix: the reader. -/
import Derived.Test.YtmjdlofkjjofcaaDoorProg
import Derived.Test.YtmjdlofkjjofcaaDoorKit
import Derived.Test.YtmjdlofkjjofcaaDoorKitb
import Derived.Test.YtmjdlofkjjofcaaDoorBytes
import Derived.Test.YtmjdlofkjjofcaaDoorOnly
import Derived.Test.YtmjdlofkjjofcaaDoorErr
import Derived.Test.YtmjdlofkjjofcaaDoorFault
import Derived.Test.YtmjdlofkjjofcaaDoorApp
import Derived.Test.YtmjdlofkjjofcaaDoorSlices
import Derived.Test.YtmjdlofkjjofcaaDoorShelf
import Derived.Test.YtmjdlofkjjofcaaDoorPrefixV
import Derived.Test.YtmjdlofkjjofcaaDoorPrefix
import Derived.Laws.BitsAllLaws
import Derived.Deep.QuietTactic
import Derived.BigQuiet
import Derived.Deep.RegionHeld3
namespace Go.Proofs.YtmjdlofkjjofcaaDoor
open Go.RowKit
set_option linter.unusedVariables false
set_option linter.unusedSimpArgs false
attribute [local go_sem] max2_int min2_int max_two min_two

abbrev byteS : ByteArray := ⟨#[98, 121, 116, 101]⟩
/-- A reader of the bytes l: how far it is, and what was wrong. -/
def Rd (w : World) (P : Nat) (l : List UInt8) (at_ : Nat) (er : Er) : Prop :=
  ∃ A c v, Pt w P #[.slice A l.length c, .int .i64 at_, v] 97 ∧ Bs w w.heap.size A l ∧ EV w er v ∧ at_ ≤ l.length ∧ l.length ≤ c ∧ c ≤ 9223372036854775807

theorem EV.val {w : World} : ∀ {e : Er} {v : Value}, EV w e v → (e = .nil ∧ v = .nilIface) ∨ (nilB e = false ∧ ∃ t a, v = .iface t a)
  | .nil, _, h => .inl ⟨rfl, h⟩
  | .num _, _, h => .inr ⟨rfl, _, _, h⟩
  | .fault _ _ _, _, ⟨_, _, h, _⟩ => .inr ⟨rfl, _, _, h⟩
theorem EV.only {P : Nat} {w w' : World} {cs : Array Value} {T : TypeId} (hp : Pt w P cs T) (hcs : ∀ s p v, cs ≠ #[.string s, .int .i64 p, v]) (k : Only P w w') : ∀ {e : Er} {v : Value}, EV w e v → EV w' e v
  | .nil, _, h => h
  | .num _, _, h => h
  | .fault s p e, _, ⟨b, v', h1, h2, h3⟩ => ⟨b, v', h1, h2.only k (fun e => by
      subst e
      have := hp.symm.trans h2
      injection this with this
      injection this with this
      exact hcs _ _ _ this), EV.only hp hcs k h3⟩
theorem rd_cells (A : Option Addr) (n c : Nat) (p : Int) (v : Value) (hv : v = .nilIface ∨ ∃ t a, v = .iface t a) : (∀ (i : Nat) m, (#[Value.slice A n c, .int .i64 p, v])[i]? ≠ some (.int .u8 m)) ∧ (∀ s p' v', #[Value.slice A n c, .int .i64 p, v] ≠ #[.string s, .int .i64 p', v']) := by
  refine ⟨fun i m h => ?_, fun s p' v' h => by simp at h⟩
  match i with
  | 0 => cases h
  | 1 => cases h
  | 2 =>
    rcases hv with rfl | ⟨t, a, rfl⟩ <;> cases h
  | i + 3 => simp at h
theorem Rd.only {w w' : World} {P : Nat} {l : List UInt8} {at_ : Nat} {er : Er} (h : Rd w P l at_ er) (k : Below w.heap.size w w') : Rd w' P l at_ er := by
  obtain ⟨A, c, v, h1, h2, h3, h4⟩ := h
  exact ⟨A, c, v, h1.keep k, bs_at h2 k, h3.keep k, h4⟩

theorem at_num (s : ByteArray) (p n : Int) (w : World) :
    Calls Tryd.prog 30 #[.string s, .int .i64 p, .iface 49 (.int .i64 n)] w fun e w' => (∃ b, e = .returned (.iface 52 (.pointer (some ⟨b, 0, none⟩))) ∧ EV w' (.fault s p (.num n)) (.iface 52 (.pointer (some ⟨b, 0, none⟩)))) ∧ Below w.heap.size w w' := by
  have h1 := fun w => eql_iface_nil (P := Tryd.prog) w (ti := 39) (ta := 49) (.int .i64 n) Tryd.underlying39
  go_enter Tryd.func30, Tryd.ntmps30
  go_wp2
  go_ret
  refine ⟨⟨w.heap.size, rfl, w.heap.size, _, rfl, Pt.new _ _ _, rfl⟩, ?_⟩
  (repeat' (first | (with_reducible exact Below.refl _ _) | (with_reducible assumption) | (with_reducible refine Below.setCell ?_ ?_ _) | (with_reducible refine Below.alloc ?_ ?_ _) | (with_reducible refine below_dn ?_ _) | (with_reducible refine below_call ?_ ?_ (by assumption)) | (with_reducible refine Below.drew ?_) | go_size))

/-- Nothing was wrong yet: now it is, here. -/
theorem fail_any (P : Nat) (l : List UInt8) (at_ : Nat) (n : Int) (w : World) (h : Rd w P l at_ .nil) :
    Calls Tryd.prog 53 #[.pointer (some ⟨P, 0, none⟩), .int .i64 n] w fun e w' => e = .returned (.tuple #[]) ∧ Rd w' P l at_ (.fault byteS at_ (.num n)) ∧ Only P w w' := by
  obtain ⟨A, c, v, hp, hb, rfl, h4⟩ := h
  have hv := fun w => eql_nil_nil (P := Tryd.prog) w (ti := 39) Tryd.underlying39
  have c1 := hp.cell
  have H4 := Lib.hid h4
  have HB := Lib.hid hb
  have HP := Lib.hid hp
  clear hp hb h4
  go_enter Tryd.func53, Tryd.ntmps53
  go_wp2_with ((go_at_call 30); (with_reducible refine (at_num byteS at_ n _).mono ?_); rintro e w1 ⟨⟨v1, rfl, hv1⟩, b1⟩; have hp1 := HP.out.keep b1; have hf1 := hp1.frozen; have hc1 := hp1.cell; have HV1 := Lib.hid hv1; have B1 := Lib.hid b1; have HP1 := Lib.hid hp1; clear hv1 b1 hp1)
  go_end0
  refine ⟨rfl, ⟨A, c, .iface 52 (.pointer (some ⟨v1, 0, none⟩)), ?_, ?_, ?_, H4.out⟩, (Only.of B1.out).setCell 2 _⟩
  · have := HP1.out.set 2 (.iface 52 (.pointer (some ⟨v1, 0, none⟩)))
    simpa using this
  · exact HB.out.only HP.out (rd_cells A l.length c at_ _ (.inl rfl)).1 ((Only.of B1.out).setCell 2 _)
  · exact EV.only HP1.out (rd_cells A l.length c at_ _ (.inl rfl)).2 ((Only.refl P _).setCell 2 _) HV1.out

theorem take_err (P : Nat) (l : List UInt8) (at_ : Nat) (er : Er) (n : Int) (w : World) (h : Rd w P l at_ er) (he : nilB er = false) :
    Calls Tryd.prog 55 #[.pointer (some ⟨P, 0, none⟩), .int .i64 n] w fun e w' => e = .returned (.slice none 0 0) ∧ w = w' := by
  obtain ⟨A, c, v, hp, hb, hev, h4⟩ := h
  rcases hev.val with ⟨rfl, _⟩ | ⟨_, t, a, rfl⟩
  · cases he
  have hv := fun w => neq_iface_nil (P := Tryd.prog) w (ti := 39) (ta := t) a Tryd.underlying39
  have c1 := hp.cell
  clear hp hb h4 hev he
  go_enter Tryd.func55, Tryd.ntmps55
  go_wp2_with fail
  go_ret
  exact ⟨rfl, rfl⟩

set_option maxHeartbeats 1000000 in
theorem take_cut (P : Nat) (l : List UInt8) (at_ : Nat) (n : Int) (w : World) (h : Rd w P l at_ .nil) (hl : l.length ≤ 4611686018427387904) (hn : (l.length : Int) - at_ < n) :
    Calls Tryd.prog 55 #[.pointer (some ⟨P, 0, none⟩), .int .i64 n] w fun e w' => e = .returned (.slice none 0 0) ∧ Rd w' P l at_ (.fault byteS at_ (.num 2)) ∧ Only P w w' := by
  have H := Lib.hid h
  obtain ⟨A, c, v, hp, hb, rfl, h4⟩ := h
  have hv := fun w => neq_nil_nil (P := Tryd.prog) w (ti := 39) Tryd.underlying39
  have c1 := hp.cell
  have hi : IntKind.i64.wrap ((l.length : Int) - at_) = (l.length : Int) - at_ := by rw [i64_w]; exact w64 (by omega) (by omega)
  have hd : decide (n > (l.length : Int) - at_) = true := decide_eq_true (by omega)
  have hd' : decide ((l.length : Int) - at_ < n) = true := decide_eq_true (by omega)
  clear hp hb h4 hl hn
  go_enter Tryd.func55, Tryd.ntmps55
  go_wp2_with fail
  go_quiet (fail)
  have O1 : Only P w (w.drewN nq) := (Only.refl P w).drewN nq
  have H1 := Lib.hid (H.out.only (below_dn (Below.refl _ _) nq))
  have HO := Lib.hid O1
  clear O1 c1 H
  generalize w.drewN nq = w1 at *
  go_wp2_with ((go_at_call 53); (with_reducible refine (fail_any P l at_ 2 _ H1.out).mono ?_); rintro e w2 ⟨rfl, r2, o2⟩; have R2 := Lib.hid r2; have O2 := Lib.hid o2; clear r2 o2)
  go_ret
  exact ⟨rfl, R2.out, HO.out.trans O2.out⟩
set_option maxHeartbeats 1000000 in
theorem take_ok (P : Nat) (l : List UInt8) (at_ k : Nat) (w : World) (h : Rd w P l at_ .nil) (hl : l.length ≤ 4611686018427387904) (hn : at_ + k ≤ l.length) :
    Calls Tryd.prog 55 #[.pointer (some ⟨P, 0, none⟩), .int .i64 k] w fun e w' => (∃ A', e = .returned (.slice A' k k) ∧ Bs w' w'.heap.size A' ((l.drop at_).take k)) ∧ Rd w' P l (at_ + k) .nil ∧ Only P w w' := by
  have H := Lib.hid h
  obtain ⟨A, c, v, hp, hb, rfl, h4⟩ := h
  have hv := fun w => neq_nil_nil (P := Tryd.prog) w (ti := 39) Tryd.underlying39
  have c1 := hp.cell
  have hi : IntKind.i64.wrap ((l.length : Int) - at_) = (l.length : Int) - at_ := by rw [i64_w]; exact w64 (by omega) (by omega)
  have hd : decide ((k : Int) > (l.length : Int) - at_) = false := decide_eq_false (by omega)
  have hd' : decide ((l.length : Int) - at_ < (k : Int)) = false := decide_eq_false (by omega)
  have HP := Lib.hid hp
  have HB := Lib.hid hb
  have H4 := Lib.hid h4
  clear hp hb h4
  go_enter Tryd.func55, Tryd.ntmps55
  go_wp2_with fail
  go_quiet (fail)
  replace HP : Hid (Pt (w.drewN nq) P _ _) := Lib.hid (HP.out.keep (below_dn (Below.refl _ _) nq))
  replace HB := Lib.hid (bs_at HB.out (below_dn (Below.refl _ _) nq))
  have HO : Hid (Only P w (w.drewN nq)) := Lib.hid ((Only.refl P w).drewN nq)
  clear c1 H
  generalize w.drewN nq = w1 at *
  have c1 := HP.out.cell
  have f1 := HP.out.frozen
  have hw := w64 (n := (at_ : Int) + k) (by omega) (by omega)
  go_wp2_with fail
  have hs1 : IntKind.i64.wrap ((at_ : Int) + k - k) = at_ := by rw [i64_w]; exact (by rw [w64 (by omega) (by omega)]; omega)
  have hs2 : IntKind.i64.wrap (at_ : Int) = at_ := by rw [i64_w]; exact w64 (by omega) (by omega)
  have PT := Lib.hid (HP.out.set 1 (Value.int IntKind.i64 ((at_ : Int) + k)))
  have O2 := Lib.hid (HO.out.setCell 1 (Value.int IntKind.i64 ((at_ : Int) + k)))
  have B2 := Lib.hid (HB.out.only HP.out (rd_cells A l.length c at_ _ (.inl rfl)).1 ((Only.refl P _).setCell 1 (Value.int IntKind.i64 ((at_ : Int) + k))))
  clear c1 f1 HP HB HO
  generalize w1.setCell ⟨P, 1, none⟩ (Value.int IntKind.i64 ((at_ : Int) + k)) = w2 at *
  have c2 := PT.out.cell
  have i1 : (0 : Int) ≤ at_ := by omega
  have i2 : (at_ : Int) ≤ (at_ : Int) + k := by omega
  have i3 : (at_ : Int) + k ≤ c := by have := H4.out; omega
  have i4 : (0 : Int) ≤ (at_ : Int) + k := by omega
  have i5 : ((at_ : Int) + k).toNat = at_ + k := by omega
  have hR : Rd w2 P l (at_ + k) .nil := ⟨A, c, .nilIface, by simpa using PT.out, B2.out, rfl, hn, H4.out.2⟩
  have HR := Lib.hid hR
  have HN := Lib.hid hn
  clear hR hn
  by_cases hk : k = 0
  · subst hk
    go_quiet (fail)
    go_wp2_with fail
    go_ret
    exact ⟨⟨A, rfl, Or.inl (by simp)⟩, HR.out.only (below_dn (Below.refl _ _) _), O2.out.drewN _⟩
  · have hk1 : ¬ (at_ + k = at_) := by omega
    go_quiet (fail)
    go_wp2_with fail
    go_ret
    refine ⟨⟨_, rfl, ?_⟩, HR.out.only (below_dn (Below.refl _ _) _), O2.out.drewN _⟩
    have h1 := (bs_at B2.out (below_dn (Below.refl _ _) nq)).drop (k := at_) H4.out.2.1
    rw [if_neg (by have := HN.out; have := H4.out.2.1; omega)] at h1
    exact h1.take k
end Go.Proofs.YtmjdlofkjjofcaaDoor

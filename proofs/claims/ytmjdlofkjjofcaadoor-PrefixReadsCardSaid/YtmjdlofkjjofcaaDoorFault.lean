/- Errors as package fault makes them: what they are, and errors.Is of them. -/
import Derived.Test.YtmjdlofkjjofcaaDoorProg
import Derived.Test.YtmjdlofkjjofcaaDoorKit
import Derived.Test.YtmjdlofkjjofcaaDoorErr
import Derived.Handy
import Derived.Deep.LoopGhost
namespace Go.Proofs.YtmjdlofkjjofcaaDoor
open Go.RowKit
set_option linter.unusedVariables false
set_option linter.unusedSimpArgs false

theorem of_zero (w : World) : Calls Tryd.prog 29 #[.int .i64 0] w fun e w' => e = .returned .nilIface ∧ w = w' := by
  go_enter Tryd.func29, Tryd.ntmps29
  go_wp2
  go_ret
  exact ⟨rfl, rfl⟩
theorem of_num (n : Int) (w : World) (h : (n == 0) = false) : Calls Tryd.prog 29 #[.int .i64 n] w fun e w' => e = .returned (.iface 49 (.int .i64 n)) ∧ w = w' := by
  go_enter Tryd.func29, Tryd.ntmps29
  go_wp2
  go_ret
  exact ⟨rfl, rfl⟩
theorem info_errno : ∃ i, Tryd.prog.info? 49 = some i ∧ i.comparable = true := by
  have h : (Tryd.prog.info? 49).map (fun i => i.comparable) = some true := by kernel_rfl
  obtain ⟨i, h1, h2⟩ := Option.map_eq_some_iff.1 h
  exact ⟨i, h1, h2⟩
theorem eql_errno (m n : Int) (w : World) : (binOp .eql 39 (.iface 49 (.int .i64 m)) (.iface 49 (.int .i64 n))).run Tryd.prog w = .ok (.bool (m == n)) w := by
  obtain ⟨i, h1, h2⟩ := info_errno
  exact eql_iface_int w m n Tryd.underlying39 Tryd.underlying49 h1 h2

/-- An error: none, a number, or a fault about one. -/
inductive Er where
  | nil
  | num (n : Int)
  | fault (what : ByteArray) (place : Int) (e : Er)

def EV (W : World) : Er → Value → Prop
  | .nil, v => v = .nilIface
  | .num n, v => v = .iface 49 (.int .i64 n)
  | .fault s p e, v => ∃ b v', v = .iface 52 (.pointer (some ⟨b, 0, none⟩)) ∧ Pt W b #[.string s, .int .i64 p, v'] 56 ∧ EV W e v'
theorem EV.keep {W W' : World} : ∀ {e : Er} {v : Value}, EV W e v → Below W.heap.size W W' → EV W' e v
  | .nil, _, h, _ => h
  | .num _, _, h, _ => h
  | .fault _ _ _, _, ⟨b, v', h1, h2, h3⟩, hb => ⟨b, v', h1, h2.keep hb, EV.keep h3 hb⟩
def isE : Er → Int → Bool
  | .nil, _ => false
  | .num m, n => m == n
  | .fault _ _ e, n => isE e n
def depthE : Er → Nat
  | .fault _ _ e => depthE e + 1
  | _ => 0

theorem unwrap_any (b : Nat) (s : ByteArray) (p : Int) (v : Value) (w : World) (hp : Pt w b #[.string s, .int .i64 p, v] 56) :
    Calls Tryd.prog 31 #[.pointer (some ⟨b, 0, none⟩)] w fun e w' => e = .returned v ∧ w = w' := by
  have c := hp.cell
  go_enter Tryd.func31, Tryd.ntmps31
  go_wp2
  go_ret
  exact ⟨rfl, rfl⟩

theorem ta_is_num (n : Int) (w : World) : (Instr.typeAssert (.iface 49 (.int .i64 n)) 39 162 true).run Tryd.prog w = .ok (.tuple #[.nilIface, .bool false]) w := by
  have h : (Tryd.prog.info? 49).map (fun i => (#[("Is", 164)].toList.filter fun (x : String × TypeId) => !i.methods.any fun m => m.name == x.1 && m.sig == x.2).isEmpty) = some false := by kernel_rfl
  obtain ⟨i, h1, h2⟩ := Option.map_eq_some_iff.1 h
  exact assert_fails w Tryd.underlying162 h1 h2 (fun _ => by kernel_rfl)
theorem ta_un_num (n : Int) (w : World) : (Instr.typeAssert (.iface 49 (.int .i64 n)) 39 154 true).run Tryd.prog w = .ok (.tuple #[.nilIface, .bool false]) w := by
  have h : (Tryd.prog.info? 49).map (fun i => (#[("Unwrap", 40)].toList.filter fun (x : String × TypeId) => !i.methods.any fun m => m.name == x.1 && m.sig == x.2).isEmpty) = some false := by kernel_rfl
  obtain ⟨i, h1, h2⟩ := Option.map_eq_some_iff.1 h
  exact assert_fails w Tryd.underlying154 h1 h2 (fun _ => by kernel_rfl)
theorem ta_uns_num (n : Int) (w : World) : (Instr.typeAssert (.iface 49 (.int .i64 n)) 39 155 true).run Tryd.prog w = .ok (.tuple #[.nilIface, .bool false]) w := by
  have h : (Tryd.prog.info? 49).map (fun i => (#[("Unwrap", 156)].toList.filter fun (x : String × TypeId) => !i.methods.any fun m => m.name == x.1 && m.sig == x.2).isEmpty) = some false := by kernel_rfl
  obtain ⟨i, h1, h2⟩ := Option.map_eq_some_iff.1 h
  exact assert_fails w Tryd.underlying155 h1 h2 (fun _ => by kernel_rfl)
theorem ta_is_fault (a : Value) (w : World) : (Instr.typeAssert (.iface 52 a) 39 162 true).run Tryd.prog w = .ok (.tuple #[.nilIface, .bool false]) w := by
  have h : (Tryd.prog.info? 52).map (fun i => (#[("Is", 164)].toList.filter fun (x : String × TypeId) => !i.methods.any fun m => m.name == x.1 && m.sig == x.2).isEmpty) = some false := by kernel_rfl
  obtain ⟨i, h1, h2⟩ := Option.map_eq_some_iff.1 h
  exact assert_fails w Tryd.underlying162 h1 h2 (fun _ => by kernel_rfl)
theorem ta_un_fault (a : Value) (w : World) : (Instr.typeAssert (.iface 52 a) 39 154 true).run Tryd.prog w = .ok (.tuple #[.iface 52 a, .bool true]) w := by kernel_rfl

theorem erris_any (e0 : Er) (v0 : Value) (n : Int) (w : World) (h0 : EV w e0 v0) (hnn : ¬ e0 = .nil) :
    Calls Tryd.prog 73 #[v0, .iface 49 (.int .i64 n), .bool true] w fun e w' => e = .returned (.bool (isE e0 n)) ∧ w = w' := by
  have q := eql_errno
  have q3 : ∀ t a w, (binOp .eql 39 (.iface t a) .nilIface).run Tryd.prog w = .ok (.bool false) w := fun t a w => eql_iface_nil w a Tryd.underlying39
  have q5 : ∀ a m w, (binOp .eql 39 (.iface 52 a) (.iface 49 (.int .i64 m))).run Tryd.prog w = .ok (.bool false) w := fun a m w => eql_iface_other w _ _ Tryd.underlying39 (by decide)
  have q6 := fun w => eql_nil_nil (P := Tryd.prog) w Tryd.underlying39
  have r1 := ta_is_num
  have r2 := ta_un_num
  have r3 := ta_uns_num
  have r4 := ta_is_fault
  have r5 := ta_un_fault
  go_enter Tryd.func73, Tryd.ntmps73
  go_wp2_with fail
  go_loopg [0] (depthE e0) (fun k v wr => ∃ e', k = depthE e' ∧ EV w e' v ∧ isE e' n = isE e0 n ∧ ¬ e' = .nil ∧ wr = w)
  case atStart => exact ⟨e0, rfl, h0, rfl, hnn, rfl⟩
  case round =>
    obtain ⟨e', hk, hv, hi, hne, rfl⟩ := hrel
    cases e' with
    | nil => exact (hne rfl).elim
    | num m =>
      cases hv
      have hi' : isE e0 n = (m == n) := hi.symm
      cases h : (m == n)
      · go_wp2_with fail
        go_ret
        exact ⟨ret_bool (by rw [hi', h]), rfl⟩
      · go_wp2_with fail
        go_ret
        exact ⟨ret_bool (by rw [hi', h]), rfl⟩
    | fault s p e1 =>
      obtain ⟨b, v', rfl, hp, hv'⟩ := hv
      have hi' : isE e0 n = isE e1 n := hi.symm
      cases e1 with
      | nil =>
        cases hv'
        go_wp2_with (go_at_call 31; refine (unwrap_any _ _ _ _ _ hp).mono ?_; rintro e w' ⟨rfl, rfl⟩)
        go_ret
        exact ⟨ret_bool (by rw [hi']; rfl), rfl⟩
      | num m =>
        cases hv'
        go_wp2_with (go_at_call 31; refine (unwrap_any _ _ _ _ _ hp).mono ?_; rintro e w' ⟨rfl, rfl⟩)
        go_roundg 0
        case measure => rw [hk]; simp [depthE]
        case rel => exact ⟨.num m, rfl, rfl, hi, by simp, rfl⟩
      | fault s2 p2 e2 =>
        obtain ⟨b2, v2, rfl, hp2, hv2⟩ := hv'
        go_wp2_with (go_at_call 31; refine (unwrap_any _ _ _ _ _ hp).mono ?_; rintro e w' ⟨rfl, rfl⟩)
        go_roundg (depthE e2 + 1)
        case measure => rw [hk]; simp [depthE]
        case rel => exact ⟨.fault s2 p2 e2, rfl, ⟨b2, v2, rfl, hp2, hv2⟩, hi, by simp, rfl⟩

/-- errors.Is of such an error and a number. -/
theorem errorsIs_any (e0 : Er) (v0 : Value) (n : Int) (w : World) (h0 : EV w e0 v0) :
    Calls Tryd.prog 36 #[v0, .iface 49 (.int .i64 n)] w fun e w' => e = .returned (.bool (isE e0 n)) ∧ w = w' := by
  have q3 : ∀ t a w, (binOp .eql 39 (.iface t a) .nilIface).run Tryd.prog w = .ok (.bool false) w := fun t a w => eql_iface_nil w a Tryd.underlying39
  have q6 := fun w => eql_nil_nil (P := Tryd.prog) w Tryd.underlying39
  have q7 : ∀ t a w, (binOp .eql 39 .nilIface (.iface t a)).run Tryd.prog w = .ok (.bool false) w := fun t a w => eql_nil_iface w a Tryd.underlying39
  have q2 : ∀ n w, (callFunc 72 #[.iface 49 (.int .i64 n)]).run Tryd.prog w = .ok (.value (.iface 147 (.agg #[typeHandle Tryd.prog 49]))) w := fun _ _ => by kernel_rfl
  have q4 : ∀ w, (callFunc 172 #[.agg #[typeHandle Tryd.prog 49]]).run Tryd.prog w = .ok (.value (.bool true)) w := fun _ => by kernel_rfl
  cases e0 with
  | nil =>
    cases h0
    go_enter Tryd.func36, Tryd.ntmps36
    go_wp2_with fail
    go_ret
    exact ⟨rfl, rfl⟩
  | num m =>
    have K := Lib.hid fun w => erris_any (.num m) _ n w rfl (by simp)
    cases h0
    go_enter Tryd.func36, Tryd.ntmps36
    go_wp2_with (go_at_call 73; refine (K.out _).mono ?_; rintro e w' ⟨rfl, rfl⟩)
    go_ret
    exact ⟨rfl, rfl⟩
  | fault s p e1 =>
    have K := Lib.hid (erris_any (.fault s p e1) _ n w h0 (by simp))
    obtain ⟨b, v', rfl, hp, hv'⟩ := h0
    go_enter Tryd.func36, Tryd.ntmps36
    go_wp2_with (go_at_call 73; refine K.out.mono ?_; rintro e w' ⟨rfl, rfl⟩)
    go_ret
    exact ⟨rfl, rfl⟩

def nilB : Er → Bool
  | .nil => true
  | _ => false
def isOne (e : Er) (n : Int) : Bool := (!(n == 0) && isE e n) || (n == 0 && nilB e)
def isB (e : Er) (l : List Int) : Bool := l.any (isOne e)

theorem any_take (p : Int → Bool) (l : List Int) (k : Nat) (h : ∀ j, j < k → p (l.getD j 0) = false) (hk : k ≤ l.length) : (l.take k).any p = false := by
  rw [List.any_eq_false]
  intro x hx
  obtain ⟨j, hj, rfl⟩ := List.getElem_of_mem hx
  have hj' : j < k := by simp at hj; omega
  have := h j hj'
  rw [List.getD_eq_getElem?_getD, List.getElem?_eq_getElem (by omega)] at this
  simpa using this

/-- fault.Is: is the error one of some numbers? -/
theorem is_any (e0 : Er) (v0 : Value) (ns : List Int) (b k : Nat) (w : World) (h0 : EV w e0 v0) (hk : ns.length = k) (hk' : k ≤ 1000000) (hc : ∀ i, i < k → w.cell? ⟨b, i, none⟩ = some (.int .i64 (ns.getD i 0))) :
    Calls Tryd.prog 37 #[v0, .slice (some ⟨b, 0, none⟩) k k] w fun e w' => e = .returned (.bool (isB e0 ns)) ∧ w = w' := by
  have q3 : ∀ t a w, (binOp .eql 39 (.iface t a) .nilIface).run Tryd.prog w = .ok (.bool false) w := fun t a w => eql_iface_nil w a Tryd.underlying39
  have q6 := fun w => eql_nil_nil (P := Tryd.prog) w Tryd.underlying39
  have K := Lib.hid fun n => errorsIs_any e0 v0 n w h0
  have HC := Lib.hid hc
  have HK := Lib.hid hk'
  clear hc
  go_enter Tryd.func37, Tryd.ntmps37
  go_wp2
  go_loop [9] (fun i => ∃ j : Nat, j ≤ k ∧ i = .int .i64 j ∧ ∀ m, m < j → isOne e0 (ns.getD m 0) = false) (fun i => k - (intOf i).toNat)
  case atStart => exact ⟨0, Nat.zero_le _, rfl, fun m hm => absurd hm (by omega)⟩
  case round =>
    obtain ⟨j, hj, rfl, hno⟩ := hrel
    have HN := Lib.hid hno
    clear hno
    by_cases hlt : j < k
    · have cj := HC.out j hlt
      obtain ⟨n, hn⟩ : ∃ n, ns.getD j 0 = n := ⟨_, rfl⟩
      rw [hn] at cj
      have one : isOne e0 n = ((!(n == 0) && isE e0 n) || (n == 0 && nilB e0)) := rfl
      have HO := Lib.hid one
      clear one
      have HJ := Lib.hid hn
      clear hn
      have fin : isOne e0 n = true → isB e0 ns = true := fun h => by
        unfold isB
        rw [List.any_eq_true]
        refine ⟨n, ?_, h⟩
        have := HJ.out
        rw [List.getD_eq_getElem?_getD, List.getElem?_eq_getElem (by omega)] at this
        simp at this
        rw [← this]
        exact List.getElem_mem _
      have FIN := Lib.hid fin
      clear fin
      have hnext : isOne e0 n = false → ∀ m, m < j + 1 → isOne e0 (ns.getD m 0) = false := fun h m hm => by
        by_cases e : m = j
        · subst e; rw [HJ.out]; exact h
        · exact HN.out m (by omega)
      have NEXT := Lib.hid hnext
      clear hnext
      cases hz : (n == 0)
      · cases hi : isE e0 n
        · have hz' : (n != 0) = true := by simp only [bne, hz]; rfl
          go_wp2_with (go_at_call 36; refine (K.out n).mono ?_; rintro e w' ⟨rfl, rfl⟩)
          exact ⟨⟨j + 1, by omega, by go_num, NEXT.out (by rw [HO.out, hz, hi]; rfl)⟩, by simp [intOf]; omega⟩
        · have hz' : (n != 0) = true := by simp only [bne, hz]; rfl
          go_wp2_with (go_at_call 36; refine (K.out n).mono ?_; rintro e w' ⟨rfl, rfl⟩)
          go_ret
          exact ⟨ret_bool (by rw [FIN.out (by rw [HO.out, hz, hi]; rfl)]), rfl⟩
      · have hz' : (n != 0) = false := by simp only [bne, hz]; rfl
        cases e0 with
        | nil =>
          cases h0
          go_wp2_with fail
          go_ret
          exact ⟨ret_bool (by rw [FIN.out (by rw [HO.out, hz]; rfl)]), rfl⟩
        | num m =>
          cases h0
          go_wp2_with fail
          exact ⟨⟨j + 1, by omega, by go_num, NEXT.out (by rw [HO.out, hz]; rfl)⟩, by simp [intOf]; omega⟩
        | fault s p e1 =>
          obtain ⟨b1, v1, rfl, hp1, hv1⟩ := h0
          go_wp2_with fail
          exact ⟨⟨j + 1, by omega, by go_num, NEXT.out (by rw [HO.out, hz]; rfl)⟩, by simp [intOf]; omega⟩
    · go_wp2
      go_ret
      refine ⟨ret_bool ?_, rfl⟩
      have e : j = k := by omega
      have a := any_take (isOne e0) ns k (fun m hm => HN.out m (by omega)) (by omega)
      rw [← hk, List.take_length] at a
      unfold isB
      exact a.symm
end Go.Proofs.YtmjdlofkjjofcaaDoor

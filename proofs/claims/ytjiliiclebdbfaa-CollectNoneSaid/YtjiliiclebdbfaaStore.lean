/- Contracts of package store: what is read. -/
import Derived.Test.YtjiliiclebdbfaaProg
import Derived.Test.YtjiliiclebdbfaaKit
import Derived.Test.YtjiliiclebdbfaaKitb
import Derived.Test.YtjiliiclebdbfaaBytes
import Derived.Test.YtjiliiclebdbfaaOnly
import Derived.Test.YtjiliiclebdbfaaErr
import Derived.Test.YtjiliiclebdbfaaFault
import Derived.Test.YtjiliiclebdbfaaFaultB
import Derived.Test.YtjiliiclebdbfaaStoreV
import Derived.Laws.BitsAllLaws
import Derived.Deep.QuietTactic
import Derived.BigQuiet
namespace Go.Proofs.Ytjiliiclebdbfaa
open Go.RowKit
set_option linter.unusedVariables false
set_option linter.unusedSimpArgs false

def nodeCells (nd : Nd) : List Value := [.int .u32 nd.k.a, .int .u32 nd.k.b, .int .u32 nd.k.c, .int .u32 nd.k.d, .int .i64 nd.level, .int .u64 nd.alive]
def nodesCells (ns : List Nd) : List Value := ns.flatMap nodeCells
theorem nodes_length (ns : List Nd) : (nodesCells ns).length = ns.length * 6 := by
  unfold nodesCells
  induction ns with
  | nil => rfl
  | cons a l ih => rw [List.flatMap_cons, List.length_append, ih, List.length_cons]; show 6 + _ = _; omega
theorem nodes_get (ns : List Nd) : ∀ (i j : Nat) (nd : Nd), ns[i]? = some nd → j < 6 → (nodesCells ns)[i * 6 + j]? = (nodeCells nd)[j]? := by
  unfold nodesCells
  induction ns with
  | nil => intro i j nd h; simp at h
  | cons a l ih =>
    intro i j nd h hj
    rw [List.flatMap_cons]
    have ha : (nodeCells a).length = 6 := rfl
    cases i with
    | zero =>
      simp only [List.getElem?_cons_zero, Option.some.injEq] at h
      subst h
      rw [List.getElem?_append_left (by omega)]
      congr 1
      omega
    | succ i =>
      rw [List.getElem?_cons_succ] at h
      rw [List.getElem?_append_right (by omega), ha, ← ih i j nd h hj]
      congr 1
      omega
def tbCells (tb : List Nat) : Array Value := (tb.map fun (v : Nat) => Value.int .u32 (v : Int)).toArray
/-- The store at block S: its squares ns in block N, its table tb in block T, room for most. -/
def SM (base : Nat) (W : World) (S N T : Nat) (ns : List Nd) (tb : List Nat) (most : Nat) : Prop :=
  ∃ cn, Pt W S #[.slice (some ⟨N, 0, none⟩) ns.length cn, .slice (some ⟨T, 0, none⟩) tb.length tb.length, .int .i64 most] 126 ∧
    W.ownsRow base 123 6 (.slice (some ⟨N, 0, none⟩) ns.length cn) ns.length (nodesCells ns) ∧
    Pt W T (tbCells tb) 31 ∧ base ≤ S ∧ base ≤ T ∧ ns.length ≤ most ∧ 2 * most ≤ tb.length ∧ tb.length ≤ 4194304
theorem SM.cellS {base : Nat} {W : World} {S N T : Nat} {ns : List Nd} {tb : List Nat} {most : Nat} (h : SM base W S N T ns tb most) :
    ∃ cn, W.cell? ⟨S, 0, none⟩ = some (.slice (some ⟨N, 0, none⟩) ns.length cn) ∧ W.cell? ⟨S, 1, none⟩ = some (.slice (some ⟨T, 0, none⟩) tb.length tb.length) ∧ W.cell? ⟨S, 2, none⟩ = some (.int .i64 most) ∧ ns.length ≤ cn := by
  obtain ⟨cn, h1, h2, _⟩ := h
  refine ⟨cn, by rw [h1.cell]; rfl, by rw [h1.cell]; rfl, by rw [h1.cell]; rfl, ?_⟩
  rcases h2.2 with ⟨hv, _⟩ | ⟨g, cap, cur, hv, _, _, h5, _⟩
  · cases hv
  · injection hv with e1 e2 e3; omega
theorem SM.cellN {base : Nat} {W : World} {S N T : Nat} {ns : List Nd} {tb : List Nat} {most : Nat} (h : SM base W S N T ns tb most) {i : Nat} {nd : Nd} (hi : ns[i]? = some nd) {j : Nat} (hj : j < 6) :
    W.cell? ⟨N, i * 6 + j, none⟩ = (nodeCells nd)[j]? := by
  obtain ⟨cn, h1, h2, _⟩ := h
  have hc := nodes_get ns i j nd hi hj
  obtain ⟨v, hv⟩ : ∃ v, (nodeCells nd)[j]? = some v := ⟨_, List.getElem?_eq_getElem (show j < (nodeCells nd).length from hj)⟩
  rw [hv] at hc ⊢
  have := World.ownsRow.cells h2 (g := N) rfl (i * 6 + j) v hc
  rw [← this]
  unfold Addr.add
  split <;> simp_all
theorem SM.cellT {base : Nat} {W : World} {S N T : Nat} {ns : List Nd} {tb : List Nat} {most : Nat} (h : SM base W S N T ns tb most) {p v : Nat} (hp : tb[p]? = some v) : W.cell? ⟨T, p, none⟩ = some (.int .u32 v) := by
  obtain ⟨cn, _, _, h3, _⟩ := h
  rw [h3.cell]
  unfold tbCells
  simp [hp]
theorem SM.below {base : Nat} {W W' : World} {S N T : Nat} {ns : List Nd} {tb : List Nat} {most : Nat} (h : SM base W S N T ns tb most) (b : Below W.heap.size W W') : SM base W' S N T ns tb most := by
  obtain ⟨cn, h1, h2, h3, h4⟩ := h
  refine ⟨cn, h1.keep b, ⟨h2.1, ?_⟩, h3.keep b, h4⟩
  rcases h2.2 with h0 | ⟨g, cap, cur, hv, hg0, hg, hr⟩
  · exact Or.inl h0
  · exact Or.inr ⟨g, cap, cur, hv, hg0, (b.block g (Array.getElem?_eq_some_iff.1 hg).1).trans hg, hr⟩

section
variable {base : Nat} {w : World} {S N T : Nat} {ns : List Nd} {tb : List Nat} {most : Nat}
theorem sLen_any (h : SM base w S N T ns tb most) : Calls Try.prog 33 #[.pointer (some ⟨S, 0, none⟩)] w fun e w' => e = .returned (.int .i64 ns.length) ∧ w = w' := by
  obtain ⟨cn, c0, c1, c2, _⟩ := h.cellS
  clear h
  go_enter Try.func33, Try.ntmps33
  go_wp2_with fail
  go_ret
  exact ⟨rfl, rfl⟩
theorem sIs_any (h : SM base w S N T ns tb most) (x : Nat) (hx : x < 4294967296) (r : Bool) (hr : decide (x < ns.length) = r) : Calls Try.prog 35 #[.pointer (some ⟨S, 0, none⟩), .int .u32 x] w fun e w' => e = .returned (.bool r) ∧ w = w' := by
  have H := Lib.hid h
  have hd : decide ((x : Int) < (ns.length : Int)) = r := by rw [← hr]; simp
  have hw : wrap64 (x : Int) = x := w64 (by omega) (by omega)
  have HD := Lib.hid hr
  clear h hr hx hd
  go_enter Try.func35, Try.ntmps35
  go_wp2_with ((go_at_call 33); (with_reducible refine (sLen_any H.out).mono ?_); rintro e w' ⟨rfl, rfl⟩)
  go_ret
  exact ⟨ret_bool HD.out, rfl⟩
theorem sIs_nil (x : Nat) (hx : x < 4294967296) (w : World) : Calls Try.prog 35 #[.pointer none, .int .u32 x] w fun e w' => e = .returned (.bool false) ∧ w = w' := by
  have hw : wrap64 (x : Int) = x := w64 (by omega) (by omega)
  have hx0 : (0 : Int) ≤ x := by omega
  clear hx
  go_enter Try.func35, Try.ntmps35
  go_wp2
  go_ret
  exact ⟨ret_bool (decide_eq_false (by omega)), rfl⟩
theorem sLevel_in (h : SM base w S N T ns tb most) (x : Nat) (hx32 : x < 4294967296) (nd : Nd) (hx : ns[x]? = some nd) : Calls Try.prog 17 #[.pointer (some ⟨S, 0, none⟩), .int .u32 x] w fun e w' => e = .returned (.int .i64 nd.level) ∧ w = w' := by
  obtain ⟨cn, c0, c1, c2, hcn⟩ := h.cellS
  have H := Lib.hid h
  have hlt : x < ns.length := (List.getElem?_eq_some_iff.1 hx).1
  have c4 : w.cell? ⟨N, x * 6 + 4, none⟩ = some (.int .i64 nd.level) := h.cellN hx (j := 4) (by omega)
  have HR := Lib.hid (And.intro hx32 (decide_eq_true hlt))
  clear h hx
  go_enter Try.func17, Try.ntmps17
  go_wp2_with ((go_at_call 35); (with_reducible refine (sIs_any H.out x HR.out.1 true HR.out.2).mono ?_); rintro e w' ⟨rfl, rfl⟩)
  go_ret
  exact ⟨rfl, rfl⟩
theorem sLevel_out (h : SM base w S N T ns tb most) (x : Nat) (hx32 : x < 4294967296) (hx : ns.length ≤ x) : Calls Try.prog 17 #[.pointer (some ⟨S, 0, none⟩), .int .u32 x] w fun e w' => e = .returned (.int .i64 (-1)) ∧ w = w' := by
  have H := Lib.hid h
  have HR := Lib.hid (And.intro hx32 (decide_eq_false (show ¬ x < ns.length by omega)))
  clear h hx hx32
  go_enter Try.func17, Try.ntmps17
  go_wp2_with ((go_at_call 35); (with_reducible refine (sIs_any H.out x HR.out.1 false HR.out.2).mono ?_); rintro e w' ⟨rfl, rfl⟩)
  go_ret
  exact ⟨rfl, rfl⟩
theorem sLevel_any (h : SM base w S N T ns tb most) (x : Nat) (hx32 : x < 4294967296) : Calls Try.prog 17 #[.pointer (some ⟨S, 0, none⟩), .int .u32 x] w fun e w' => e = .returned (.int .i64 (lvlN ns x)) ∧ w = w' := by
  cases hn : ns[x]? with
  | none => 
    have e : lvlN ns x = -1 := by unfold lvlN; rw [hn]
    rw [e]
    exact sLevel_out h x hx32 (by simpa using hn)
  | some nd =>
    have e : lvlN ns x = nd.level := by unfold lvlN; rw [hn]
    rw [e]
    exact sLevel_in h x hx32 nd hn
theorem sCount_any (h : SM base w S N T ns tb most) (x : Nat) (hx32 : x < 4294967296) : Calls Try.prog 18 #[.pointer (some ⟨S, 0, none⟩), .int .u32 x] w fun e w' => e = .returned (.int .u64 (aliveOf ns x)) ∧ w = w' := by
  cases hn : ns[x]? with
  | none =>
    have e : aliveOf ns x = 0 := by unfold aliveOf; rw [hn]
    have hx : ns.length ≤ x := by simpa using hn
    rw [e]
    have H := Lib.hid h
    have HR := Lib.hid (And.intro hx32 (decide_eq_false (show ¬ x < ns.length by omega)))
    clear h hx hx32 hn e
    go_enter Try.func18, Try.ntmps18
    go_wp2_with ((go_at_call 35); (with_reducible refine (sIs_any H.out x HR.out.1 false HR.out.2).mono ?_); rintro e w' ⟨rfl, rfl⟩)
    go_ret
    exact ⟨rfl, rfl⟩
  | some nd =>
    have e : aliveOf ns x = nd.alive := by unfold aliveOf; rw [hn]
    rw [e]
    obtain ⟨cn, c0, c1, c2, hcn⟩ := h.cellS
    have H := Lib.hid h
    have hlt : x < ns.length := (List.getElem?_eq_some_iff.1 hn).1
    have c5 : w.cell? ⟨N, x * 6 + 5, none⟩ = some (.int .u64 nd.alive) := h.cellN hn (j := 5) (by omega)
    have HR := Lib.hid (And.intro hx32 (decide_eq_true hlt))
    clear h hn e
    go_enter Try.func18, Try.ntmps18
    go_wp2_with ((go_at_call 35); (with_reducible refine (sIs_any H.out x HR.out.1 true HR.out.2).mono ?_); rintro e w' ⟨rfl, rfl⟩)
    go_ret
    exact ⟨rfl, rfl⟩
def kAgg (k : K4) : Value := .agg #[.int .u32 k.a, .int .u32 k.b, .int .u32 k.c, .int .u32 k.d]
theorem sOf_any (h : SM base w S N T ns tb most) (x : Nat) (hx32 : x < 4294967296) (r : Bool) (hr : decide (1 ≤ lvlN ns x) = r) :
    Calls Try.prog 28 #[.pointer (some ⟨S, 0, none⟩), .int .u32 x] w fun e w' => e = .returned (.tuple #[.agg #[.int .u32 (if r then kidsOf ns x else ⟨0, 0, 0, 0⟩).a, .int .u32 (if r then kidsOf ns x else ⟨0, 0, 0, 0⟩).b, .int .u32 (if r then kidsOf ns x else ⟨0, 0, 0, 0⟩).c, .int .u32 (if r then kidsOf ns x else ⟨0, 0, 0, 0⟩).d], .bool r]) ∧ Below w.heap.size w w' := by
  cases r with
  | false =>
    have hl : lvlN ns x < 1 := by have := of_decide_eq_false hr; omega
    have H := Lib.hid h
    have hd : decide (lvlN ns x < 1) = true := decide_eq_true hl
    clear h hr hl
    go_enter Try.func28, Try.ntmps28
    go_wp2_with ((go_at_call 17); (with_reducible refine (sLevel_any (H.out.below ((Below.refl _ _).alloc (Nat.le_refl _) _)) x hx32).mono ?_); rintro e w' ⟨rfl, rfl⟩)
    refine bodyPost_ret (by simp [results, Try.results28, go_sem]; rfl) rfl ?_
    exact ⟨rfl, by (repeat' (first | (with_reducible exact Below.refl _ _) | (with_reducible assumption) | (with_reducible refine Below.setCell ?_ ?_ _) | (with_reducible refine Below.alloc ?_ ?_ _) | (with_reducible refine below_dn ?_ _) | (with_reducible refine below_call ?_ ?_ (by assumption)) | (with_reducible refine Below.drew ?_) | go_size))⟩
  | true =>
    have hl : 1 ≤ lvlN ns x := of_decide_eq_true hr
    have hlt := lvlN_lt (show 0 ≤ lvlN ns x by omega)
    obtain ⟨nd, hn⟩ : ∃ nd, ns[x]? = some nd := ⟨_, List.getElem?_eq_getElem hlt⟩
    have hk : kidsOf ns x = nd.k := by unfold kidsOf; rw [hn]
    simp only [if_true]
    rw [hk]
    have H := Lib.hid h
    have H1 := Lib.hid (fun O => h.below ((Below.refl w.heap.size w).alloc (Nat.le_refl _) O))
    obtain ⟨cn, c0, c1, c2, hcn⟩ := (h.below ((Below.refl w.heap.size w).alloc (Nat.le_refl _) (.cells #[.int .u32 0, .int .u32 0, .int .u32 0, .int .u32 0] 55))).cellS
    have hN := fun j hj => (h.below ((Below.refl w.heap.size w).alloc (Nat.le_refl _) (.cells #[.int .u32 0, .int .u32 0, .int .u32 0, .int .u32 0] 55))).cellN hn (j := j) hj
    have k0 := hN 0 (by omega)
    rw [Nat.add_zero] at k0
    replace k0 : _ = some (Value.int .u32 nd.k.a) := k0
    have k1 : _ = some (Value.int .u32 nd.k.b) := hN 1 (by omega)
    have k2 : _ = some (Value.int .u32 nd.k.c) := hN 2 (by omega)
    have k3 : _ = some (Value.int .u32 nd.k.d) := hN 3 (by omega)
    clear hN
    have hd : decide (lvlN ns x < 1) = false := decide_eq_false (by omega)
    clear h hr hl hk hn
    go_enter Try.func28, Try.ntmps28
    go_wp2_with ((go_at_call 17); (with_reducible refine (sLevel_any (H1.out _) x hx32).mono ?_); rintro e w' ⟨rfl, rfl⟩)
    refine bodyPost_ret (by simp [results, Try.results28, go_sem]; rfl) rfl ?_
    exact ⟨rfl, by (repeat' (first | (with_reducible exact Below.refl _ _) | (with_reducible assumption) | (with_reducible refine Below.setCell ?_ ?_ _) | (with_reducible refine Below.alloc ?_ ?_ _) | (with_reducible refine below_dn ?_ _) | (with_reducible refine below_call ?_ ?_ (by assumption)) | (with_reducible refine Below.drew ?_) | go_size))⟩
end
end Go.Proofs.Ytjiliiclebdbfaa

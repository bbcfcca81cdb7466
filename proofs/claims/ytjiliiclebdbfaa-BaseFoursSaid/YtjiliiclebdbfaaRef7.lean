/- The reference of layers 6 to 8, over lists of points: contracts. -/
import Derived.Test.YtjiliiclebdbfaaProg
import Derived.Test.YtjiliiclebdbfaaKit
import Derived.Test.YtjiliiclebdbfaaKitb
import Derived.Test.YtjiliiclebdbfaaBytes
import Derived.Deep.QuietTactic
import Derived.BigQuiet
import Derived.RegionTactic
import Derived.BigRegion
import Derived.Maps.AppendAt
import Derived.Deep.AppendLies
import Derived.OwnWalk
namespace Go.Proofs.Ytjiliiclebdbfaa
open Go.RowKit
set_option linter.unusedVariables false
set_option linter.unusedSimpArgs false

abbrev Pn := Int × Int
/-- The address A, below block B, holds the points l; without an address there are none. -/
def Ps (w : World) (B : Nat) (A : Option Addr) (l : List Pn) : Prop :=
  l = [] ∨ ∃ b o, A = some ⟨b, o, none⟩ ∧ b < B ∧ ∀ (j : Nat) (p : Pn), l[j]? = some p → w.cell? ⟨b, o + j * 2, none⟩ = some (.int .i64 p.1) ∧ w.cell? ⟨b, o + j * 2 + 1, none⟩ = some (.int .i64 p.2)
section
variable {w w' : World} {B B' : Nat} {A : Option Addr} {l : List Pn}
theorem Ps.nil_ : Ps w B A [] := Or.inl rfl
theorem Ps.at_ (h : Ps w B A l) {k : Nat} (hk : k < l.length) : ∃ b o p, A = some ⟨b, o, none⟩ ∧ b < B ∧ l[k]? = some p ∧ w.cell? ⟨b, o + k * 2, none⟩ = some (.int .i64 p.1) ∧ w.cell? ⟨b, o + k * 2 + 1, none⟩ = some (.int .i64 p.2) := by
  rcases h with rfl | ⟨b, o, e, hb, hc⟩
  · simp at hk
  · exact ⟨b, o, _, e, hb, List.getElem?_eq_getElem hk, hc k _ (List.getElem?_eq_getElem hk)⟩
theorem Ps.keep (h : Ps w B A l) (hb : Below B w w') (hB : B ≤ B') : Ps w' B' A l := by
  rcases h with h | ⟨b, o, e, h1, hc⟩
  · exact Or.inl h
  · exact Or.inr ⟨b, o, e, by omega, fun j p hp => ⟨(hb.cell (p := ⟨b, o + j * 2, none⟩) h1).trans (hc j p hp).1, (hb.cell (p := ⟨b, o + j * 2 + 1, none⟩) h1).trans (hc j p hp).2⟩⟩
end
theorem eq_pn (a b c d : Int) (w : World) : (binOp BinOp.eql 46 (.agg #[.int .i64 (a), .int .i64 (b)]) (.agg #[.int .i64 (c), .int .i64 (d)])).run Try.prog w = .ok (.bool (a == c && b == d)) w := by
  have e : (Op.equalIn 10000 46 (.agg #[.int .i64 (a), .int .i64 (b)]) (.agg #[.int .i64 (c), .int .i64 (d)])).run Try.prog w = .ok (a == c && b == d) w := by
    rw [show (10000 : Nat) = 9998 + 1 + 1 from rfl]
    cases h1 : (a == c) <;> cases h2 : (b == d) <;> go_simp
  simp only [binOp]
  simp [Op.equal, Op.maxDepth, e]
theorem ne_pn (a b c d : Int) (w : World) : (binOp BinOp.neq 46 (.agg #[.int .i64 (a), .int .i64 (b)]) (.agg #[.int .i64 (c), .int .i64 (d)])).run Try.prog w = .ok (.bool (!(a == c && b == d))) w := by
  have e : (Op.equalIn 10000 46 (.agg #[.int .i64 (a), .int .i64 (b)]) (.agg #[.int .i64 (c), .int .i64 (d)])).run Try.prog w = .ok (a == c && b == d) w := by
    rw [show (10000 : Nat) = 9998 + 1 + 1 from rfl]
    cases h1 : (a == c) <;> cases h2 : (b == d) <;> go_simp
  simp only [binOp]
  simp [Op.equal, Op.maxDepth, e]
theorem pn_eq (p : Pn) (X Y : Int) : (p.1 == X && p.2 == Y) = decide (p = (X, Y)) := by
  obtain ⟨a, b⟩ := p
  rw [Bool.eq_iff_iff]
  simp only [Bool.and_eq_true, beq_iff_eq, decide_eq_true_eq, Prod.mk.injEq]
set_option maxRecDepth 20000 in
theorem has_any (l : List Pn) (A : Option Addr) (cap : Nat) (X Y : Int) (hl : l.length ≤ 4194304) {w : World} (h : Ps w w.heap.size A l) :
    Calls Try.prog 22 #[.slice A l.length cap, .agg #[.int .i64 (X), .int .i64 (Y)]] w fun e w' => e = .returned (.bool (decide ((X, Y) ∈ l))) ∧ Below w.heap.size w w' := by
  have H := Lib.hid h
  have HL := Lib.hid hl
  clear h hl
  go_enter Try.func22, Try.ntmps22
  go_wp2_with fail
  have pQ := Lib.hid (Pt.new w #[.int .i64 X, .int .i64 Y] 46)
  have HB := Lib.hid ((Below.refl w.heap.size w).alloc (Nat.le_refl _) (.cells #[.int .i64 X, .int .i64 Y] 46))
  generalize hqb : w.heap.size = qb at pQ ⊢
  have Hqb := Lib.hid (show w.heap.size = qb from hqb)
  clear hqb
  generalize w.alloc (.cells #[.int .i64 X, .int .i64 Y] 46) = W1 at *
  go_loopw [5] (fun v wr => ∃ i : Nat, i ≤ l.length ∧ v = .int .i64 i ∧ Hid (∀ (j : Nat) p, j < i → l[j]? = some p → ¬ p = (X, Y)) ∧ Hid (Pt wr qb #[.int .i64 X, .int .i64 Y] 46) ∧ Hid (Below w.heap.size w wr)) (fun v _ => l.length - (intOf v).toNat)
  case atStart => exact ⟨0, by omega, rfl, Lib.hid (fun j p hj => by omega), pQ, HB⟩
  case round =>
    obtain ⟨i, hi, rfl, HN, pQ1, HB1⟩ := hrel
    clear pQ HB
    by_cases hlt : i < l.length
    · have HLT := Lib.hid hlt
      obtain ⟨b, o, p, rfl, hb, hp, cx, cy⟩ := (H.out.keep HB1.out HB1.out.size).at_ hlt
      have i0 : (0 : Int) ≤ (i : Int) := by omega
      have i1 : (i : Int) < (l.length : Int) := by omega
      have l64 := HL.out
      have cq := pQ1.out.cell
      have lq := pQ1.out.lt
      have q := eq_pn
      clear hlt hi
      have HP := Lib.hid hp
      have HM := Lib.hid (show l.length - (i + 1) < l.length - i by omega)
      have hpe := pn_eq p X Y
      clear hp
      go_wp2_with fail
      go_quiet (fail)
      have pQ2 := Lib.hid (show Pt (wr.drewN nq) qb #[.int .i64 X, .int .i64 Y] 46 from pQ1.out)
      have HB2 := Lib.hid (below_dn HB1.out nq)
      clear cx cy cq lq HB1 pQ1 hpe
      generalize wr.drewN nq = W2 at *
      by_cases he : p = (X, Y)
      · rw [decide_eq_true he]
        have hin : (X, Y) ∈ l := by rw [← he]; exact List.mem_of_getElem? HP.out
        go_wp2_with fail
        go_ret
        exact ⟨by rw [decide_eq_true hin]; rfl, HB2.out⟩
      · rw [decide_eq_false he]
        go_wp2_with fail
        exact ⟨⟨i + 1, by have := HLT.out; omega, by go_num, Lib.hid (fun j q hj hq => by
          by_cases e : j = i
          · subst e
            rw [HP.out] at hq
            injection hq with hq
            subst hq
            exact he
          · exact HN.out j q (by omega) hq), pQ2, HB2⟩, by have := HM.out; simp [intOf]; omega⟩
    · obtain rfl : i = l.length := by omega
      clear hlt hi
      have hno : ¬ (X, Y) ∈ l := fun hin => by
        obtain ⟨j, hj⟩ := List.getElem?_of_mem hin
        exact HN.out j _ ((List.getElem?_eq_some_iff.1 hj).1) hj rfl
      go_wp2_with fail
      go_ret
      exact ⟨by rw [decide_eq_false hno]; rfl, HB1.out⟩
end Go.Proofs.Ytjiliiclebdbfaa

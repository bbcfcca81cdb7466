/- The reference's next generation, over a list of points: a contract, and what it means. -/
import Derived.Test.YtjiliiclebdbfaaRef7
import Derived.Test.YtjiliiclebdbfaaRowN
namespace Go.Proofs.Ytjiliiclebdbfaa
open Go.RowKit
set_option linter.unusedVariables false
set_option linter.unusedSimpArgs false

def pc (l : List Pn) : List Value := l.flatMap fun p => [.int .i64 p.1, .int .i64 p.2]
theorem pc_app (l m : List Pn) : pc (l ++ m) = pc l ++ pc m := by simp [pc]
theorem pc_len (l : List Pn) : (pc l).length = l.length * 2 := by
  induction l with
  | nil => rfl
  | cons p l ih => simp [pc] at *; omega
theorem pc_get (l : List Pn) (j : Nat) (p : Pn) (h : l[j]? = some p) : (pc l)[j * 2]? = some (.int .i64 p.1) ∧ (pc l)[j * 2 + 1]? = some (.int .i64 p.2) := by
  induction l generalizing j with
  | nil => simp at h
  | cons q l ih =>
    have e : pc (q :: l) = .int .i64 q.1 :: .int .i64 q.2 :: pc l := rfl
    rw [e]
    match j, h with
    | 0, h => injection h with h; subst h; exact ⟨rfl, rfl⟩
    | j + 1, h =>
      have := ih j (by simpa using h)
      rw [show (j + 1) * 2 = j * 2 + 1 + 1 by omega, show j * 2 + 1 + 1 + 1 = (j * 2 + 1) + 1 + 1 by omega]
      simpa using this
/-- A row of points of one's own. -/
def PRow (w : World) (base : Nat) (v : Value) (l : List Pn) : Prop := w.ownsRow base 46 2 v l.length (pc l)
theorem PRow.read {w : World} {base : Nat} {v : Value} {l : List Pn} (h : PRow w base v l) : ∃ A c, v = .slice A l.length c ∧ Ps w w.heap.size A l := by
  obtain ⟨A, c, rfl, h1 | ⟨g, rfl, h2, h3, h4, h5⟩⟩ := ownsRow_read h
  · exact ⟨A, c, rfl, .inl (List.eq_nil_of_length_eq_zero h1.2.1)⟩
  · refine ⟨_, c, rfl, .inr ⟨g, 0, rfl, h3, fun j p hp => ?_⟩⟩
    have := pc_get l j p hp
    rw [Nat.zero_add]
    exact ⟨h5 _ _ this.1, h5 _ _ this.2⟩
theorem PRow.nil (w : World) (base : Nat) : PRow w base (.slice none 0 0) [] := ⟨rfl, .inl ⟨rfl, rfl⟩⟩
theorem info_pn : (Try.prog.info? 46).map (fun i => (i.zero, i.size, i.bytes)) = some (some (.agg #[.int .i64 (0), .int .i64 (0)]), 2, 16) := by kernel_rfl
/-- Are two points neighbours? -/
def nearB (p q : Pn) : Bool := decide (q ≠ p ∧ -1 ≤ q.1 - p.1 ∧ q.1 - p.1 ≤ 1 ∧ -1 ≤ q.2 - p.2 ∧ q.2 - p.2 ≤ 1)
def cntTo (l : List Pn) (p : Pn) (j : Nat) : Nat := ((l.take j).filter (nearB p)).length
theorem cntTo_succ (l : List Pn) (p q : Pn) (j : Nat) (h : l[j]? = some q) : cntTo l p (j + 1) = cntTo l p j + if nearB p q = true then 1 else 0 := by
  have hj := (List.getElem?_eq_some_iff.1 h).1
  have e : l.take (j + 1) = l.take j ++ [q] := by
    rw [List.take_add_one, h]; rfl
  unfold cntTo
  rw [e, List.filter_append, List.length_append]
  by_cases hn : nearB p q = true
  · simp [hn]
  · simp [hn]
theorem cntTo_le (l : List Pn) (p : Pn) (j : Nat) : cntTo l p j ≤ j := by
  unfold cntTo
  exact Nat.le_trans (List.length_filter_le _ _) (by simp; omega)
def ruleP (l : List Pn) (p : Pn) : Bool := decide (cntTo l p l.length = 3) || (decide (cntTo l p l.length = 2) && decide (p ∈ l))
abbrev Two := List Pn × List Pn
def stepP (l : List Pn) (p : Pn) (s : Two) : Two := if p ∈ s.2 then s else (if ruleP l p = true then s.1 ++ [p] else s.1, s.2 ++ [p])
def nbr (p : Pn) (k : Nat) : Pn := (p.1 + (k : Int) % 3 - 1, p.2 + (k : Int) / 3 - 1)
def inP (l : List Pn) (p : Pn) (k : Nat) (s : Two) : Two := (List.range k).foldl (fun s k => stepP l (nbr p k) s) s
def outP (l : List Pn) (i : Nat) : Two := (l.take i).foldl (fun s p => inP l p 9 s) ([], [])
def nextP (l : List Pn) : List Pn := (outP l l.length).1
theorem inP_succ (l : List Pn) (p : Pn) (k : Nat) (s : Two) : inP l p (k + 1) s = stepP l (nbr p k) (inP l p k s) := by
  unfold inP
  rw [List.range_succ, List.foldl_append, List.foldl_cons, List.foldl_nil]
theorem outP_succ (l : List Pn) (i : Nat) (p : Pn) (h : l[i]? = some p) : outP l (i + 1) = inP l p 9 (outP l i) := by
  have e : l.take (i + 1) = l.take i ++ [p] := by rw [List.take_add_one, h]; rfl
  unfold outP
  rw [e, List.foldl_append, List.foldl_cons, List.foldl_nil]
theorem stepP_len (l : List Pn) (p : Pn) (s : Two) : (stepP l p s).1.length ≤ s.1.length + 1 ∧ (stepP l p s).2.length ≤ s.2.length + 1 := by
  unfold stepP
  split
  · exact ⟨by omega, by omega⟩
  · refine ⟨?_, by simp⟩
    split <;> simp
theorem inP_len (l : List Pn) (p : Pn) (k : Nat) (s : Two) : (inP l p k s).1.length ≤ s.1.length + k ∧ (inP l p k s).2.length ≤ s.2.length + k := by
  induction k with
  | zero => exact ⟨Nat.le_refl _, Nat.le_refl _⟩
  | succ k ih =>
    rw [inP_succ]
    have := stepP_len l (nbr p k) (inP l p k s)
    omega
theorem outP_len (l : List Pn) (i : Nat) (hi : i ≤ l.length) : (outP l i).1.length ≤ 9 * i ∧ (outP l i).2.length ≤ 9 * i := by
  induction i with
  | zero => exact ⟨by simp [outP], by simp [outP]⟩
  | succ i ih =>
    rw [outP_succ l i _ (List.getElem?_eq_getElem (show i < l.length by omega))]
    have := inP_len l l[i] 9 (outP l i)
    have := ih (by omega)
    omega
/-- What was seen, and what lives of it. -/
theorem stepP_mem (l : List Pn) (p : Pn) (s : Two) (h : ∀ q, q ∈ s.1 ↔ q ∈ s.2 ∧ ruleP l q = true) : (∀ q, q ∈ (stepP l p s).2 ↔ q ∈ s.2 ∨ q = p) ∧ ∀ q, q ∈ (stepP l p s).1 ↔ q ∈ (stepP l p s).2 ∧ ruleP l q = true := by
  unfold stepP
  by_cases hp : p ∈ s.2
  · rw [if_pos hp]
    refine ⟨fun q => ⟨.inl, fun hq => hq.elim id (fun e => e ▸ hp)⟩, h⟩
  · rw [if_neg hp]
    refine ⟨fun q => by simp, fun q => ?_⟩
    by_cases hr : ruleP l p = true
    · rw [if_pos hr]
      simp only [List.mem_append, List.mem_singleton]
      rw [h q]
      constructor
      · rintro (⟨a, b⟩ | rfl)
        · exact ⟨.inl a, b⟩
        · exact ⟨.inr rfl, hr⟩
      · rintro ⟨a | rfl, b⟩
        · exact .inl ⟨a, b⟩
        · exact .inr rfl
    · rw [if_neg hr]
      simp only [List.mem_append, List.mem_singleton]
      rw [h q]
      constructor
      · rintro ⟨a, b⟩; exact ⟨.inl a, b⟩
      · rintro ⟨a | rfl, b⟩
        · exact ⟨a, b⟩
        · exact absurd b hr
theorem inP_mem (l : List Pn) (p : Pn) (k : Nat) (s : Two) (h : ∀ q, q ∈ s.1 ↔ q ∈ s.2 ∧ ruleP l q = true) : (∀ q, q ∈ (inP l p k s).2 ↔ q ∈ s.2 ∨ ∃ j, j < k ∧ q = nbr p j) ∧ ∀ q, q ∈ (inP l p k s).1 ↔ q ∈ (inP l p k s).2 ∧ ruleP l q = true := by
  induction k with
  | zero => exact ⟨fun q => ⟨.inl, fun hq => hq.elim id (fun ⟨j, hj, _⟩ => absurd hj (by omega))⟩, h⟩
  | succ k ih =>
    rw [inP_succ]
    obtain ⟨a, b⟩ := stepP_mem l (nbr p k) _ ih.2
    refine ⟨fun q => ?_, b⟩
    rw [a q, ih.1 q]
    constructor
    · rintro ((h | ⟨j, hj, e⟩) | e)
      · exact .inl h
      · exact .inr ⟨j, by omega, e⟩
      · exact .inr ⟨k, by omega, e⟩
    · rintro (h | ⟨j, hj, e⟩)
      · exact .inl (.inl h)
      · by_cases hjk : j = k
        · subst hjk; exact .inr e
        · exact .inl (.inr ⟨j, by omega, e⟩)
theorem outP_mem (l : List Pn) : ∀ i, i ≤ l.length → (∀ q, q ∈ (outP l i).2 ↔ ∃ m p j, m < i ∧ l[m]? = some p ∧ j < 9 ∧ q = nbr p j) ∧ ∀ q, q ∈ (outP l i).1 ↔ q ∈ (outP l i).2 ∧ ruleP l q = true := by
  intro i
  induction i with
  | zero => intro _; exact ⟨fun q => by simp [outP], fun q => by simp [outP]⟩
  | succ i ih =>
    intro hi
    have hg := List.getElem?_eq_getElem (show i < l.length by omega)
    rw [outP_succ l i _ hg]
    obtain ⟨a, b⟩ := ih (by omega)
    obtain ⟨c, d⟩ := inP_mem l l[i] 9 _ b
    refine ⟨fun q => ?_, d⟩
    rw [c q, a q]
    constructor
    · rintro (⟨m, p, j, hm, h1, h2, h3⟩ | ⟨j, hj, e⟩)
      · exact ⟨m, p, j, by omega, h1, h2, h3⟩
      · exact ⟨i, _, j, by omega, hg, hj, e⟩
    · rintro ⟨m, p, j, hm, h1, h2, h3⟩
      by_cases e : m = i
      · subst e
        rw [hg] at h1
        injection h1 with h1
        subst h1
        exact .inr ⟨j, h2, h3⟩
      · exact .inl ⟨m, p, j, by omega, h1, h2, h3⟩
theorem nbr_of {p q : Pn} (h : -1 ≤ q.1 - p.1 ∧ q.1 - p.1 ≤ 1 ∧ -1 ≤ q.2 - p.2 ∧ q.2 - p.2 ≤ 1) : ∃ j, j < 9 ∧ q = nbr p j := by
  obtain ⟨a, b⟩ := p
  obtain ⟨c, d⟩ := q
  simp only at h
  refine ⟨(c - a + 1).toNat + 3 * (d - b + 1).toNat, by omega, ?_⟩
  unfold nbr
  simp only [Prod.mk.injEq]
  omega
/-- The next generation has just the points of which the rule says so. -/
theorem nextP_mem (l : List Pn) (q : Pn) : q ∈ nextP l ↔ ruleP l q = true := by
  obtain ⟨a, b⟩ := outP_mem l l.length (Nat.le_refl _)
  show q ∈ (outP l l.length).1 ↔ _
  rw [b q]
  refine ⟨fun h => h.2, fun h => ⟨?_, h⟩⟩
  rw [a q]
  have hpos : 0 < cntTo l q l.length := by
    unfold ruleP at h
    simp only [Bool.or_eq_true, Bool.and_eq_true, decide_eq_true_eq] at h
    omega
  unfold cntTo at hpos
  rw [List.take_length] at hpos
  obtain ⟨p, hp⟩ := List.exists_mem_of_length_pos hpos
  obtain ⟨h1, h2⟩ := List.mem_filter.1 hp
  obtain ⟨m, hm⟩ := List.getElem?_of_mem h1
  unfold nearB at h2
  have h3 := of_decide_eq_true h2
  obtain ⟨j, hj, e⟩ := nbr_of (p := p) (q := q) ⟨by omega, by omega, by omega, by omega⟩
  exact ⟨m, p, j, (List.getElem?_eq_some_iff.1 hm).1, hm, hj, e⟩
end Go.Proofs.Ytjiliiclebdbfaa

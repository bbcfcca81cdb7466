/- How a struct or an array of whole numbers, that came in by value, lies in the call's argument. -/
import Derived.WalkKit
import Derived.ProofKit
import Derived.OpenShut
namespace Go.Proofs.YtmjdlofkjjofcaaDoor
open Go.ChangeShapes Go.WideShapes Go.RowKit

def aggLike (P : Program) (t : TypeId) : Bool := match P.underlying t with | some (.struct _) | some (.array _ _) => true | _ => false

theorem ok_row {P : Program} {W : World} {base : Nat} {t : TypeId} {v : Value} (hu : aggLike P t = true) (h : Value.okWide P W .any base t v) : ∃ cs, v = .agg cs ∧ cs.size = P.cellsOf t ∧ Row.okWide P W .any base t cs := by
  unfold aggLike at hu
  unfold Value.okWide at h
  split at hu
  · rename_i h1; rw [h1] at h; exact h
  · rename_i h1; rw [h1] at h; exact h
  · simp at hu

theorem ok_cell_int {P : Program} {W : World} {base : Nat} {u : TypeId} {v : Value} {k : IntKind} (hu : P.underlying u = some (.int k)) (h : Cell.okWide P W .any base u v) : ∃ n, v = .int k n ∧ k.min ≤ n ∧ n ≤ k.max := by
  unfold Cell.okWide Cell.ok at h
  rw [hu] at h
  cases v <;> simp at h
  obtain ⟨rfl, h⟩ := h
  exact ⟨_, rfl, h⟩

/-- A struct or array of whole numbers: its cells, and their bounds. -/
theorem ok_ints {P : Program} {W : World} {base : Nat} {t : TypeId} {v : Value} (ks : List IntKind) {ts : List TypeId} (hu : aggLike P t = true) (hc : P.cellTypes P.depth t = some ts) (hn : P.cellsOf t = ks.length) (hk : ts.map P.underlying = ks.map fun k => some (.int k)) (h : Value.okWide P W .any base t v) :
    ∃ ns : List Int, ns.length = ks.length ∧ v = .agg (List.zipWith Value.int ks ns).toArray ∧ ∀ (i : Nat) k n, ks[i]? = some k → ns[i]? = some n → k.min ≤ n ∧ n ≤ k.max := by
  obtain ⟨cs, rfl, hs, ts', hts, _, hcell⟩ := ok_row hu h
  obtain rfl : ts = ts' := Option.some.inj (hc.symm.trans hts)
  have hl : ts.length = ks.length := by simpa using congrArg List.length hk
  have each : ∀ i : Nat, i < ks.length → ∃ n, cs[i]? = some (.int (ks.getD i .i8) n) ∧ (ks.getD i .i8).min ≤ n ∧ n ≤ (ks.getD i .i8).max := by
    intro i hi
    have hi' : i < cs.size := by rw [hs, hn]; exact hi
    obtain ⟨u, hu', hcu⟩ := hcell i cs[i] (by simp [hi'])
    rw [Nat.mod_eq_of_lt (by omega)] at hu'
    have e : P.underlying u = some (.int (ks.getD i .i8)) := by
      have := congrArg (·[i]?) hk
      simp only [List.getElem?_map, hu', Option.map_some] at this
      rw [List.getElem?_eq_getElem hi] at this
      simp only [Option.map_some, Option.some.injEq] at this
      rw [this, List.getD_eq_getElem?_getD, List.getElem?_eq_getElem hi]
      rfl
    obtain ⟨n, hn', hb⟩ := ok_cell_int e hcu
    exact ⟨n, by simp [hi', hn'], hb⟩
  refine ⟨cs.toList.map fun | .int _ n => n | _ => 0, by simp [hs, hn], ?_, ?_⟩
  · congr 1
    apply Array.ext
    · simp [hs, hn]
    · intro i h1 h2
      obtain ⟨n, hn', _⟩ := each i (by rw [← hn, ← hs]; exact h1)
      have e1 : cs[i] = .int (ks.getD i .i8) n := by simpa [h1] using hn'
      have h3 : i < ks.length := by rw [← hn, ← hs]; exact h1
      simp [e1, List.getD_eq_getElem?_getD, h3]
  · intro i k n h1 h2
    have hi : i < ks.length := (List.getElem?_eq_some_iff.1 h1).1
    obtain ⟨m, hm, hb⟩ := each i hi
    have hi' : i < cs.size := by rw [hs, hn]; exact hi
    have e1 : cs[i] = .int (ks.getD i .i8) m := by simpa [hi'] using hm
    have e2 : ks.getD i .i8 = k := by rw [List.getD_eq_getElem?_getD, h1]; rfl
    simp [hi', e1] at h2
    rw [e2] at hb
    omega

theorem i64_rng {n : Int} (h : IntKind.i64.min ≤ n ∧ n ≤ IntKind.i64.max) : -9223372036854775808 ≤ n ∧ n ≤ 9223372036854775807 := h
theorem u16_rng {n : Int} (h : IntKind.u16.min ≤ n ∧ n ≤ IntKind.u16.max) : 0 ≤ n ∧ n ≤ 65535 := h
theorem u8_rng {n : Int} (h : (Lit.int .u8 n).wf = true) : 0 ≤ n ∧ n ≤ 255 := by
  have h1 : IntKind.u8.min = 0 := rfl
  have h2 : IntKind.u8.max = 255 := rfl
  simp only [Lit.wf, Bool.and_eq_true, decide_eq_true_eq] at h
  omega
theorem i64_wf {n : Int} (h : (Lit.int .i64 n).wf = true) : -9223372036854775808 ≤ n ∧ n ≤ 9223372036854775807 := by
  have h1 : IntKind.i64.min = -9223372036854775808 := rfl
  have h2 : IntKind.i64.max = 9223372036854775807 := rfl
  simp only [Lit.wf, Bool.and_eq_true, decide_eq_true_eq] at h
  omega

theorem ok_ints2 {P : Program} {W : World} {base : Nat} {t : TypeId} {v : Value} (k1 k2 : IntKind) {ts : List TypeId} (hu : aggLike P t = true) (hc : P.cellTypes P.depth t = some ts) (hn : P.cellsOf t = 2) (hk : ts.map P.underlying = [k1, k2].map fun k => some (.int k)) (h : Value.okWide P W .any base t v) :
    ∃ a b : Int, v = .agg #[.int k1 a, .int k2 b] ∧ (k1.min ≤ a ∧ a ≤ k1.max) ∧ (k2.min ≤ b ∧ b ≤ k2.max) := by
  obtain ⟨ns, hl, hv, hb⟩ := ok_ints [k1, k2] hu hc hn hk h
  match ns, hl with
  | [a, b], _ => exact ⟨a, b, by simpa using hv, hb 0 k1 a rfl rfl, hb 1 k2 b rfl rfl⟩
theorem ok_ints3 {P : Program} {W : World} {base : Nat} {t : TypeId} {v : Value} (k1 k2 k3 : IntKind) {ts : List TypeId} (hu : aggLike P t = true) (hc : P.cellTypes P.depth t = some ts) (hn : P.cellsOf t = 3) (hk : ts.map P.underlying = [k1, k2, k3].map fun k => some (.int k)) (h : Value.okWide P W .any base t v) :
    ∃ a b c : Int, v = .agg #[.int k1 a, .int k2 b, .int k3 c] ∧ (k1.min ≤ a ∧ a ≤ k1.max) ∧ (k2.min ≤ b ∧ b ≤ k2.max) ∧ (k3.min ≤ c ∧ c ≤ k3.max) := by
  obtain ⟨ns, hl, hv, hb⟩ := ok_ints [k1, k2, k3] hu hc hn hk h
  match ns, hl with
  | [a, b, c], _ => exact ⟨a, b, c, by simpa using hv, hb 0 k1 a rfl rfl, hb 1 k2 b rfl rfl, hb 2 k3 c rfl rfl⟩
theorem ok_ints4 {P : Program} {W : World} {base : Nat} {t : TypeId} {v : Value} (k1 k2 k3 k4 : IntKind) {ts : List TypeId} (hu : aggLike P t = true) (hc : P.cellTypes P.depth t = some ts) (hn : P.cellsOf t = 4) (hk : ts.map P.underlying = [k1, k2, k3, k4].map fun k => some (.int k)) (h : Value.okWide P W .any base t v) :
    ∃ a b c d : Int, v = .agg #[.int k1 a, .int k2 b, .int k3 c, .int k4 d] ∧ (k1.min ≤ a ∧ a ≤ k1.max) ∧ (k2.min ≤ b ∧ b ≤ k2.max) ∧ (k3.min ≤ c ∧ c ≤ k3.max) ∧ (k4.min ≤ d ∧ d ≤ k4.max) := by
  obtain ⟨ns, hl, hv, hb⟩ := ok_ints [k1, k2, k3, k4] hu hc hn hk h
  match ns, hl with
  | [a, b, c, d], _ => exact ⟨a, b, c, d, by simpa using hv, hb 0 k1 a rfl rfl, hb 1 k2 b rfl rfl, hb 2 k3 c rfl rfl, hb 3 k4 d rfl rfl⟩
end Go.Proofs.YtmjdlofkjjofcaaDoor

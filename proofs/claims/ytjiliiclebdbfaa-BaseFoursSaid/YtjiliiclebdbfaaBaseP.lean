/- Plain law of a square of four by four cells. -/
import Derived.Test.YtjiliiclebdbfaaBaseN
import Derived.Test.YtjiliiclebdbfaaQuadX
namespace Go.Proofs.Ytjiliiclebdbfaa
open Go.RowKit
set_option linter.unusedVariables false
set_option linter.unusedSimpArgs false
section
variable {ns : List Nd} {most : Nat}
theorem lvl_bit (s : StOk ns) {x : Nat} (h : x ≤ 1) : lvlN ns x = 0 := by
  have h0 : lvlN ns 0 = 0 := by unfold lvlN; rw [s.dead]; rfl
  have h1 : lvlN ns 1 = 0 := by unfold lvlN; rw [s.alive]; rfl
  have e : x = 0 ∨ x = 1 := by omega
  rcases e with rfl | rfl
  · exact h0
  · exact h1
theorem fK_le (f i j : Nat) : kid (fK f i) j ≤ 1 := by
  match j with
  | 0 => exact fC_le f i 0
  | 1 => exact fC_le f i 1
  | 2 => exact fC_le f i 2
  | j + 3 => exact fC_le f i 3
/-- A cell of the square, by its place. -/
def sqC (f px py : Nat) : Bool := decide (kid (fK f (quar 1 px py)) (quar 0 (px % 2) (py % 2)) = 1)
theorem sqC_eq (f px py : Nat) (hx : px < 4) (hy : py < 4) : sqC f px py = cellB f px py := by
  have e : ∀ b, decide (cN b = 1) = b := fun b => by cases b <;> rfl
  have h : px = 0 ∨ px = 1 ∨ px = 2 ∨ px = 3 := by omega
  have k : py = 0 ∨ py = 1 ∨ py = 2 ∨ py = 3 := by omega
  rcases h with rfl | rfl | rfl | rfl <;> rcases k with rfl | rfl | rfl | rfl <;> exact e _
def inC (f i px py : Nat) : Bool := decide (kid (fK f i) (quar 0 px py) = 1)
theorem sqGo_done (f : Nat) : ∀ (n i : Nat) (out : K4) (ns : List Nd), i + n = 4 → StOk ns →
    (∀ j, j < i → lvlN ns (kid out j) = 1 ∧ ∀ px py, px < 2 → py < 2 → cellN ns 1 (kid out j) px py = inC f j px py) →
    Done ns most 2 (n + 1) (sqC f) (sqGo most f n i out ns) := by
  intro n
  induction n with
  | zero =>
    intro i out ns hi s hout
    obtain rfl : i = 4 := by omega
    have hk : ∀ i, lvlN ns (kid out i) = (1 : Nat) := kid_cases (fun y => lvlN ns y = (1 : Nat)) out (fun i hi => by rw [(hout i hi).1]; rfl)
    refine (make_done (most := most) s (show 1 < 62 by omega) hk).mono (by omega) fun px py hx hy => ?_
    obtain ⟨_, _, mx, my⟩ := quar_split 1 px py hx hy
    exact (hout _ (quar_lt _ _ _)).2 _ _ mx my
  | succ n ih =>
    intro i out ns hi s hout
    have d := make_done (most := most) (k := fK f i) s (show 0 < 62 by omega) (fun j => lvl_bit s (fK_le f i j))
    unfold sqGo
    generalize makeN ns most (fK f i) = r at d
    by_cases h0 : r.2.1 = 0
    · rw [if_pos h0]
      obtain ⟨hlv, hc⟩ := d.yes h0
      have d2 := ih (i + 1) (setK out i r.1) r.2.2 (by omega) d.ok (fun j hj => by
        rw [kid_set _ _ _ _ (show i < 4 by omega) (show j < 4 by omega)]
        split
        · rename_i e
          subst e
          refine ⟨by rw [hlv]; rfl, fun px py hx hy => ?_⟩
          rw [hc px py hx hy]
          rfl
        · obtain ⟨a, b⟩ := hout j (by omega)
          have e := d.ext.lvl (lvlN_lt (show 0 ≤ lvlN ns (kid out j) by rw [a]; omega))
          refine ⟨e.trans a, fun px py hx hy => ?_⟩
          rw [d.ext.cell s (show lvlN ns (kid out j) = (1 : Nat) by rw [a]; rfl), b px py hx hy])
      exact (d2.after d.ext d.len).mono (by omega) fun px py hx hy => rfl
    · rw [if_neg h0]
      obtain ⟨h1, h2, h3⟩ := d.no h0
      exact ⟨d.ext, d.ok, by have := d.len; show r.2.2.length ≤ _; omega, fun e => absurd e h0, fun _ => ⟨rfl, h2, h3⟩⟩
theorem square_done (f : Nat) (s : StOk ns) : Done ns most 2 5 (fun px py => cellB f px py) (squareN ns most f) :=
  (sqGo_done f 4 0 ⟨0, 0, 0, 0⟩ ns rfl s (fun j hj => by omega)).mono (by omega) fun px py hx hy => sqC_eq f px py hx hy
end
end Go.Proofs.Ytjiliiclebdbfaa

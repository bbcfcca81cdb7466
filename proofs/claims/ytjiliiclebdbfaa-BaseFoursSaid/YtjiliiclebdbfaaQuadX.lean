/- What Expand and Reach come to: the plain law. -/
import Derived.Test.YtjiliiclebdbfaaQuadE
import Derived.Test.YtjiliiclebdbfaaQuadD
namespace Go.Proofs.Ytjiliiclebdbfaa
set_option linter.unusedVariables false

section
variable {ns ns' : List Nd} {most x : Nat} {kk : K4} {o l : Nat}
/-- The four given and the empty one, as a greater quarter asks. -/
structure ExIn (ns : List Nd) (l : Nat) (kk : K4) (o : Nat) : Prop where
  ok : StOk ns
  kids : ∀ i, lvlN ns (kid kk i) = l
  emp : lvlN ns o = l
  dark : ∀ px py, px < 2 ^ l → py < 2 ^ l → cellN ns l o px py = false
theorem ExIn.ext (h : ExIn ns l kk o) (e : Ext ns ns') (s : StOk ns') : ExIn ns' l kk o := by
  refine ⟨s, fun i => ?_, ?_, fun px py hx hy => ?_⟩
  · rw [e.lvl (lvlN_lt (by rw [h.kids i]; omega))]; exact h.kids i
  · rw [e.lvl (lvlN_lt (by rw [h.emp]; omega))]; exact h.emp
  · rw [e.cell h.ok h.emp]; exact h.dark px py hx hy
theorem kid_cases (p : Nat → Prop) (k : K4) (h : ∀ i, i < 4 → p (kid k i)) (i : Nat) : p (kid k i) := by
  match i with
  | 0 => exact h 0 (by omega)
  | 1 => exact h 1 (by omega)
  | 2 => exact h 2 (by omega)
  | i + 3 => exact h 3 (by omega)
/-- A cell of the j-th greater quarter. -/
def exCell (ns : List Nd) (l : Nat) (kk : K4) (o j px py : Nat) : Bool := cellN ns l (kid (setK ⟨o, o, o, o⟩ (3 - j) (kid kk j)) (quar l px py)) (px % 2 ^ l) (py % 2 ^ l)
theorem ExIn.four (h : ExIn ns l kk o) {j : Nat} (hj : j < 4) (i : Nat) : lvlN ns (kid (setK ⟨o, o, o, o⟩ (3 - j) (kid kk j)) i) = l := by
  refine kid_cases (fun y => lvlN ns y = l) _ (fun i hi => ?_) i
  rw [kid_set _ _ _ _ (by omega) hi]
  split
  · exact h.kids j
  · exact kid_cases (fun y => lvlN ns y = l) ⟨o, o, o, o⟩ (fun i hi => by match i, hi with | 0, _ => exact h.emp | 1, _ => exact h.emp | 2, _ => exact h.emp | 3, _ => exact h.emp) i
theorem exCell_ext (h : ExIn ns l kk o) (e : Ext ns ns') {j : Nat} (hj : j < 4) (px py : Nat) : exCell ns' l kk o j px py = exCell ns l kk o j px py := e.cell h.ok (h.four hj _) _ _
theorem exGo_done : ∀ (n i : Nat) (out : K4) (ns : List Nd), i + n = 4 → l < 61 → ExIn ns l kk o →
    (∀ j, j < i → lvlN ns (kid out j) = (l : Int) + 1 ∧ ∀ px py, px < 2 ^ (l + 1) → py < 2 ^ (l + 1) → cellN ns (l + 1) (kid out j) px py = exCell ns l kk o j px py) →
    Done ns most (l + 2) (n + 1) (fun px py => exCell ns l kk o (quar (l + 1) px py) (px % 2 ^ (l + 1)) (py % 2 ^ (l + 1))) (exGo most kk o n i out ns) := by
  intro n
  induction n with
  | zero =>
    intro i out ns hi hl h hout
    obtain rfl : i = 4 := by omega
    have hk : ∀ i, lvlN ns (kid out i) = (l + 1 : Nat) := kid_cases (fun y => lvlN ns y = (l + 1 : Nat)) out (fun i hi => by rw [(hout i hi).1]; omega)
    refine (make_done (most := most) h.ok (show l + 1 < 62 by omega) hk).mono (by omega) fun px py hx hy => ?_
    obtain ⟨_, _, mx, my⟩ := quar_split (l + 1) px py hx hy
    exact (hout _ (quar_lt _ _ _)).2 _ _ mx my
  | succ n ih =>
    intro i out ns hi hl h hout
    have d := make_done (most := most) (k := setK ⟨o, o, o, o⟩ (3 - i) (kid kk i)) h.ok (show l < 62 by omega) (h.four (show i < 4 by omega))
    unfold exGo
    generalize makeN ns most (setK ⟨o, o, o, o⟩ (3 - i) (kid kk i)) = r at d
    by_cases h0 : r.2.1 = 0
    · rw [if_pos h0]
      obtain ⟨hlv, hc⟩ := d.yes h0
      have d2 := ih (i + 1) (setK out i r.1) r.2.2 (by omega) hl (h.ext d.ext d.ok) (fun j hj => by
        rw [kid_set _ _ _ _ (show i < 4 by omega) (show j < 4 by omega)]
        split
        · rename_i e
          subst e
          refine ⟨by rw [hlv]; omega, fun px py hx hy => ?_⟩
          rw [hc px py hx hy, exCell_ext h d.ext (by omega)]
          rfl
        · obtain ⟨a, b⟩ := hout j (by omega)
          have e := d.ext.lvl (lvlN_lt (show 0 ≤ lvlN ns (kid out j) by rw [a]; omega))
          refine ⟨e.trans a, fun px py hx hy => ?_⟩
          rw [d.ext.cell h.ok (show lvlN ns (kid out j) = (l + 1 : Nat) by rw [a]; omega), b px py hx hy, exCell_ext h d.ext (by omega)])
      refine (d2.after d.ext d.len).mono (by omega) fun px py hx hy => ?_
      exact exCell_ext h d.ext (quar_lt _ _ _) _ _
    · rw [if_neg h0]
      obtain ⟨h1, h2, h3⟩ := d.no h0
      exact ⟨d.ext, d.ok, by have := d.len; show r.2.2.length ≤ _; omega, fun e => absurd e h0, fun _ => ⟨rfl, h2, h3⟩⟩
/-- Expand of a square of level l + 1. -/
theorem expand_done0 (s : StOk ns) (hl : lvlN ns x = (l : Int) + 1) (hl2 : l < 61) :
    ∃ r0 : Res, Done ns most l l (fun _ _ => false) r0 ∧ Done ns most (l + 2) (l + 5) (fun px py => exCell r0.2.2 l (kidsOf ns x) r0.1 (quar (l + 1) px py) (px % 2 ^ (l + 1)) (py % 2 ^ (l + 1))) (expandN ns most x) ∧ (r0.2.1 = 0 → ExIn r0.2.2 l (kidsOf ns x) r0.1) ∧ ((expandN ns most x).2.1 = 0 → r0.2.1 = 0) := by
  have e := empty_done (most := most) s (show l ≤ 62 by omega)
  have hk := lvl_kids s hl
  unfold expandN
  rw [if_pos ⟨by omega, by omega⟩, hl, show ((l : Int) + 1 - 1) = l by omega]
  refine ⟨emptyN ns most l, e, ?_⟩
  generalize emptyN ns most l = r at e
  by_cases h0 : r.2.1 = 0
  · rw [if_pos h0]
    obtain ⟨hlv, hc⟩ := e.yes h0
    have hin : ExIn r.2.2 l (kidsOf ns x) r.1 := ⟨e.ok, fun i => by rw [e.ext.lvl (by have := (hk.2.2 i).2; omega)]; exact (hk.2.2 i).1, hlv, hc⟩
    refine ⟨?_, fun _ => hin, fun _ => h0⟩
    exact ((exGo_done (most := most) 4 0 ⟨0, 0, 0, 0⟩ r.2.2 rfl hl2 hin (fun j hj => by omega)).after e.ext e.len).mono (by omega) (fun _ _ _ _ => rfl)
  · rw [if_neg h0]
    obtain ⟨h1, h2, h3⟩ := e.no h0
    exact ⟨⟨e.ext, e.ok, by have := e.len; show r.2.2.length ≤ _; omega, fun h => absurd h h0, fun _ => ⟨rfl, h2, h3⟩⟩, fun h => absurd h h0, fun h => absurd h h0⟩
end
end Go.Proofs.Ytjiliiclebdbfaa

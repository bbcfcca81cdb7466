/- Planes: Reach and Set, their cells, levels and room: the plain law. -/
import Derived.Test.YtjiliiclebdbfaaQuadY
namespace Go.Proofs.Ytjiliiclebdbfaa
set_option linter.unusedVariables false

/-- Is a point in the square of a plane of level L? -/
def hasL (L X Y : Int) : Bool := decide (-(halfN L : Int) ≤ X) && decide (X < (halfN L : Int)) && decide (-(halfN L : Int) ≤ Y) && decide (Y < (halfN L : Int))
theorem hasN_L (ns : List Nd) (x : Nat) (X Y : Int) : hasN ns x X Y = hasL (lvlN ns x) X Y := rfl
/-- The cells of a plane. -/
def planeX (ns : List Nd) (x : Nat) (X Y : Int) : Bool := planeN ns (lvlN ns x).toNat x X Y
theorem planeX_at {ns : List Nd} {x l : Nat} (h : lvlN ns x = (l : Int)) (X Y : Int) : planeX ns x X Y = planeN ns l x X Y := by
  unfold planeX
  rw [h]
  rfl
theorem Ext.planeX {ns ns' : List Nd} (e : Ext ns ns') (s : StOk ns) {x : Nat} (h : 0 ≤ lvlN ns x) (X Y : Int) : planeX ns' x X Y = Go.Proofs.Ytjiliiclebdbfaa.planeX ns x X Y := by
  have hl := e.lvl (lvlN_lt h)
  unfold Go.Proofs.Ytjiliiclebdbfaa.planeX planeN hasN
  rw [hl, e.cell s (show lvlN ns x = ((lvlN ns x).toNat : Nat) by omega)]
theorem expand_planeX {ns : List Nd} {most x : Nat} (s : StOk ns) (h1 : 1 ≤ lvlN ns x) (h2 : lvlN ns x < 62) :
    Ext ns (expandN ns most x).2.2 ∧ StOk (expandN ns most x).2.2 ∧ (expandN ns most x).2.2.length ≤ ns.length + 66 ∧ ((expandN ns most x).2.1 = 0 → lvlN (expandN ns most x).2.2 (expandN ns most x).1 = lvlN ns x + 1 ∧ ∀ X Y, planeX (expandN ns most x).2.2 (expandN ns most x).1 X Y = planeX ns x X Y) ∧ ((expandN ns most x).2.1 ≠ 0 → (expandN ns most x).1 = 0 ∧ (expandN ns most x).2.1 = 7 ∧ most ≤ (expandN ns most x).2.2.length) := by
  have hl : lvlN ns x = (((lvlN ns x).toNat - 1 : Nat) : Int) + 1 := by omega
  obtain ⟨r0, _, d, _, _⟩ := expand_done0 (most := most) s hl (by omega)
  refine ⟨d.ext, d.ok, by have := d.len; omega, fun h0 => ?_, d.no⟩
  obtain ⟨a, b⟩ := expand_plane s hl (by omega) h0
  refine ⟨by omega, fun X Y => ?_⟩
  rw [planeX_at (l := (lvlN ns x).toNat - 1 + 2) (by rw [a]; omega), b, planeX_at (l := (lvlN ns x).toNat - 1 + 1) (by omega)]
/-- Reach: the level, the cells, the room that it takes. -/
theorem reach_plane : ∀ {n x : Nat} {ns : List Nd} {most : Nat} {X Y L1 : Int}, StOk ns → 3 ≤ lvlN ns x → hasL L1 X Y = true → lvlN ns x ≤ L1 → L1 ≤ 62 → L1 < lvlN ns x + n →
    (reachGo most X Y n x ns).2.2.length ≤ ns.length + 66 * (L1 - lvlN ns x).toNat ∧
    ((reachGo most X Y n x ns).2.1 = 0 → lvlN ns x ≤ lvlN (reachGo most X Y n x ns).2.2 (reachGo most X Y n x ns).1 ∧ lvlN (reachGo most X Y n x ns).2.2 (reachGo most X Y n x ns).1 ≤ L1 ∧ (∀ L, lvlN ns x ≤ L → L < lvlN (reachGo most X Y n x ns).2.2 (reachGo most X Y n x ns).1 → hasL L X Y = false) ∧
      ∀ X' Y', planeX (reachGo most X Y n x ns).2.2 (reachGo most X Y n x ns).1 X' Y' = planeX ns x X' Y') := by
  intro n
  induction n with
  | zero =>
    intro x ns most X Y L1 s h3 hh hle h62 hn
    omega
  | succ n ih =>
    intro x ns most X Y L1 s h3 hh hle h62 hn
    unfold reachGo
    cases hb : hasN ns x X Y with
    | true =>
      simp only [if_true]
      exact ⟨by omega, fun _ => ⟨Int.le_refl _, hle, fun L h1 h2 => by omega, by simp⟩⟩
    | false =>
      have hlt : lvlN ns x < L1 := by
        apply Int.not_le.1
        intro h
        rw [hasN_L, show lvlN ns x = L1 by omega, hh] at hb
        cases hb
      obtain ⟨e, s', len, ok, no⟩ := expand_planeX (most := most) s (show 1 ≤ lvlN ns x by omega) (by omega)
      generalize expandN ns most x = r at *
      simp only [Bool.false_eq_true, if_false]
      by_cases h0 : r.2.1 = 0
      · rw [if_pos h0]
        obtain ⟨hl, hp⟩ := ok h0
        obtain ⟨a, b⟩ := ih (x := r.1) (most := most) (X := X) (Y := Y) (L1 := L1) s' (by rw [hl]; omega) hh (by rw [hl]; omega) h62 (by rw [hl]; omega)
        refine ⟨by rw [hl] at a; omega, fun h => ?_⟩
        obtain ⟨b1, b2, b3, b4⟩ := b h
        refine ⟨by rw [hl] at b1; omega, b2, fun L c1 c2 => ?_, fun X' Y' => by rw [b4, hp]⟩
        by_cases hL : L = lvlN ns x
        · subst hL; rw [← hasN_L]; exact hb
        · exact b3 L (by rw [hl]; omega) c2
      · rw [if_neg h0]
        exact ⟨by show r.2.2.length ≤ _; omega, fun h => absurd h h0⟩
/-- Set: all at once. -/
theorem setPl_done {ns : List Nd} {most x : Nat} {X Y L1 : Int} (on : Bool) (s : StOk ns) (h3 : 3 ≤ lvlN ns x) (hp : (insB X && insB Y) = true) (hh : hasL L1 X Y = true) (hle : lvlN ns x ≤ L1) (h62 : L1 ≤ 62) :
    Ext ns (setPl ns most x X Y on).2.2 ∧ StOk (setPl ns most x X Y on).2.2 ∧ (setPl ns most x X Y on).2.2.length ≤ ns.length + 66 * (L1 - lvlN ns x).toNat + 62 ∧
    ((setPl ns most x X Y on).2.1 = 0 → lvlN ns x ≤ lvlN (setPl ns most x X Y on).2.2 (setPl ns most x X Y on).1 ∧ lvlN (setPl ns most x X Y on).2.2 (setPl ns most x X Y on).1 ≤ L1 ∧ hasL (lvlN (setPl ns most x X Y on).2.2 (setPl ns most x X Y on).1) X Y = true ∧ (∀ L, lvlN ns x ≤ L → L < lvlN (setPl ns most x X Y on).2.2 (setPl ns most x X Y on).1 → hasL L X Y = false) ∧
      ∀ X' Y', planeX (setPl ns most x X Y on).2.2 (setPl ns most x X Y on).1 X' Y' = if X' = X ∧ Y' = Y then on else planeX ns x X' Y') ∧
    ((setPl ns most x X Y on).2.1 ≠ 0 → (setPl ns most x X Y on).1 = 0 ∧ (setPl ns most x X Y on).2.1 = 7 ∧ most ≤ (setPl ns most x X Y on).2.2.length) := by
  obtain ⟨e, s', ok, no⟩ := reach_done (most := most) (n := 64) (x := x) (X := X) (Y := Y) s h3 hp (by omega)
  obtain ⟨len, pl⟩ := reach_plane (n := 64) (x := x) (most := most) (X := X) (Y := Y) (L1 := L1) s h3 hh hle h62 (by omega)
  unfold setPl
  generalize reachGo most X Y 64 x ns = r at *
  by_cases h0 : r.2.1 = 0
  · rw [if_pos h0]
    obtain ⟨r3, rh⟩ := ok h0
    obtain ⟨p1, p2, p3, p4⟩ := pl h0
    have r62 := lvl_le s' r.1
    have hl : lvlN r.2.2 r.1 = (((lvlN r.2.2 r.1).toNat - 1 : Nat) : Int) + 1 := by omega
    have hlt := has_lt hl rh
    have e1 : (lvlN r.2.2 r.1).toNat - 1 + 1 = (lvlN r.2.2 r.1).toNat := by omega
    rw [e1] at hlt
    have hlv : lvlN r.2.2 r.1 = ((lvlN r.2.2 r.1).toNat : Nat) := by omega
    have d := set_done (most := most) on s' hlv hlt.1 hlt.2
    have hhf := half_le r62
    unfold hasN at rh
    simp only [Bool.and_eq_true, decide_eq_true_eq] at rh
    generalize hpx : (X + halfN (lvlN r.2.2 r.1)).toNat = px at *
    generalize hpy : (Y + halfN (lvlN r.2.2 r.1)).toNat = py at *
    generalize setN most on (lvlN r.2.2 r.1).toNat r.1 px py r.2.2 = q at *
    refine ⟨e.trans d.ext, d.ok, by have := d.len; omega, fun hq => ?_, d.no⟩
    obtain ⟨q1, q2⟩ := d.yes hq
    have ql : lvlN q.2.2 q.1 = lvlN r.2.2 r.1 := by rw [q1]; omega
    refine ⟨by rw [ql]; exact p1, by rw [ql]; exact p2, ?_, by rw [ql]; exact p3, fun X' Y' => ?_⟩
    · rw [ql]; unfold hasL; simp only [Bool.and_eq_true, decide_eq_true_eq]; exact rh
    · rw [← p4]
      unfold planeX planeN hasN
      rw [ql]
      by_cases hin : (decide (-(halfN (lvlN r.2.2 r.1) : Int) ≤ X') && decide (X' < (halfN (lvlN r.2.2 r.1) : Int)) && decide (-(halfN (lvlN r.2.2 r.1) : Int) ≤ Y') && decide (Y' < (halfN (lvlN r.2.2 r.1) : Int))) = true
      · have hlt' := has_lt (X := X') (Y := Y') hl hin
        rw [e1] at hlt'
        rw [hin, Bool.true_and, Bool.true_and, q2 _ _ hlt'.1 hlt'.2]
        simp only [Bool.and_eq_true, decide_eq_true_eq] at hin
        by_cases heq : X' = X ∧ Y' = Y
        · rw [if_pos heq, if_pos]
          obtain ⟨rfl, rfl⟩ := heq
          exact ⟨hpx, hpy⟩
        · rw [if_neg heq, if_neg]
          intro h
          apply heq
          omega
      · have hin' := Bool.eq_false_iff.2 hin
        rw [hin', Bool.false_and, Bool.false_and]
        rw [if_neg]
        rintro ⟨rfl, rfl⟩
        apply hin
        simp only [Bool.and_eq_true, decide_eq_true_eq]
        exact rh
  · rw [if_neg h0]
    obtain ⟨h1, h2, h3'⟩ := no h0
    exact ⟨e, s', by show r.2.2.length ≤ _; omega, fun h => absurd h h0, fun _ => ⟨rfl, h2, h3'⟩⟩
end Go.Proofs.Ytjiliiclebdbfaa

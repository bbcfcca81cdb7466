/- Planes: their cells stay, and one is set: the plain law. -/
import Derived.Test.YtjiliiclebdbfaaQuadG
namespace Go.Proofs.Ytjiliiclebdbfaa
set_option linter.unusedVariables false

section
variable {ns ns' : List Nd} {most x l : Nat} {X Y : Int}
theorem half_at {L : Int} {l : Nat} (h : L = (l : Int) + 1) : halfN L = 2 ^ l := by subst h; unfold halfN; congr 1; omega
theorem ex_in (h H : Nat) (hH : H = h + h) (hp : 0 < h) (X : Int) (a : -(h : Int) ≤ X) (b : X < (h : Int)) :
    (H ≤ (X + H).toNat ↔ 0 ≤ X) ∧ (h ≤ (X + H).toNat % H ↔ X < 0) ∧ (X + H).toNat % H % h = (X + h).toNat % h ∧ (h ≤ (X + h).toNat ↔ 0 ≤ X) := by
  subst hH
  by_cases h0 : 0 ≤ X
  · obtain ⟨n, rfl⟩ := Int.eq_ofNat_of_zero_le h0
    have e1 : ((n : Int) + ((h + h : Nat) : Int)).toNat = n + (h + h) := by omega
    have e2 : (n + (h + h)) % (h + h) = n := by rw [Nat.add_mod_right, Nat.mod_eq_of_lt (by omega)]
    have e3 : ((n : Int) + (h : Int)).toNat = n + h := by omega
    rw [e1, e2, e3, Nat.add_mod_right]
    omega
  · have e1 : (X + ((h + h : Nat) : Int)).toNat < h + h := by omega
    have e2 : (X + ((h + h : Nat) : Int)).toNat = (X + h).toNat + h := by omega
    rw [Nat.mod_eq_of_lt e1, e2, Nat.add_mod_right]
    omega
theorem ex_out (h H : Nat) (hH : H = h + h) (hp : 0 < h) (X : Int) (a : -(H : Int) ≤ X) (b : X < (H : Int)) (hn : ¬ (-(h : Int) ≤ X ∧ X < (h : Int))) :
    (H ≤ (X + H).toNat ↔ 0 ≤ X) ∧ (h ≤ (X + H).toNat % H ↔ 0 ≤ X) := by
  subst hH
  by_cases h0 : 0 ≤ X
  · obtain ⟨n, rfl⟩ := Int.eq_ofNat_of_zero_le h0
    have e1 : ((n : Int) + ((h + h : Nat) : Int)).toNat = n + (h + h) := by omega
    have e2 : (n + (h + h)) % (h + h) = n := by rw [Nat.add_mod_right, Nat.mod_eq_of_lt (by omega)]
    rw [e1, e2]
    omega
  · have e1 : (X + ((h + h : Nat) : Int)).toNat < h + h := by omega
    rw [Nat.mod_eq_of_lt e1]
    omega
theorem kid_four (o i : Nat) : kid ⟨o, o, o, o⟩ i = o := by match i with | 0 => rfl | 1 => rfl | 2 => rfl | i + 3 => rfl
/-- Expand lets each cell be. -/
theorem expand_plane (s : StOk ns) (hl : lvlN ns x = (l : Int) + 1) (hl2 : l < 61) (h0 : (expandN ns most x).2.1 = 0) :
    lvlN (expandN ns most x).2.2 (expandN ns most x).1 = (l : Int) + 2 ∧ ∀ X Y, planeN (expandN ns most x).2.2 (l + 2) (expandN ns most x).1 X Y = planeN ns (l + 1) x X Y := by
  obtain ⟨r0, d0, d, hin, e0⟩ := expand_done0 (most := most) s hl hl2
  have hi := hin (e0 h0)
  have hkk := lvl_kids s hl
  obtain ⟨hlv, hc⟩ := d.yes h0
  generalize expandN ns most x = r at *
  have hlv' : lvlN r.2.2 r.1 = ((l + 1 : Nat) : Int) + 1 := by rw [hlv]; omega
  refine ⟨by rw [hlv]; omega, fun X Y => ?_⟩
  have hH : 2 ^ (l + 1) = 2 ^ l + 2 ^ l := by rw [Nat.pow_succ]; omega
  have hpos : 0 < 2 ^ l := Nat.pow_pos (by omega)
  have hH2 : 2 ^ (l + 2) = 2 ^ (l + 1) + 2 ^ (l + 1) := by rw [Nat.pow_succ]; omega
  unfold planeN hasN
  rw [half_at hlv', half_at hl]
  by_cases big : -((2 ^ (l + 1) : Nat) : Int) ≤ X ∧ X < ((2 ^ (l + 1) : Nat) : Int) ∧ -((2 ^ (l + 1) : Nat) : Int) ≤ Y ∧ Y < ((2 ^ (l + 1) : Nat) : Int)
  · obtain ⟨b1, b2, b3, b4⟩ := big
    rw [decide_eq_true b1, decide_eq_true b2, decide_eq_true b3, decide_eq_true b4]
    simp only [Bool.and_self, Bool.true_and]
    rw [hc _ _ (by omega) (by omega)]
    unfold exCell
    have hq := quar_lt (l + 1) (X + ((2 ^ (l + 1) : Nat) : Int)).toNat (Y + ((2 ^ (l + 1) : Nat) : Int)).toNat
    have hqs := quar_lt l ((X + ((2 ^ (l + 1) : Nat) : Int)).toNat % 2 ^ (l + 1)) ((Y + ((2 ^ (l + 1) : Nat) : Int)).toNat % 2 ^ (l + 1))
    rw [kid_set _ _ _ _ (by omega) hqs, kid_four]
    by_cases small : (-((2 ^ l : Nat) : Int) ≤ X ∧ X < ((2 ^ l : Nat) : Int)) ∧ (-((2 ^ l : Nat) : Int) ≤ Y ∧ Y < ((2 ^ l : Nat) : Int))
    · obtain ⟨⟨s1, s2⟩, s3, s4⟩ := small
      rw [decide_eq_true s1, decide_eq_true s2, decide_eq_true s3, decide_eq_true s4]
      simp only [Bool.and_self, Bool.true_and]
      obtain ⟨x1, x2, x3, x4⟩ := ex_in _ _ hH hpos X s1 s2
      obtain ⟨y1, y2, y3, y4⟩ := ex_in _ _ hH hpos Y s3 s4
      have e : quar l ((X + ((2 ^ (l + 1) : Nat) : Int)).toNat % 2 ^ (l + 1)) ((Y + ((2 ^ (l + 1) : Nat) : Int)).toNat % 2 ^ (l + 1)) = 3 - quar (l + 1) (X + ((2 ^ (l + 1) : Nat) : Int)).toNat (Y + ((2 ^ (l + 1) : Nat) : Int)).toNat := by
        unfold quar
        simp only [x1, x2, y1, y2]
        by_cases a : 0 ≤ X <;> by_cases b : 0 ≤ Y <;> simp [a, b, Int.not_lt.2, Int.not_le.1] <;> omega
      have e2 : quar (l + 1) (X + ((2 ^ (l + 1) : Nat) : Int)).toNat (Y + ((2 ^ (l + 1) : Nat) : Int)).toNat = quar l (X + ((2 ^ l : Nat) : Int)).toNat (Y + ((2 ^ l : Nat) : Int)).toNat := by
        unfold quar
        simp only [x1, x4, y1, y4]
      rw [if_pos e, x3, y3, e2]
      show _ = cellN ns l (kid (kidsOf ns x) (quar l (X + ((2 ^ l : Nat) : Int)).toNat (Y + ((2 ^ l : Nat) : Int)).toNat)) _ _
      exact d0.ext.cell s (hkk.2.2 _).1 _ _
    · have hne : ¬ quar l ((X + ((2 ^ (l + 1) : Nat) : Int)).toNat % 2 ^ (l + 1)) ((Y + ((2 ^ (l + 1) : Nat) : Int)).toNat % 2 ^ (l + 1)) = 3 - quar (l + 1) (X + ((2 ^ (l + 1) : Nat) : Int)).toNat (Y + ((2 ^ (l + 1) : Nat) : Int)).toNat := by
        by_cases sx : -((2 ^ l : Nat) : Int) ≤ X ∧ X < ((2 ^ l : Nat) : Int)
        · have sy : ¬ (-((2 ^ l : Nat) : Int) ≤ Y ∧ Y < ((2 ^ l : Nat) : Int)) := fun h => small ⟨sx, h⟩
          obtain ⟨x1, x2, _, _⟩ := ex_in _ _ hH hpos X sx.1 sx.2
          obtain ⟨y1, y2⟩ := ex_out _ _ hH hpos Y b3 b4 sy
          unfold quar
          simp only [x1, x2, y1, y2]
          by_cases a : 0 ≤ X <;> by_cases b : 0 ≤ Y <;> simp [a, b, Int.not_lt.2, Int.not_le.1] <;> omega
        · obtain ⟨x1, x2⟩ := ex_out _ _ hH hpos X b1 b2 sx
          unfold quar
          simp only [x1, x2]
          by_cases a : 0 ≤ X <;> simp [a] <;> split <;> split <;> omega
      rw [if_neg hne, hi.dark _ _ (Nat.mod_lt _ hpos) (Nat.mod_lt _ hpos)]
      have : (decide (-((2 ^ l : Nat) : Int) ≤ X) && decide (X < ((2 ^ l : Nat) : Int)) && decide (-((2 ^ l : Nat) : Int) ≤ Y) && decide (Y < ((2 ^ l : Nat) : Int))) = false := by
        rw [Bool.eq_false_iff]
        intro h
        simp only [Bool.and_eq_true, decide_eq_true_eq] at h
        exact small ⟨⟨h.1.1.1, h.1.1.2⟩, h.1.2, h.2⟩
      rw [this, Bool.false_and]
  · have e1 : (decide (-((2 ^ (l + 1) : Nat) : Int) ≤ X) && decide (X < ((2 ^ (l + 1) : Nat) : Int)) && decide (-((2 ^ (l + 1) : Nat) : Int) ≤ Y) && decide (Y < ((2 ^ (l + 1) : Nat) : Int))) = false := by
      rw [Bool.eq_false_iff]
      intro h
      simp only [Bool.and_eq_true, decide_eq_true_eq] at h
      exact big ⟨h.1.1.1, h.1.1.2, h.1.2, h.2⟩
    have e2 : (decide (-((2 ^ l : Nat) : Int) ≤ X) && decide (X < ((2 ^ l : Nat) : Int)) && decide (-((2 ^ l : Nat) : Int) ≤ Y) && decide (Y < ((2 ^ l : Nat) : Int))) = false := by
      rw [Bool.eq_false_iff]
      intro h
      simp only [Bool.and_eq_true, decide_eq_true_eq] at h
      exact big (by omega)
    rw [e1, e2, Bool.false_and, Bool.false_and]
end
end Go.Proofs.Ytjiliiclebdbfaa

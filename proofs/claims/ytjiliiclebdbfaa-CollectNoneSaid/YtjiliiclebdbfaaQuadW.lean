/- Planes: what their calls come to: the plain law. -/
import Derived.Test.YtjiliiclebdbfaaQuadV
namespace Go.Proofs.Ytjiliiclebdbfaa

section
variable {ns ns' ns'' : List Nd} {most x y : Nat} {k : K4}
/-- A number, an error's number (0: none), the squares then. -/
abbrev Res := Nat × Nat × List Nd
/-- A square with a cell that is alive, or dead. -/
def setN (most : Nat) (on : Bool) : Nat → Nat → Nat → Nat → List Nd → Res
  | 0, _, _, _, ns => (if on then 1 else 0, 0, ns)
  | l + 1, x, px, py, ns =>
    if (setN most on l (kid (kidsOf ns x) (quar l px py)) (px % 2 ^ l) (py % 2 ^ l) ns).2.1 = 0 then
      makeN (setN most on l (kid (kidsOf ns x) (quar l px py)) (px % 2 ^ l) (py % 2 ^ l) ns).2.2 most (setK (kidsOf ns x) (quar l px py) (setN most on l (kid (kidsOf ns x) (quar l px py)) (px % 2 ^ l) (py % 2 ^ l) ns).1)
    else (0, (setN most on l (kid (kidsOf ns x) (quar l px py)) (px % 2 ^ l) (py % 2 ^ l) ns).2.1, (setN most on l (kid (kidsOf ns x) (quar l px py)) (px % 2 ^ l) (py % 2 ^ l) ns).2.2)
/-- What a call on squares leaves: no error: a square of a level, with cells; an error: there was no room. -/
structure Done (ns : List Nd) (most : Nat) (l : Nat) (grow : Nat) (cells : Nat → Nat → Bool) (r : Res) : Prop where
  ext : Ext ns r.2.2
  ok : StOk r.2.2
  len : r.2.2.length ≤ ns.length + grow
  yes : r.2.1 = 0 → lvlN r.2.2 r.1 = l ∧ ∀ px py, px < 2 ^ l → py < 2 ^ l → cellN r.2.2 l r.1 px py = cells px py
  no : r.2.1 ≠ 0 → r.1 = 0 ∧ r.2.1 = 7 ∧ most ≤ r.2.2.length
theorem quar_split (l px py : Nat) (hx : px < 2 ^ (l + 1)) (hy : py < 2 ^ (l + 1)) : px = px % 2 ^ l + (quar l px py % 2) * 2 ^ l ∧ py = py % 2 ^ l + (quar l px py / 2) * 2 ^ l ∧ px % 2 ^ l < 2 ^ l ∧ py % 2 ^ l < 2 ^ l := by
  have hp : 2 ^ (l + 1) = 2 ^ l + 2 ^ l := by rw [Nat.pow_succ]; omega
  have hpos : 0 < 2 ^ l := Nat.pow_pos (by omega)
  refine ⟨?_, ?_, Nat.mod_lt _ hpos, Nat.mod_lt _ hpos⟩
  · by_cases h : 2 ^ l ≤ px
    · have e : px % 2 ^ l = px - 2 ^ l := by rw [Nat.mod_eq_sub_mod h, Nat.mod_eq_of_lt (by omega)]
      have q : quar l px py % 2 = 1 := by unfold quar; rw [if_pos h]; split <;> rfl
      rw [e, q]; omega
    · have e : px % 2 ^ l = px := Nat.mod_eq_of_lt (by omega)
      have q : quar l px py % 2 = 0 := by unfold quar; rw [if_neg h]; split <;> rfl
      rw [e, q]; omega
  · by_cases h : 2 ^ l ≤ py
    · have e : py % 2 ^ l = py - 2 ^ l := by rw [Nat.mod_eq_sub_mod h, Nat.mod_eq_of_lt (by omega)]
      have q : quar l px py / 2 = 1 := by unfold quar; rw [if_pos h]; split <;> rfl
      rw [e, q]; omega
    · have e : py % 2 ^ l = py := Nat.mod_eq_of_lt (by omega)
      have q : quar l px py / 2 = 0 := by unfold quar; rw [if_neg h]; split <;> rfl
      rw [e, q]; omega
/-- Make of four squares of one level. -/
theorem make_done (s : StOk ns) {l : Nat} (hl : l < 62) (hk : ∀ i, lvlN ns (kid k i) = l) : Done ns most (l + 1) 1 (fun px py => cellN ns l (kid k (quar l px py)) (px % 2 ^ l) (py % 2 ^ l)) (makeN ns most k) := by
  have g : goodK ns k = true := by
    rw [goodK_iff]
    have h0 := hk 0
    have h1 := hk 1
    have h2 := hk 2
    have h3 := hk 3
    simp only [kid] at h0 h1 h2 h3
    omega
  by_cases h : (makeN ns most k).2.1 = 0
  · have m := made_of s h
    refine ⟨m.ext, m.ok, m.len, fun _ => ⟨?_, fun px py hx hy => ?_⟩, fun hn => absurd h hn⟩
    · have h0 := hk 0
      simp only [kid] at h0
      have := m.level
      omega
    · show cellN (makeN ns most k).2.2 l (kid (kidsOf (makeN ns most k).2.2 (makeN ns most k).1) _) _ _ = _
      rw [m.kids]
      exact m.ext.cell s (hk _) _ _
  · obtain ⟨e, h1⟩ := make_err h
    rcases h1 with ⟨_, h1⟩ | ⟨h1, h2⟩
    · rw [g] at h1; cases h1
    · rw [e]
      exact ⟨.refl _, s, by simp, fun h0 => absurd h0 h, fun _ => ⟨rfl, h1, h2⟩⟩
theorem Done.mono {l g g' : Nat} {c c' : Nat → Nat → Bool} {r : Res} (h : Done ns most l g c r) (hg : g ≤ g') (hc : ∀ px py, px < 2 ^ l → py < 2 ^ l → c px py = c' px py) : Done ns most l g' c' r :=
  ⟨h.ext, h.ok, by have := h.len; omega, fun h0 => ⟨(h.yes h0).1, fun px py hx hy => ((h.yes h0).2 px py hx hy).trans (hc px py hx hy)⟩, h.no⟩
/-- What comes behind another call. -/
theorem Done.after {l g g' : Nat} {c : Nat → Nat → Bool} {r : Res} (h : Done ns' most l g c r) (e : Ext ns ns') (hl : ns'.length ≤ ns.length + g') : Done ns most l (g + g') c r :=
  ⟨e.trans h.ext, h.ok, by have := h.len; omega, h.yes, h.no⟩
theorem set_done (on : Bool) : ∀ {l x px py : Nat} {ns : List Nd}, StOk ns → lvlN ns x = l → px < 2 ^ l → py < 2 ^ l → Done ns most l l (fun qx qy => if qx = px ∧ qy = py then on else cellN ns l x qx qy) (setN most on l x px py ns) := by
  intro l
  induction l with
  | zero =>
    intro x px py ns s hx hpx hpy
    have h0 : lvlN ns 0 = 0 := by unfold lvlN; rw [s.dead]; rfl
    have h1 : lvlN ns 1 = 0 := by unfold lvlN; rw [s.alive]; rfl
    refine ⟨.refl _, s, by simp [setN], fun _ => ⟨?_, fun qx qy hqx hqy => ?_⟩, fun h => absurd rfl h⟩
    · cases on
      · exact h0
      · exact h1
    · have : qx = px ∧ qy = py := by simp at hpx hpy hqx hqy; omega
      rw [if_pos this]
      cases on <;> rfl
  | succ l ih =>
    intro x px py ns s hx hpx hpy
    obtain ⟨hx2, hxl, hk⟩ := lvl_kids s hx
    have hl62 := lvl_le s x
    obtain ⟨ex, ey, mx, my⟩ := quar_split l px py hpx hpy
    have hq := quar_lt l px py
    have d := ih (x := kid (kidsOf ns x) (quar l px py)) s (hk _).1 mx my
    unfold setN
    generalize setN most on l (kid (kidsOf ns x) (quar l px py)) (px % 2 ^ l) (py % 2 ^ l) ns = r at d
    by_cases h : r.2.1 = 0
    · rw [if_pos h]
      obtain ⟨hlv, hc⟩ := d.yes h
      have hk2 : ∀ i, lvlN r.2.2 (kid (setK (kidsOf ns x) (quar l px py) r.1) i) = l := by
        have : ∀ i, i < 4 → lvlN r.2.2 (kid (setK (kidsOf ns x) (quar l px py) r.1) i) = l := by
          intro i hi
          rw [kid_set _ _ _ _ hq hi]
          split
          · exact hlv
          · rw [d.ext.lvl (by have := (hk i).2; omega)]
            exact (hk i).1
        intro i
        match i with
        | 0 => exact this 0 (by omega)
        | 1 => exact this 1 (by omega)
        | 2 => exact this 2 (by omega)
        | i + 3 => exact this 3 (by omega)
      refine ((make_done (most := most) d.ok (by omega) hk2).after d.ext d.len).mono (by omega) fun qx qy hqx hqy => ?_
      obtain ⟨fx, fy, nx, ny⟩ := quar_split l qx qy hqx hqy
      rw [kid_set _ _ _ _ hq (quar_lt _ _ _)]
      by_cases he : quar l qx qy = quar l px py
      · rw [if_pos he, hc _ _ nx ny]
        by_cases hp : qx % 2 ^ l = px % 2 ^ l ∧ qy % 2 ^ l = py % 2 ^ l
        · rw [if_pos hp, if_pos]
          rw [he] at fx fy
          rw [hp.1] at fx
          rw [hp.2] at fy
          exact ⟨fx.trans ex.symm, fy.trans ey.symm⟩
        · rw [if_neg hp, if_neg (fun e => hp (by rw [e.1, e.2]; exact ⟨rfl, rfl⟩))]
          show _ = cellN ns l (kid (kidsOf ns x) (quar l qx qy)) _ _
          rw [he]
      · rw [if_neg he, if_neg (fun e => he (by rw [e.1, e.2]))]
        exact d.ext.cell s (hk _).1 _ _
    · rw [if_neg h]
      obtain ⟨h1, h2, h3⟩ := d.no h
      exact ⟨d.ext, d.ok, by have := d.len; show r.2.2.length ≤ _; omega, fun h0 => absurd h0 h, fun _ => ⟨rfl, h2, h3⟩⟩
/-- The empty square. -/
theorem steps_done : ∀ {n j x : Nat} {ns : List Nd}, StOk ns → lvlN ns x = j → (∀ px py, px < 2 ^ j → py < 2 ^ j → cellN ns j x px py = false) → j + n ≤ 62 → Done ns most (j + n) n (fun _ _ => false) (stepsN most n x ns) := by
  intro n
  induction n with
  | zero =>
    intro j x ns s hx hc _
    exact ⟨.refl _, s, by simp [stepsN], fun _ => ⟨hx, hc⟩, fun h => absurd rfl h⟩
  | succ n ih =>
    intro j x ns s hx hc hj
    have d := make_done (most := most) (k := ⟨x, x, x, x⟩) s (show j < 62 by omega) (fun i => by match i with | 0 => exact hx | 1 => exact hx | 2 => exact hx | i + 3 => exact hx)
    unfold stepsN
    generalize makeN ns most ⟨x, x, x, x⟩ = r at d
    by_cases h : r.2.1 = 0
    · rw [if_pos h]
      obtain ⟨hlv, hc'⟩ := d.yes h
      have := ih (j := j + 1) d.ok hlv (fun px py hpx hpy => by
        rw [hc' px py hpx hpy]
        obtain ⟨_, _, mx, my⟩ := quar_split j px py hpx hpy
        have hk : ∀ q, kid ⟨x, x, x, x⟩ q = x := fun q => by match q with | 0 => rfl | 1 => rfl | 2 => rfl | q + 3 => rfl
        rw [hk]
        exact hc _ _ mx my) (by omega)
      have e : j + 1 + n = j + (n + 1) := by omega
      rw [e] at this
      exact (this.after d.ext d.len).mono (by omega) (fun _ _ _ _ => rfl)
    · rw [if_neg h]
      obtain ⟨h1, h2, h3⟩ := d.no h
      exact ⟨d.ext, d.ok, by have := d.len; show r.2.2.length ≤ _; omega, fun h0 => absurd h0 h, fun _ => ⟨rfl, h2, h3⟩⟩
theorem empty_done (s : StOk ns) {l : Nat} (hl : l ≤ 62) : Done ns most l l (fun _ _ => false) (emptyN ns most l) := by
  unfold emptyN
  rw [if_pos ⟨by omega, by omega⟩]
  have h0 : lvlN ns 0 = 0 := by unfold lvlN; rw [s.dead]; rfl
  have := steps_done (most := most) (n := l) (j := 0) (x := 0) s h0 (fun px py _ _ => rfl) (by omega)
  rw [Nat.zero_add] at this
  rw [show ((l : Int)).toNat = l from rfl]
  exact this
end
end Go.Proofs.Ytjiliiclebdbfaa

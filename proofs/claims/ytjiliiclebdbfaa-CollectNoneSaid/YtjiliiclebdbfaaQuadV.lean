/- Squares and the cells that they have: the plain law. -/
import Derived.Test.YtjiliiclebdbfaaSt
namespace Go.Proofs.Ytjiliiclebdbfaa

/-- The squares of one list are the first ones of another. -/
def Ext (ns ns' : List Nd) : Prop := ∃ l, ns' = ns ++ l
section
variable {ns ns' ns'' : List Nd} {most x y : Nat} {k : K4}
theorem Ext.refl (ns : List Nd) : Ext ns ns := ⟨[], by simp⟩
theorem Ext.trans (h : Ext ns ns') (k : Ext ns' ns'') : Ext ns ns'' := by
  obtain ⟨l, rfl⟩ := h
  obtain ⟨m, rfl⟩ := k
  exact ⟨l ++ m, by simp⟩
theorem Ext.get (h : Ext ns ns') (hx : x < ns.length) : ns'[x]? = ns[x]? := by
  obtain ⟨l, rfl⟩ := h
  exact List.getElem?_append_left hx
theorem Ext.len (h : Ext ns ns') : ns.length ≤ ns'.length := by
  obtain ⟨l, rfl⟩ := h
  simp
theorem Ext.lvl (h : Ext ns ns') (hx : x < ns.length) : lvlN ns' x = lvlN ns x := by unfold lvlN; rw [h.get hx]
theorem Ext.kids (h : Ext ns ns') (hx : x < ns.length) : kidsOf ns' x = kidsOf ns x := by unfold kidsOf; rw [h.get hx]
theorem Ext.alive (h : Ext ns ns') (hx : x < ns.length) : aliveOf ns' x = aliveOf ns x := by unfold aliveOf; rw [h.get hx]
theorem Ext.ofK (h : Ext ns ns') (hx : x < ns.length) : ofK ns' x = ofK ns x := by unfold Go.Proofs.Ytjiliiclebdbfaa.ofK; rw [h.lvl hx, h.kids hx]
def kid (k : K4) (i : Nat) : Nat := match i with | 0 => k.a | 1 => k.b | 2 => k.c | _ => k.d
def setK (k : K4) (i y : Nat) : K4 := match i with | 0 => ⟨y, k.b, k.c, k.d⟩ | 1 => ⟨k.a, y, k.c, k.d⟩ | 2 => ⟨k.a, k.b, y, k.d⟩ | _ => ⟨k.a, k.b, k.c, y⟩
theorem kid_set (k : K4) (i j y : Nat) (hi : i < 4) (hj : j < 4) : kid (setK k i y) j = if j = i then y else kid k j := by
  match i, hi, j, hj with
  | 0, _, 0, _ | 0, _, 1, _ | 0, _, 2, _ | 0, _, 3, _ | 1, _, 0, _ | 1, _, 1, _ | 1, _, 2, _ | 1, _, 3, _ | 2, _, 0, _ | 2, _, 1, _ | 2, _, 2, _ | 2, _, 3, _ | 3, _, 0, _ | 3, _, 1, _ | 3, _, 2, _ | 3, _, 3, _ => simp [kid, setK]
theorem K4.ext4 {k m : K4} (h : ∀ i, i < 4 → kid k i = kid m i) : k = m := by
  have a := h 0 (by omega)
  have b := h 1 (by omega)
  have c := h 2 (by omega)
  have d := h 3 (by omega)
  cases k; cases m
  simp only [kid] at a b c d
  simp [a, b, c, d]
theorem lvl0 (s : StOk ns) (h : lvlN ns x = 0) : x = 0 ∨ x = 1 := by
  have hlt := lvlN_lt (show 0 ≤ lvlN ns x by omega)
  apply Classical.byContradiction
  intro hn
  have := s.level x ns[x] (by omega) (List.getElem?_eq_getElem hlt)
  unfold lvlN at h
  rw [List.getElem?_eq_getElem hlt] at h
  simp only at h
  omega
theorem lvl_le (s : StOk ns) (x : Nat) : lvlN ns x ≤ 62 := by
  by_cases h : 0 ≤ lvlN ns x
  · have hlt := lvlN_lt h
    by_cases h2 : 2 ≤ x
    · have := s.level x ns[x] h2 (List.getElem?_eq_getElem hlt)
      unfold lvlN
      rw [List.getElem?_eq_getElem hlt]
      simp only
      omega
    · have h01 : x = 0 ∨ x = 1 := by omega
      rcases h01 with rfl | rfl
      · unfold lvlN; rw [s.dead]; simp [deadN]
      · unfold lvlN; rw [s.alive]; simp [aliveN]
  · omega
theorem lvl_ge (s : StOk ns) (x : Nat) : -1 ≤ lvlN ns x := by
  unfold lvlN
  split <;> omega
/-- A square of a level above 0 has four of the level below. -/
theorem lvl_kids (s : StOk ns) {l : Nat} (h : lvlN ns x = l + 1) : 2 ≤ x ∧ x < ns.length ∧ (∀ i, lvlN ns (kid (kidsOf ns x) i) = l ∧ kid (kidsOf ns x) i < x) := by
  have hlt := lvlN_lt (show 0 ≤ lvlN ns x by omega)
  have h2 : 2 ≤ x := by
    apply Nat.not_lt.1
    intro hx
    have h01 : x = 0 ∨ x = 1 := by omega
    rcases h01 with rfl | rfl
    · unfold lvlN at h; rw [s.dead] at h; simp [deadN] at h; omega
    · unfold lvlN at h; rw [s.alive] at h; simp [aliveN] at h; omega
  have hg := List.getElem?_eq_getElem hlt
  have hl := s.level x ns[x] h2 hg
  have hk := s.kids x ns[x] h2 hg
  have e : lvlN ns x = ns[x].level := by unfold lvlN; rw [hg]
  have e2 : kidsOf ns x = ns[x].k := by unfold kidsOf; rw [hg]
  rw [e2]
  refine ⟨h2, hlt, fun i => ?_⟩
  match i with
  | 0 => exact ⟨by show lvlN ns ns[x].k.a = l; omega, hk.1⟩
  | 1 => exact ⟨by show lvlN ns ns[x].k.b = l; omega, hk.2.1⟩
  | 2 => exact ⟨by show lvlN ns ns[x].k.c = l; omega, hk.2.2.1⟩
  | i + 3 => exact ⟨by show lvlN ns ns[x].k.d = l; omega, hk.2.2.2⟩
theorem ofK_pos (h : 1 ≤ lvlN ns x) : ofK ns x = kidsOf ns x := if_pos h
theorem goodK_iff : goodK ns k = true ↔ 0 ≤ lvlN ns k.a ∧ lvlN ns k.a < 62 ∧ lvlN ns k.b = lvlN ns k.a ∧ lvlN ns k.c = lvlN ns k.a ∧ lvlN ns k.d = lvlN ns k.a := by
  unfold goodK
  simp only [Bool.and_eq_true, decide_eq_true_eq]
  constructor
  · rintro ⟨⟨⟨⟨h1, h2⟩, h3⟩, h4⟩, h5⟩; exact ⟨h1, h2, h3, h4, h5⟩
  · rintro ⟨h1, h2, h3, h4, h5⟩; exact ⟨⟨⟨⟨h1, h2⟩, h3⟩, h4⟩, h5⟩
/-- What Make leaves, if it makes. -/
structure MadeN (ns : List Nd) (k : K4) (y : Nat) (ns' : List Nd) : Prop where
  ext : Ext ns ns'
  ok : StOk ns'
  len : ns'.length ≤ ns.length + 1
  good : goodK ns k = true
  two : 2 ≤ y
  lt : y < ns'.length
  kids : kidsOf ns' y = k
  level : lvlN ns' y = lvlN ns k.a + 1
theorem made_of (s : StOk ns) (h : (makeN ns most k).2.1 = 0) : MadeN ns k (makeN ns most k).1 (makeN ns most k).2.2 := by
  cases hg : goodK ns k with
  | false => unfold makeN at h; rw [hg] at h; simp at h
  | true =>
    have gi := goodK_iff.1 hg
    cases hf : findN ns k with
    | some i =>
      have e : makeN ns most k = (i, 0, ns) := by unfold makeN; rw [hg, hf]; rfl
      rw [e]
      obtain ⟨h2, nd, hn, hk⟩ := findN_some hf
      have hl := s.level i nd h2 hn
      refine ⟨.refl _, s, by simp, hg, h2, (List.getElem?_eq_some_iff.1 hn).1, by unfold kidsOf; rw [hn]; exact hk, ?_⟩
      show lvlN ns i = _
      have : lvlN ns i = nd.level := by unfold lvlN; rw [hn]
      rw [this, ← hk, hl.2.2.1]
      omega
    | none =>
      by_cases hm : most ≤ ns.length
      · unfold makeN at h; rw [hg, hf] at h; simp [hm] at h
      · have e : makeN ns most k = (ns.length, 0, ns ++ [newN ns k]) := by unfold makeN; rw [hg, hf]; simp [hm]
        rw [e]
        have h2 := s.two
        have hn : (ns ++ [newN ns k])[ns.length]? = some (newN ns k) := by simp
        refine ⟨⟨_, rfl⟩, s.push hg, by simp, hg, h2, by simp, by unfold kidsOf; rw [hn]; rfl, ?_⟩
        show lvlN (ns ++ [newN ns k]) ns.length = _
        unfold lvlN
        rw [hn]
        show (((lvlN ns k.a).toNat + 1 : Nat) : Int) = lvlN ns k.a + 1
        omega
theorem make_err (h : (makeN ns most k).2.1 ≠ 0) : makeN ns most k = (0, (makeN ns most k).2.1, ns) ∧ ((makeN ns most k).2.1 = 1 ∧ goodK ns k = false ∨ (makeN ns most k).2.1 = 7 ∧ most ≤ ns.length) := by
  unfold makeN at *
  cases hg : goodK ns k with
  | false => simp
  | true =>
    rw [hg] at h
    cases hf : findN ns k with
    | some i => rw [hf] at h; simp at h
    | none =>
      by_cases hm : most ≤ ns.length
      · simp [hm]
      · rw [hf] at h; simp [hm] at h
theorem make_ext (s : StOk ns) : Ext ns (makeN ns most k).2.2 ∧ StOk (makeN ns most k).2.2 := by
  by_cases h : (makeN ns most k).2.1 = 0
  · have := made_of s h; exact ⟨this.ext, this.ok⟩
  · rw [(make_err h).1]; exact ⟨.refl _, s⟩
/-- The quarter of a square of level l + 1 in which a place lies. -/
def quar (l px py : Nat) : Nat := (if 2 ^ l ≤ px then 1 else 0) + (if 2 ^ l ≤ py then 2 else 0)
theorem quar_lt (l px py : Nat) : quar l px py < 4 := by unfold quar; split <;> split <;> omega
/-- Is the cell at px, py of a square of level l alive? -/
def cellN (ns : List Nd) : Nat → Nat → Nat → Nat → Bool
  | 0, x, _, _ => decide (x = 1)
  | l + 1, x, px, py => cellN ns l (kid (kidsOf ns x) (quar l px py)) (px % 2 ^ l) (py % 2 ^ l)
theorem Ext.cell (h : Ext ns ns') (s : StOk ns) : ∀ {l x : Nat}, lvlN ns x = l → ∀ px py, cellN ns' l x px py = cellN ns l x px py := by
  intro l
  induction l with
  | zero => intro x _ px py; rfl
  | succ l ih =>
    intro x hx px py
    obtain ⟨_, hlt, hk⟩ := lvl_kids s hx
    show cellN ns' l _ _ _ = cellN ns l _ _ _
    rw [h.kids hlt]
    exact ih (hk _).1 _ _
/-- Two squares of one level that have the same cells are one. -/
theorem cell_inj (s : StOk ns) (d : ∀ (i j : Nat) (nd md : Nd), 2 ≤ i → 2 ≤ j → ns[i]? = some nd → ns[j]? = some md → nd.k = md.k → i = j) :
    ∀ {l x y : Nat}, lvlN ns x = l → lvlN ns y = l → (∀ px py, px < 2 ^ l → py < 2 ^ l → cellN ns l x px py = cellN ns l y px py) → x = y := by
  intro l
  induction l with
  | zero =>
    intro x y hx hy h
    have h0 := h 0 0 (by simp) (by simp)
    rcases lvl0 s hx with rfl | rfl <;> rcases lvl0 s hy with rfl | rfl <;> first | rfl | (simp [cellN] at h0)
  | succ l ih =>
    intro x y hx hy h
    obtain ⟨hx2, hxl, hxk⟩ := lvl_kids s hx
    obtain ⟨hy2, hyl, hyk⟩ := lvl_kids s hy
    have e : kidsOf ns x = kidsOf ns y := by
      apply K4.ext4
      intro i hi
      refine ih (hxk i).1 (hyk i).1 fun px py hpx hpy => ?_
      have hp : 2 ^ (l + 1) = 2 ^ l + 2 ^ l := by rw [Nat.pow_succ]; omega
      have hpos : 0 < 2 ^ l := Nat.pow_pos (by omega)
      have key := h (px + (i % 2) * 2 ^ l) (py + (i / 2) * 2 ^ l) (by
          have : i % 2 = 0 ∨ i % 2 = 1 := by omega
          rcases this with e | e <;> rw [e, hp] <;> omega) (by
          have : i / 2 = 0 ∨ i / 2 = 1 := by omega
          rcases this with e | e <;> rw [e, hp] <;> omega)
      have q : quar l (px + (i % 2) * 2 ^ l) (py + (i / 2) * 2 ^ l) = i := by
        unfold quar
        match i, hi with
        | 0, _ => simp; omega
        | 1, _ => simp; omega
        | 2, _ => simp; omega
        | 3, _ => simp
      have m1 : (px + (i % 2) * 2 ^ l) % 2 ^ l = px := by rw [Nat.mul_comm, Nat.add_mul_mod_self_left, Nat.mod_eq_of_lt hpx]
      have m2 : (py + (i / 2) * 2 ^ l) % 2 ^ l = py := by rw [Nat.mul_comm, Nat.add_mul_mod_self_left, Nat.mod_eq_of_lt hpy]
      simp only [cellN, q, m1, m2] at key
      exact key
    refine d x y ns[x] ns[y] hx2 hy2 (List.getElem?_eq_getElem hxl) (List.getElem?_eq_getElem hyl) ?_
    have e1 : kidsOf ns x = ns[x].k := by unfold kidsOf; rw [List.getElem?_eq_getElem hxl]
    have e2 : kidsOf ns y = ns[y].k := by unfold kidsOf; rw [List.getElem?_eq_getElem hyl]
    rw [← e1, ← e2, e]
end
end Go.Proofs.Ytjiliiclebdbfaa

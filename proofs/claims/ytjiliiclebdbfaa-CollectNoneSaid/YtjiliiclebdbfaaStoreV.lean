/- Squares by numbers, and the table that finds them: the plain law. -/
namespace Go.Proofs.Ytjiliiclebdbfaa

/-- Four numbers. -/
structure K4 where
  a : Nat
  b : Nat
  c : Nat
  d : Nat
deriving DecidableEq
/-- A square: its four, its level, how many cells are alive. -/
structure Nd where
  k : K4
  level : Nat
  alive : Nat
def deadN : Nd := ⟨⟨0, 0, 0, 0⟩, 0, 0⟩
def aliveN : Nd := ⟨⟨0, 0, 0, 0⟩, 0, 1⟩

/-! pigeons -/
theorem pigeon : ∀ (n : Nat) (l : List Nat), l.Nodup → (∀ x ∈ l, x < n) → l.length ≤ n := by
  intro n
  induction n with
  | zero =>
    intro l _ h
    cases l with
    | nil => simp
    | cons a l => have := h a (by simp); omega
  | succ n ih =>
    intro l hd h
    have h1 := ih (l.erase n) (hd.erase n) (fun x hx => by
      have hx' := (List.Nodup.mem_erase_iff hd).1 hx
      have := h x hx'.2
      omega)
    have h2 := List.length_erase_le (a := n) (l := l)
    rw [List.length_erase] at h1
    split at h1 <;> omega

section
variable (h : K4 → Nat)
/-- The place d steps behind a key's own. -/
def placeT (M : Nat) (k : K4) (d : Nat) : Nat := (h k + d) % M
structure TabOk (ns : List Nd) (tb : List Nat) : Prop where
  two : 2 ≤ ns.length
  room : ns.length ≤ tb.length + 1
  ent : ∀ (p v : Nat), tb[p]? = some v → v ≠ 0 → 2 ≤ v ∧ v < ns.length
  inj : ∀ (p q v : Nat), tb[p]? = some v → tb[q]? = some v → v ≠ 0 → p = q
  reach : ∀ (i : Nat) (nd : Nd), 2 ≤ i → ns[i]? = some nd → ∃ d : Nat, tb[placeT h tb.length nd.k d]? = some i ∧ ∀ e, e < d → ∃ v : Nat, tb[placeT h tb.length nd.k e]? = some v ∧ v ≠ 0
  dist : ∀ (i j : Nat) (nd md : Nd), 2 ≤ i → 2 ≤ j → ns[i]? = some nd → ns[j]? = some md → nd.k = md.k → i = j

theorem place_lt (M : Nat) (hM : 0 < M) (k : K4) (d : Nat) : placeT h M k d < M := Nat.mod_lt _ hM
theorem place_wrap (M : Nat) (k : K4) (d : Nat) : placeT h M k d = placeT h M k (d % M) := by unfold placeT; simp
variable {h} {ns : List Nd} {tb : List Nat}
theorem TabOk.pos (t : TabOk h ns tb) : 0 < tb.length := by have := t.two; have := t.room; omega
/-- Some place is empty. -/
theorem TabOk.hole (t : TabOk h ns tb) : ∃ p : Nat, tb[p]? = some 0 := by
  apply Classical.byContradiction
  intro hn
  have hnz : ∀ (p v : Nat), tb[p]? = some v → v ≠ 0 := fun p v hv e => hn ⟨p, by rw [hv, e]⟩
  have hnd : tb.Nodup := by
    rw [List.nodup_iff_pairwise_ne, List.pairwise_iff_getElem]
    intro i j hi hj hij e
    have := t.inj i j tb[i] (List.getElem?_eq_getElem hi) (by rw [List.getElem?_eq_getElem hj, e]) (hnz i _ (List.getElem?_eq_getElem hi))
    omega
  have hlt : ∀ x ∈ tb.map (· - 2), x < ns.length - 2 := by
    intro x hx
    obtain ⟨y, hy, rfl⟩ := List.mem_map.1 hx
    obtain ⟨i, hi, rfl⟩ := List.getElem_of_mem hy
    have := t.ent i tb[i] (List.getElem?_eq_getElem hi) (hnz i _ (List.getElem?_eq_getElem hi))
    omega
  have hnd2 : (tb.map (· - 2)).Nodup := by
    rw [List.nodup_iff_pairwise_ne, List.pairwise_map]
    rw [List.nodup_iff_pairwise_ne, List.pairwise_iff_getElem] at hnd
    rw [List.pairwise_iff_getElem]
    intro i j hi hj hij e
    have h1 := t.ent i tb[i] (List.getElem?_eq_getElem hi) (hnz i _ (List.getElem?_eq_getElem hi))
    have h2 := t.ent j tb[j] (List.getElem?_eq_getElem hj) (hnz j _ (List.getElem?_eq_getElem hj))
    exact hnd i j hi hj hij (by omega)
  have := pigeon _ _ hnd2 hlt
  rw [List.length_map] at this
  have := t.room
  have := t.two
  omega
/-- From a key's own place on an empty one comes. -/
theorem TabOk.hole_from (t : TabOk h ns tb) (k : K4) : ∃ d : Nat, d < tb.length ∧ tb[placeT h tb.length k d]? = some 0 := by
  obtain ⟨p, hp⟩ := t.hole
  have hlt : p < tb.length := (List.getElem?_eq_some_iff.1 hp).1
  have hM := t.pos
  refine ⟨(p + tb.length - h k % tb.length) % tb.length, Nat.mod_lt _ hM, ?_⟩
  have hm := Nat.mod_lt (h k) hM
  have e : placeT h tb.length k ((p + tb.length - h k % tb.length) % tb.length) = p := by
    unfold placeT
    rw [Nat.add_mod, Nat.mod_mod, ← Nat.add_mod]
    have e1 : h k + (p + tb.length - h k % tb.length) = p + tb.length * (h k / tb.length + 1) := by
      have := Nat.div_add_mod (h k) tb.length
      rw [Nat.mul_add, Nat.mul_one]
      omega
    rw [e1, Nat.add_mul_mod_self_left]
    exact Nat.mod_eq_of_lt hlt
  rw [e, hp]
/-- The walk from a key's place on has come d steps far. -/
def Probed (h : K4 → Nat) (ns : List Nd) (tb : List Nat) (k : K4) (d : Nat) : Prop :=
  ∀ e, e < d → ∃ (v : Nat) (nd : Nd), tb[placeT h tb.length k e]? = some v ∧ v ≠ 0 ∧ ns[v]? = some nd ∧ nd.k ≠ k
theorem Probed.start (k : K4) : Probed h ns tb k 0 := fun e he => by omega
theorem Probed.step {k : K4} {d v : Nat} {nd : Nd} (p : Probed h ns tb k d) (hv : tb[placeT h tb.length k d]? = some v) (h0 : v ≠ 0) (hn : ns[v]? = some nd) (hk : nd.k ≠ k) : Probed h ns tb k (d + 1) := fun e he => by
  by_cases h1 : e = d
  · subst h1; exact ⟨v, nd, hv, h0, hn, hk⟩
  · exact p e (by omega)
/-- It ends before it has gone round. -/
theorem Probed.lt (t : TabOk h ns tb) {k : K4} {d : Nat} (p : Probed h ns tb k d) : d < tb.length := by
  apply Nat.not_le.1
  intro hd
  obtain ⟨e, he, h0⟩ := t.hole_from k
  obtain ⟨v, nd, h1, h2, _⟩ := p e (by omega)
  rw [h0] at h1
  injection h1 with h1
  exact h2 h1.symm
/-- At an empty place: there is no such square. -/
theorem Probed.none (t : TabOk h ns tb) {k : K4} {d : Nat} (p : Probed h ns tb k d) (h0 : tb[placeT h tb.length k d]? = some 0) : ∀ (i : Nat) (nd : Nd), 2 ≤ i → ns[i]? = some nd → nd.k ≠ k := by
  intro i nd hi hn hk
  obtain ⟨d', h1, h2⟩ := t.reach i nd hi hn
  rw [hk] at h1 h2
  by_cases hlt : d < d'
  · obtain ⟨v, h3, h4⟩ := h2 d hlt
    rw [h0] at h3
    injection h3 with h3
    exact h4 h3.symm
  · by_cases he : d' = d
    · subst he
      rw [h0] at h1
      injection h1 with h1
      omega
    · obtain ⟨v, md, h3, h4, h5, h6⟩ := p d' (by omega)
      rw [h1] at h3
      injection h3 with h3
      subst h3
      rw [hn] at h5
      injection h5 with h5
      subst h5
      exact h6 hk
/-- A new square, put at the empty place. -/
theorem TabOk.push (t : TabOk h ns tb) {nd : Nd} {d : Nat} (p : Probed h ns tb nd.k d) (h0 : tb[placeT h tb.length nd.k d]? = some 0) (hr : ns.length + 1 ≤ tb.length + 1) :
    TabOk h (ns ++ [nd]) (tb.set (placeT h tb.length nd.k d) ns.length) := by
  have hnone := p.none t h0
  have hM := t.pos
  have htwo := t.two
  have hpl := place_lt h tb.length hM nd.k d
  have get : ∀ q, (tb.set (placeT h tb.length nd.k d) ns.length)[q]? = if placeT h tb.length nd.k d = q then some ns.length else tb[q]? := by
    intro q
    rw [List.getElem?_set]
    split
    · rename_i e; subst e; first | rfl | rw [if_pos hpl]
    · rfl
  refine ⟨by simp; omega, by simp; omega, ?_, ?_, ?_, ?_⟩
  · intro q v hq hv
    rw [get] at hq
    split at hq
    · injection hq with hq; subst hq; simp; omega
    · have := t.ent q v hq hv; simp; omega
  · intro q q' v h1 h2 hv
    rw [get] at h1 h2
    split at h1 <;> split at h2
    · omega
    · injection h1 with h1; subst h1; have := t.ent q' _ h2 hv; omega
    · injection h2 with h2; subst h2; have := t.ent q _ h1 hv; omega
    · exact t.inj q q' v h1 h2 hv
  · intro i md hi hn
    rw [List.length_set]
    rw [List.getElem?_append] at hn
    split at hn
    · rename_i hlt
      obtain ⟨d', h1, h2⟩ := t.reach i md hi hn
      refine ⟨d', ?_, fun e he => ?_⟩
      · rw [get]
        split
        · rename_i e; rw [← e, h0] at h1; injection h1 with h1; omega
        · exact h1
      · obtain ⟨v, h3, h4⟩ := h2 e he
        rw [get]
        split
        · exact ⟨_, rfl, by omega⟩
        · exact ⟨v, h3, h4⟩
    · rename_i hge
      have hi2 : i = ns.length := by
        have := (List.getElem?_eq_some_iff.1 hn).1
        simp at this; omega
      subst hi2
      simp at hn
      subst hn
      refine ⟨d, by rw [get, if_pos rfl], fun e he => ?_⟩
      obtain ⟨v, _, h3, h4, _⟩ := p e he
      rw [get]
      split
      · exact ⟨_, rfl, by omega⟩
      · exact ⟨v, h3, h4⟩
  · intro i j a b hi hj ha hb hk
    rw [List.getElem?_append] at ha hb
    split at ha <;> split at hb
    · exact t.dist i j a b hi hj ha hb hk
    · have hj2 := (List.getElem?_eq_some_iff.1 hb).1
      simp at hj2
      have : j - ns.length = 0 := by omega
      rw [this] at hb
      simp at hb
      subst hb
      exact absurd hk (hnone i a hi ha)
    · have hi2 := (List.getElem?_eq_some_iff.1 ha).1
      simp at hi2
      have : i - ns.length = 0 := by omega
      rw [this] at ha
      simp at ha
      subst ha
      exact absurd hk.symm (hnone j b hj hb)
    · have hi2 := (List.getElem?_eq_some_iff.1 ha).1
      have hj2 := (List.getElem?_eq_some_iff.1 hb).1
      simp at hi2 hj2
      omega
theorem TabOk.fresh (h : K4 → Nat) (M : Nat) (hM : 1 ≤ M) : TabOk h [deadN, aliveN] (List.replicate M 0) := by
  have z : ∀ (p v : Nat), (List.replicate M 0)[p]? = some v → v = 0 := by
    intro p v hv
    have := List.getElem?_eq_some_iff.1 hv
    obtain ⟨h1, h2⟩ := this
    simp at h2
    exact h2.symm
  refine ⟨by simp, by simp; omega, fun p v hv h0 => absurd (z p v hv) h0, fun p q v hv _ h0 => absurd (z p v hv) h0, ?_, ?_⟩
  · intro i nd hi hn
    have := (List.getElem?_eq_some_iff.1 hn).1
    simp at this
    omega
  · intro i j nd md hi _ hn
    have := (List.getElem?_eq_some_iff.1 hn).1
    simp at this
    omega
end
/-! what the calls come to -/
def maxU : Nat := 18446744073709551615
def lvlN (ns : List Nd) (x : Nat) : Int := match ns[x]? with | some n => n.level | none => -1
def aliveOf (ns : List Nd) (x : Nat) : Nat := match ns[x]? with | some n => n.alive | none => 0
def kidsOf (ns : List Nd) (x : Nat) : K4 := match ns[x]? with | some n => n.k | none => ⟨0, 0, 0, 0⟩
def goodK (ns : List Nd) (k : K4) : Bool := decide (0 ≤ lvlN ns k.a) && decide (lvlN ns k.a < 62) && decide (lvlN ns k.b = lvlN ns k.a) && decide (lvlN ns k.c = lvlN ns k.a) && decide (lvlN ns k.d = lvlN ns k.a)
def findN (ns : List Nd) (k : K4) : Option Nat := (List.range ns.length).find? fun i => decide (2 ≤ i) && decide ((ns[i]?).map (·.k) = some k)
def newN (ns : List Nd) (k : K4) : Nd := ⟨k, (lvlN ns k.a).toNat + 1, min (aliveOf ns k.a + aliveOf ns k.b + aliveOf ns k.c + aliveOf ns k.d) maxU⟩
/-- Make: the number, the error's number, the squares then. -/
def makeN (ns : List Nd) (most : Nat) (k : K4) : Nat × Nat × List Nd :=
  if goodK ns k then
    match findN ns k with
    | some i => (i, 0, ns)
    | none => if most ≤ ns.length then (0, 7, ns) else (ns.length, 0, ns ++ [newN ns k])
  else (0, 1, ns)
theorem findN_some {ns : List Nd} {k : K4} {i : Nat} (h : findN ns k = some i) : 2 ≤ i ∧ ∃ nd, ns[i]? = some nd ∧ nd.k = k := by
  have := List.find?_some h
  simp only [Bool.and_eq_true, decide_eq_true_eq] at this
  obtain ⟨h1, h2⟩ := this
  cases hn : ns[i]? with
  | none => rw [hn] at h2; cases h2
  | some nd => rw [hn] at h2; injection h2 with h2; exact ⟨h1, nd, rfl, h2⟩
theorem findN_none {ns : List Nd} {k : K4} (h : ∀ (i : Nat) (nd : Nd), 2 ≤ i → ns[i]? = some nd → nd.k ≠ k) : findN ns k = none := by
  unfold findN
  rw [List.find?_eq_none]
  intro i _ hi
  simp only [Bool.and_eq_true, decide_eq_true_eq] at hi
  obtain ⟨h1, h2⟩ := hi
  cases hn : ns[i]? with
  | none => rw [hn] at h2; cases h2
  | some nd => rw [hn] at h2; injection h2 with h2; exact h i nd h1 hn h2
theorem findN_eq {h : K4 → Nat} {ns : List Nd} {tb : List Nat} (t : TabOk h ns tb) {k : K4} {i : Nat} {nd : Nd} (hi : 2 ≤ i) (hn : ns[i]? = some nd) (hk : nd.k = k) : findN ns k = some i := by
  cases hf : findN ns k with
  | none =>
    unfold findN at hf
    rw [List.find?_eq_none] at hf
    have hlt := (List.getElem?_eq_some_iff.1 hn).1
    have := hf i (List.mem_range.2 hlt)
    simp [hi, hn, hk] at this
  | some j =>
    obtain ⟨h1, md, h2, h3⟩ := findN_some hf
    rw [t.dist j i md nd h1 hi h2 hn (h3.trans hk.symm)]
/-- The squares as they should be. -/
structure StOk (ns : List Nd) : Prop where
  two : 2 ≤ ns.length
  dead : ns[0]? = some deadN
  alive : ns[1]? = some aliveN
  kids : ∀ (i : Nat) (nd : Nd), 2 ≤ i → ns[i]? = some nd → nd.k.a < i ∧ nd.k.b < i ∧ nd.k.c < i ∧ nd.k.d < i
  level : ∀ (i : Nat) (nd : Nd), 2 ≤ i → ns[i]? = some nd → 1 ≤ nd.level ∧ nd.level ≤ 62 ∧ lvlN ns nd.k.a = nd.level - 1 ∧ lvlN ns nd.k.b = nd.level - 1 ∧ lvlN ns nd.k.c = nd.level - 1 ∧ lvlN ns nd.k.d = nd.level - 1
  count : ∀ (i : Nat) (nd : Nd), 2 ≤ i → ns[i]? = some nd → nd.alive = min (aliveOf ns nd.k.a + aliveOf ns nd.k.b + aliveOf ns nd.k.c + aliveOf ns nd.k.d) maxU
theorem lvlN_lt {ns : List Nd} {x : Nat} (h : 0 ≤ lvlN ns x) : x < ns.length := by
  unfold lvlN at h
  split at h
  · rename_i h1; exact (List.getElem?_eq_some_iff.1 h1).1
  · omega
theorem lvlN_app {ns : List Nd} {x : Nat} (nd : Nd) (h : x < ns.length) : lvlN (ns ++ [nd]) x = lvlN ns x := by
  unfold lvlN; rw [List.getElem?_append_left h]
theorem aliveOf_app {ns : List Nd} {x : Nat} (nd : Nd) (h : x < ns.length) : aliveOf (ns ++ [nd]) x = aliveOf ns x := by
  unfold aliveOf; rw [List.getElem?_append_left h]
theorem StOk.push {ns : List Nd} (s : StOk ns) {k : K4} (g : goodK ns k = true) : StOk (ns ++ [newN ns k]) := by
  unfold goodK at g
  simp only [Bool.and_eq_true, decide_eq_true_eq] at g
  obtain ⟨⟨⟨⟨g1, g2⟩, g3⟩, g4⟩, g5⟩ := g
  have la := lvlN_lt g1
  have lb := lvlN_lt (show 0 ≤ lvlN ns k.b by omega)
  have lc := lvlN_lt (show 0 ≤ lvlN ns k.c by omega)
  have ld := lvlN_lt (show 0 ≤ lvlN ns k.d by omega)
  have h2 := s.two
  have cases_ : ∀ (i : Nat) (nd : Nd), (ns ++ [newN ns k])[i]? = some nd → (i < ns.length ∧ ns[i]? = some nd) ∨ (i = ns.length ∧ nd = newN ns k) := by
    intro i nd hn
    rw [List.getElem?_append] at hn
    split at hn
    · rename_i h; exact .inl ⟨h, hn⟩
    · have := (List.getElem?_eq_some_iff.1 hn).1
      simp at this
      have e : i = ns.length := by omega
      subst e
      simp at hn
      exact .inr ⟨rfl, hn.symm⟩
  refine ⟨by simp; omega, by rw [List.getElem?_append_left (by omega)]; exact s.dead, by rw [List.getElem?_append_left (by omega)]; exact s.alive, ?_, ?_, ?_⟩
  · intro i nd hi hn
    rcases cases_ i nd hn with ⟨_, h⟩ | ⟨rfl, rfl⟩
    · exact s.kids i nd hi h
    · exact ⟨la, lb, lc, ld⟩
  · intro i nd hi hn
    rcases cases_ i nd hn with ⟨hlt, h⟩ | ⟨rfl, rfl⟩
    · have hk := s.kids i nd hi h
      have hl := s.level i nd hi h
      rw [lvlN_app _ (by omega), lvlN_app _ (by omega), lvlN_app _ (by omega), lvlN_app _ (by omega)]
      exact hl
    · show 1 ≤ (lvlN ns k.a).toNat + 1 ∧ (lvlN ns k.a).toNat + 1 ≤ 62 ∧ lvlN (ns ++ [newN ns k]) k.a = ((lvlN ns k.a).toNat + 1 : Nat) - 1 ∧ lvlN (ns ++ [newN ns k]) k.b = ((lvlN ns k.a).toNat + 1 : Nat) - 1 ∧ lvlN (ns ++ [newN ns k]) k.c = ((lvlN ns k.a).toNat + 1 : Nat) - 1 ∧ lvlN (ns ++ [newN ns k]) k.d = ((lvlN ns k.a).toNat + 1 : Nat) - 1
      rw [lvlN_app _ la, lvlN_app _ lb, lvlN_app _ lc, lvlN_app _ ld]
      omega
  · intro i nd hi hn
    rcases cases_ i nd hn with ⟨hlt, h⟩ | ⟨rfl, rfl⟩
    · have hk := s.kids i nd hi h
      have hl := s.count i nd hi h
      rw [aliveOf_app _ (by omega), aliveOf_app _ (by omega), aliveOf_app _ (by omega), aliveOf_app _ (by omega)]
      exact hl
    · show min _ maxU = min (aliveOf (ns ++ [newN ns k]) k.a + aliveOf (ns ++ [newN ns k]) k.b + aliveOf (ns ++ [newN ns k]) k.c + aliveOf (ns ++ [newN ns k]) k.d) maxU
      rw [aliveOf_app _ la, aliveOf_app _ lb, aliveOf_app _ lc, aliveOf_app _ ld]
theorem StOk.fresh : StOk [deadN, aliveN] := by
  refine ⟨by simp, rfl, rfl, ?_, ?_, ?_⟩ <;>
  · intro i nd hi hn
    have := (List.getElem?_eq_some_iff.1 hn).1
    simp at this
    omega
end Go.Proofs.Ytjiliiclebdbfaa

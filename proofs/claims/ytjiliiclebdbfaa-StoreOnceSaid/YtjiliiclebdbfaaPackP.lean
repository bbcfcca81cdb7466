/- Plain law: a square packed out of 64 cells, four by four; the same number just for the same cells. -/
import Derived.Test.YtjiliiclebdbfaaQuadK
namespace Go.Proofs.Ytjiliiclebdbfaa
open Go.RowKit
set_option linter.unusedVariables false
set_option linter.unusedSimpArgs false

def q4 (L : List Nat) (j : Nat) : K4 := ⟨L.getD (4 * j) 0, L.getD (4 * j + 1) 0, L.getD (4 * j + 2) 0, L.getD (4 * j + 3) 0⟩
abbrev ResL := List Nat × Nat × List Nd
def packGo (most : Nat) (L : List Nat) : Nat → Nat → List Nat → List Nd → ResL
  | 0, _, out, ns => (out, 0, ns)
  | n + 1, j, out, ns => if (makeN ns most (q4 L j)).2.1 = 0 then packGo most L n (j + 1) (out ++ [(makeN ns most (q4 L j)).1]) (makeN ns most (q4 L j)).2.2 else ([], (makeN ns most (q4 L j)).2.1, (makeN ns most (q4 L j)).2.2)
def levelsN (most : Nat) : Nat → List Nat → List Nd → Res
  | 0, L, ns => (L.getD 0 0, 0, ns)
  | k + 1, L, ns => if (packGo most L (4 ^ k) 0 [] ns).2.1 = 0 then levelsN most k (packGo most L (4 ^ k) 0 [] ns).1 (packGo most L (4 ^ k) 0 [] ns).2.2 else (0, (packGo most L (4 ^ k) 0 [] ns).2.1, (packGo most L (4 ^ k) 0 [] ns).2.2)
def bitN (c i : Nat) : Nat := c / 2 ^ i % 2
theorem bitN_le (c i : Nat) : bitN c i ≤ 1 := by unfold bitN; omega
def bitsL (c : Nat) : List Nat := (List.range 64).map (bitN c)
def buildN (ns : List Nd) (most c : Nat) : Res := levelsN most 3 (bitsL c) ns
/-- The square x of level k has these cells, in the order in which it is packed. -/
def TreeN (ns : List Nd) : Nat → Nat → (Nat → Nat) → Prop
  | 0, x, f => x = f 0 ∧ x ≤ 1
  | k + 1, x, f => lvlN ns x = (k : Int) + 1 ∧ ∀ i, i < 4 → TreeN ns k (kid (kidsOf ns x) i) (fun j => f (i * 4 ^ k + j))
def sumF : Nat → (Nat → Nat) → Nat
  | 0, f => if f 0 = 1 then 1 else 0
  | k + 1, f => sumF k (fun j => f (0 * 4 ^ k + j)) + sumF k (fun j => f (1 * 4 ^ k + j)) + sumF k (fun j => f (2 * 4 ^ k + j)) + sumF k (fun j => f (3 * 4 ^ k + j))
section
variable {ns ns' : List Nd} {most : Nat}
theorem lvl_bit' (s : StOk ns) {x : Nat} (h : x ≤ 1) : lvlN ns x = 0 := by
  have h0 : lvlN ns 0 = 0 := by unfold lvlN; rw [s.dead]; rfl
  have h1 : lvlN ns 1 = 0 := by unfold lvlN; rw [s.alive]; rfl
  have e : x = 0 ∨ x = 1 := by omega
  rcases e with rfl | rfl
  · exact h0
  · exact h1
theorem TreeN.lvl (s : StOk ns) : ∀ {k x : Nat} {f : Nat → Nat}, TreeN ns k x f → lvlN ns x = k := by
  intro k
  cases k with
  | zero => intro x f h; exact lvl_bit' s h.2
  | succ k => intro x f h; rw [h.1]; omega
theorem TreeN.ext (e : Ext ns ns') (s : StOk ns) : ∀ {k x : Nat} {f : Nat → Nat}, TreeN ns k x f → TreeN ns' k x f := by
  intro k
  induction k with
  | zero => intro x f h; exact h
  | succ k ih =>
    intro x f h
    have hlt := lvlN_lt (show 0 ≤ lvlN ns x by rw [h.1]; omega)
    refine ⟨(e.lvl hlt).trans h.1, fun i hi => ?_⟩
    rw [e.kids hlt]
    exact ih (h.2 i hi)
theorem TreeN.inj (s : StOk ns) (d : ∀ (i j : Nat) (nd md : Nd), 2 ≤ i → 2 ≤ j → ns[i]? = some nd → ns[j]? = some md → nd.k = md.k → i = j) :
    ∀ {k x y : Nat} {f g : Nat → Nat}, TreeN ns k x f → TreeN ns k y g → (∀ j, j < 4 ^ k → f j = g j) → x = y := by
  intro k
  induction k with
  | zero => intro x y f g hx hy h; rw [hx.1, hy.1]; exact h 0 (by simp)
  | succ k ih =>
    intro x y f g hx hy h
    have lx := lvl_kids s (show lvlN ns x = (k : Int) + 1 from hx.1)
    have ly := lvl_kids s (show lvlN ns y = (k : Int) + 1 from hy.1)
    have gx := List.getElem?_eq_getElem lx.2.1
    have gy := List.getElem?_eq_getElem ly.2.1
    have kx : kidsOf ns x = ns[x].k := by unfold kidsOf; rw [gx]
    have ky : kidsOf ns y = ns[y].k := by unfold kidsOf; rw [gy]
    refine d x y _ _ lx.1 ly.1 gx gy ?_
    rw [← kx, ← ky]
    refine K4.ext4 fun i hi => ih (hx.2 i hi) (hy.2 i hi) fun j hj => h _ ?_
    have hp : 4 ^ (k + 1) = 4 ^ k * 4 := Nat.pow_succ ..
    have hm := Nat.mul_le_mul_right (4 ^ k) (show i ≤ 3 by omega)
    omega
theorem TreeN.same : ∀ {k x : Nat} {f g : Nat → Nat}, TreeN ns k x f → TreeN ns k x g → ∀ j, j < 4 ^ k → f j = g j := by
  intro k
  induction k with
  | zero =>
    intro x f g hx hy j hj
    obtain rfl : j = 0 := by simp at hj; omega
    exact hx.1.symm.trans hy.1
  | succ k ih =>
    intro x f g hx hy j hj
    have hpos : 0 < 4 ^ k := Nat.pow_pos (by omega)
    have hp : 4 ^ (k + 1) = 4 ^ k * 4 := Nat.pow_succ ..
    have hi : j / 4 ^ k < 4 := (Nat.div_lt_iff_lt_mul hpos).2 (by omega)
    have := ih (hx.2 _ hi) (hy.2 _ hi) (j % 4 ^ k) (Nat.mod_lt _ hpos)
    have e : j / 4 ^ k * 4 ^ k + j % 4 ^ k = j := Nat.div_add_mod' j (4 ^ k)
    simpa only [e] using this
theorem TreeN.cnt (s : StOk ns) : ∀ {k x : Nat} {f : Nat → Nat}, TreeN ns k x f → cntN ns k x = sumF k f := by
  intro k
  induction k with
  | zero => intro x f h; unfold cntN sumF; rw [← h.1]
  | succ k ih =>
    intro x f h
    show cntN ns k _ + cntN ns k _ + cntN ns k _ + cntN ns k _ = _
    rw [ih (h.2 0 (by omega)), ih (h.2 1 (by omega)), ih (h.2 2 (by omega)), ih (h.2 3 (by omega))]
    rfl
theorem q4_kid (L : List Nat) (j i : Nat) (hi : i < 4) : kid (q4 L j) i = L.getD (4 * j + i) 0 := by
  match i, hi with
  | 0, _ => rfl
  | 1, _ => rfl
  | 2, _ => rfl
  | 3, _ => rfl
theorem packGo_done {k m : Nat} {f : Nat → Nat} (hk : k < 62) : ∀ (n j : Nat) (L out : List Nat) (ns : List Nd), j + n = m → StOk ns → ns.length + n ≤ most → (∀ t, t < 4 * m → TreeN ns k (L.getD t 0) (fun u => f (t * 4 ^ k + u))) →
    out.length = j → (∀ t, t < j → TreeN ns (k + 1) (out.getD t 0) (fun u => f (t * 4 ^ (k + 1) + u))) →
    (packGo most L n j out ns).2.1 = 0 ∧ Ext ns (packGo most L n j out ns).2.2 ∧ StOk (packGo most L n j out ns).2.2 ∧ (packGo most L n j out ns).2.2.length ≤ ns.length + n ∧ (packGo most L n j out ns).1.length = m ∧
      ∀ t, t < m → TreeN (packGo most L n j out ns).2.2 (k + 1) ((packGo most L n j out ns).1.getD t 0) (fun u => f (t * 4 ^ (k + 1) + u)) := by
  intro n
  induction n with
  | zero =>
    intro j L out ns hj s hm hL ho hout
    exact ⟨rfl, .refl _, s, Nat.le_refl _, by show out.length = m; omega, fun t ht => hout t (by omega)⟩
  | succ n ih =>
    intro j L out ns hj s hm hL ho hout
    have hkl : ∀ i, lvlN ns (kid (q4 L j) i) = k := kid_cases (fun y => lvlN ns y = k) _ fun i hi => by
      rw [q4_kid L j i hi]
      exact (hL (4 * j + i) (by omega)).lvl s
    have d := make_done (most := most) (k := q4 L j) s hk hkl
    have h0 : (makeN ns most (q4 L j)).2.1 = 0 := by
      apply Classical.byContradiction
      intro h
      obtain ⟨e1, e2⟩ := make_err h
      have := (d.no h).2.2
      rw [e1] at this
      simp at this
      omega
    have md := made_of s h0
    unfold packGo
    rw [if_pos h0]
    generalize makeN ns most (q4 L j) = r at *
    obtain ⟨a1, a2, a3, a4, a5, a6⟩ := ih (j + 1) L (out ++ [r.1]) r.2.2 (by omega) d.ok (by have := d.len; omega) (fun t ht => (hL t ht).ext d.ext s) (by simp [ho]) (fun t ht => by
      by_cases e : t = j
      · subst e
        have eg : (out ++ [r.1]).getD t 0 = r.1 := by simp [List.getD_eq_getElem?_getD, ← ho]
        rw [eg]
        refine ⟨by rw [md.level]; have := hkl 0; simp only [kid] at this; omega, fun i hi => ?_⟩
        rw [md.kids, q4_kid L t i hi]
        have e2 : (fun u => f ((4 * t + i) * 4 ^ k + u)) = (fun j => f (t * 4 ^ (k + 1) + (i * 4 ^ k + j))) := by
          funext u
          congr 1
          rw [Nat.pow_succ, Nat.add_mul, Nat.mul_comm 4 t, Nat.mul_assoc, Nat.mul_comm 4 (4 ^ k)]
          omega
        have := (hL (4 * t + i) (by omega)).ext d.ext s
        rw [e2] at this
        exact this
      · have eg : (out ++ [r.1]).getD t 0 = out.getD t 0 := by simp [List.getD_eq_getElem?_getD, List.getElem?_append_left (show t < out.length by omega)]
        rw [eg]
        exact (hout t (by omega)).ext d.ext s)
    exact ⟨a1, d.ext.trans a2, a3, by have := d.len; omega, a5, a6⟩
theorem levels_done (f : Nat → Nat) : ∀ (k : Nat) (c : Nat) (L : List Nat) (ns : List Nd), c + k ≤ 62 → StOk ns → ns.length + 4 ^ k ≤ most → (∀ t, t < 4 ^ k → TreeN ns c (L.getD t 0) (fun u => f (t * 4 ^ c + u))) →
    (levelsN most k L ns).2.1 = 0 ∧ Ext ns (levelsN most k L ns).2.2 ∧ StOk (levelsN most k L ns).2.2 ∧ (levelsN most k L ns).2.2.length ≤ ns.length + 4 ^ k ∧ TreeN (levelsN most k L ns).2.2 (c + k) (levelsN most k L ns).1 f := by
  intro k
  induction k with
  | zero =>
    intro c L ns hc s hm hL
    refine ⟨rfl, .refl _, s, by show ns.length ≤ _; omega, ?_⟩
    have := hL 0 (by simp)
    simpa [levelsN] using this
  | succ k ih =>
    intro c L ns hc s hm hL
    have hp : 4 ^ (k + 1) = 4 ^ k * 4 := Nat.pow_succ ..
    have hpos : 0 < 4 ^ k := Nat.pow_pos (by omega)
    obtain ⟨a1, a2, a3, a4, a5, a6⟩ := packGo_done (most := most) (k := c) (m := 4 ^ k) (f := f) (by omega) (4 ^ k) 0 L [] ns (by omega) s (by omega) (fun t ht => hL t (by omega)) rfl (fun t ht => by omega)
    unfold levelsN
    rw [if_pos a1]
    generalize packGo most L (4 ^ k) 0 [] ns = r at *
    obtain ⟨b1, b2, b3, b4, b5⟩ := ih (c + 1) r.1 r.2.2 (by omega) a3 (by omega) a6
    refine ⟨b1, a2.trans b2, b3, by omega, ?_⟩
    rw [show c + (k + 1) = c + 1 + k by omega]
    exact b5
theorem bits_get (c t : Nat) (ht : t < 64) : (bitsL c).getD t 0 = bitN c t := by
  unfold bitsL
  simp [List.getD_eq_getElem?_getD, ht]
/-- The square of 64 cells, where there is room. -/
theorem build_done (c : Nat) (s : StOk ns) (hm : ns.length + 64 ≤ most) : (buildN ns most c).2.1 = 0 ∧ Ext ns (buildN ns most c).2.2 ∧ StOk (buildN ns most c).2.2 ∧ (buildN ns most c).2.2.length ≤ ns.length + 64 ∧ TreeN (buildN ns most c).2.2 3 (buildN ns most c).1 (bitN c) := by
  have := levels_done (most := most) (bitN c) 3 0 (bitsL c) ns (by omega) s (by simpa using hm) (fun t ht => by
    rw [bits_get c t (by simpa using ht)]
    exact ⟨by simp, bitN_le c t⟩)
  exact this
def sumTo (c : Nat) : Nat → Nat
  | 0 => 0
  | i + 1 => sumTo c i + bitN c i
theorem bit_if (c i : Nat) : (if bitN c i = 1 then 1 else 0) = bitN c i := by
  have := bitN_le c i
  split <;> omega
theorem sum_all (c : Nat) : sumF 3 (bitN c) = sumTo c 64 := by
  simp only [sumF, sumTo, bit_if]
  simp
  omega
theorem sumTo_le (c : Nat) : ∀ i, sumTo c i ≤ i := by
  intro i
  induction i with
  | zero => exact Nat.le_refl _
  | succ i ih => have := bitN_le c i; show sumTo c i + bitN c i ≤ i + 1; omega
theorem bits_inj (c d : Nat) (hc : c < 2 ^ 64) (hd : d < 2 ^ 64) (h : ∀ i, i < 64 → bitN c i = bitN d i) : c = d := by
  apply Nat.eq_of_testBit_eq
  intro i
  by_cases hi : i < 64
  · have := h i hi
    unfold bitN at this
    rw [Nat.testBit_eq_decide_div_mod_eq, Nat.testBit_eq_decide_div_mod_eq, this]
  · have e : ∀ n : Nat, n < 2 ^ 64 → n.testBit i = false := fun n hn => Nat.testBit_lt_two_pow (Nat.lt_of_lt_of_le hn (Nat.pow_le_pow_right (by omega) (by omega)))
    rw [e c hc, e d hd]
end
end Go.Proofs.Ytjiliiclebdbfaa

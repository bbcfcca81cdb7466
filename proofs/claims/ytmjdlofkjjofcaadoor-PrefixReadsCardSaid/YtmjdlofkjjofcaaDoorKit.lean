/- Small lemmas for the walks of this seat; no program in sight. -/
import Derived.WalkKit
import Derived.Handy
import Derived.KernelRfl
import Derived.Lib.Hide
import Derived.Deep.QuietTactic
namespace Go.Proofs.YtmjdlofkjjofcaaDoor
open Go.RowKit

theorem ret_int {k : IntKind} {a b : Int} (h : a = b) : Ending.returned (.int k a) = .returned (.int k b) := by rw [h]
theorem ret_bool {a b : Bool} (h : a = b) : Ending.returned (.bool a) = .returned (.bool b) := by rw [h]
theorem below_dn {B : Nat} {w W : World} (h : Below B w W) (n : Nat) : Below B w (W.drewN n) := ⟨h.os, h.tape, h.output, h.size, h.block⟩
/-- 'Below' over one more call. -/
theorem below_call {B : Nat} {w W W' : World} (h : Below B w W) (hB : B ≤ W.heap.size) (k : Below W.heap.size W W') : Below B w W' := h.trans (k.mono hB)

theorem bcell {W w1 : World} (hb : Below W.heap.size W w1) : (∀ b o, b < W.heap.size → w1.cell? ⟨b, o, none⟩ = W.cell? ⟨b, o, none⟩) ∧ (∀ b o, b < W.heap.size → w1.frozen? ⟨b, o, none⟩ = W.frozen? ⟨b, o, none⟩) :=
  ⟨fun b o h => hb.cell (p := ⟨b, o, none⟩) h, fun b o h => hb.frozen (p := ⟨b, o, none⟩) h⟩
/-- All that stood in w1 is in W as it was; for 'go_region_held3'. -/
abbrev KP (w1 W : World) : Prop := (∀ b o, b < w1.heap.size → W.cell? ⟨b, o, none⟩ = w1.cell? ⟨b, o, none⟩) ∧ (∀ b o, b < w1.heap.size → W.frozen? ⟨b, o, none⟩ = w1.frozen? ⟨b, o, none⟩) ∧ w1.heap.size ≤ W.heap.size ∧ Below w1.heap.size w1 W
theorem kp_of {w1 W : World} (h : Below w1.heap.size w1 W) : KP w1 W :=
  ⟨fun b o hlt => h.cell (p := ⟨b, o, none⟩) hlt, fun b o hlt => h.frozen (p := ⟨b, o, none⟩) hlt, h.size, h⟩
theorem kp_refl (w1 : World) : KP w1 w1 := kp_of (Below.refl _ _)
theorem kp_below {w1 W W' : World} (h : KP w1 W) (hb : Below W.heap.size W W') : KP w1 W' := kp_of (h.2.2.2.trans (hb.mono h.2.2.1))
theorem kp_drew {w1 W : World} (h : KP w1 W) : KP w1 W.drew := kp_of h.2.2.2.drew
theorem kp_alloc {w1 W : World} (h : KP w1 W) (o : Obj) : KP w1 (W.alloc o) := kp_of (h.2.2.2.alloc h.2.2.1 o)
theorem kp_set {w1 W : World} (h : KP w1 W) {a : Addr} (ha : w1.heap.size ≤ a.block) (v : Value) : KP w1 (W.setCell a v) := kp_of (h.2.2.2.setCell ha v)
theorem lt_rule0 {n m : Nat} (h : n ≤ m) : ∀ b, b < n → b < m := fun b hb => by omega
theorem lt_rule1 {n m : Nat} (h : n + 1 ≤ m) : (∀ b, b < n → b < m) ∧ n < m := ⟨fun b hb => by omega, by omega⟩
theorem lt_rule2 {n m : Nat} (h : n + 1 + 1 ≤ m) : (∀ b, b < n → b < m) ∧ n < m ∧ n + 1 < m := ⟨fun b hb => by omega, by omega, by omega⟩
theorem lt_rule3 {n m : Nat} (h : n + 1 + 1 + 1 ≤ m) : (∀ b, b < n → b < m) ∧ n < m ∧ n + 1 < m ∧ n + 1 + 1 < m := ⟨fun b hb => by omega, by omega, by omega, by omega⟩
theorem lt_rule4 {n m : Nat} (h : n + 1 + 1 + 1 + 1 ≤ m) : (∀ b, b < n → b < m) ∧ n < m ∧ n + 1 < m ∧ n + 1 + 1 < m ∧ n + 1 + 1 + 1 < m := ⟨fun b hb => by omega, by omega, by omega, by omega, by omega⟩
theorem lt_rule5 {n m : Nat} (h : n + 1 + 1 + 1 + 1 + 1 ≤ m) : (∀ b, b < n → b < m) ∧ n < m ∧ n + 1 < m ∧ n + 1 + 1 < m ∧ n + 1 + 1 + 1 < m ∧ n + 1 + 1 + 1 + 1 < m := ⟨fun b hb => by omega, by omega, by omega, by omega, by omega, by omega⟩
theorem lt_rule6 {n m : Nat} (h : n + 1 + 1 + 1 + 1 + 1 + 1 ≤ m) : (∀ b, b < n → b < m) ∧ n < m ∧ n + 1 < m ∧ n + 1 + 1 < m ∧ n + 1 + 1 + 1 < m ∧ n + 1 + 1 + 1 + 1 < m ∧ n + 1 + 1 + 1 + 1 + 1 < m := ⟨fun b hb => by omega, by omega, by omega, by omega, by omega, by omega, by omega⟩
theorem c_set_ne {W : World} {b o b' o' : Nat} {v : Value} (h : b ≠ b' ∨ o ≠ o') : (W.setCell ⟨b, o, none⟩ v).cell? ⟨b', o', none⟩ = W.cell? ⟨b', o', none⟩ :=
  World.cell?_setCell_other _ _ _ _ (by intro e; injection e with e1 e2; rcases h with h | h <;> contradiction)
theorem c_set_eq {W : World} {b o : Nat} {v : Value} (h : (W.cell? ⟨b, o, none⟩).isSome = true) : (W.setCell ⟨b, o, none⟩ v).cell? ⟨b, o, none⟩ = some v := by
  obtain ⟨u, hu⟩ := Option.isSome_iff_exists.1 h
  exact World.cell?_setCell_same _ _ _ hu
theorem c_alloc_lt {W : World} {O : Obj} {b o : Nat} (h : b < W.heap.size) : (W.alloc O).cell? ⟨b, o, none⟩ = W.cell? ⟨b, o, none⟩ := World.cell?_alloc_lt W O ⟨b, o, none⟩ h
theorem c_alloc_eq {W : World} {c : Array Value} {t : TypeId} {b o : Nat} (h : b = W.heap.size) : (W.alloc (.cells c t)).cell? ⟨b, o, none⟩ = c[o]? := by subst h; exact World.cell?_alloc_new W c t o
theorem c_drew {W : World} {a : Addr} : W.drew.cell? a = W.cell? a := rfl
def maxI (a b : Int) : Int := if a < b then b else a
def minI (a b : Int) : Int := if b < a then b else a
theorem maxI_eq (a b : Int) : maxI a b = max a b := by unfold maxI; omega
theorem minI_eq (a b : Int) : minI a b = min a b := by unfold minI; omega
theorem max2_int (k k' : IntKind) (x y : Int) : Builtin.max2 (.int k x) (.int k' y) = pure (.int k (maxI x y)) := by simp only [Builtin.max2, gt_iff_lt, maxI]
theorem min2_int (k k' : IntKind) (x y : Int) : Builtin.min2 (.int k x) (.int k' y) = pure (.int k (minI x y)) := by simp only [Builtin.min2, minI]
theorem max_two (ats : Array TypeId) (ty : TypeId) (a b : Value) : Builtin.max_ ats ty #[a, b] = (Builtin.max2 a b >>= fun s => pure s) := by simp only [Builtin.max_, List.foldlM_cons, List.foldlM_nil]
theorem min_two (ats : Array TypeId) (ty : TypeId) (a b : Value) : Builtin.min_ ats ty #[a, b] = (Builtin.min2 a b >>= fun s => pure s) := by simp only [Builtin.min_, List.foldlM_cons, List.foldlM_nil]
theorem i64_w (n : Int) : IntKind.i64.wrap n = wrap64 n := by unfold wrap64; exact IntKind.wrap_i64 n
/-- Block b of W holds just these cells, and may be written. -/
def Pt (W : World) (b : Nat) (cs : Array Value) (T : TypeId) : Prop := W.heap[b]? = some (.cells cs T (0, 0))
theorem Pt.lt {W : World} {b : Nat} {cs : Array Value} {T : TypeId} (h : Pt W b cs T) : b < W.heap.size := (Array.getElem?_eq_some_iff.1 h).1
theorem Pt.cell {W : World} {b : Nat} {cs : Array Value} {T : TypeId} (h : Pt W b cs T) : ∀ o, W.cell? ⟨b, o, none⟩ = cs[o]? := fun o => by
  unfold Pt at h
  simp [World.cell?, h]
theorem Pt.frozen {W : World} {b : Nat} {cs : Array Value} {T : TypeId} (h : Pt W b cs T) : ∀ o, W.frozen? ⟨b, o, none⟩ = false := fun o => by
  unfold Pt at h
  simp [World.frozen?, h]
theorem Pt.keep {W W' : World} {b : Nat} {cs : Array Value} {T : TypeId} (h : Pt W b cs T) (hb : Below W.heap.size W W') : Pt W' b cs T := (hb.block b h.lt).trans h
theorem Pt.alloc {W : World} {b : Nat} {cs : Array Value} {T : TypeId} (h : Pt W b cs T) (O : Obj) : Pt (W.alloc O) b cs T := h.keep ((Below.refl _ _).alloc (Nat.le_refl _) O)
theorem Pt.new (W : World) (cs : Array Value) (T : TypeId) : Pt (W.alloc (.cells cs T)) W.heap.size cs T := by
  unfold Pt
  show (W.heap.push _)[W.heap.size]? = _
  simp
theorem Pt.new' {W : World} {b : Nat} {cs : Array Value} {T : TypeId} (h : b = W.heap.size) : Pt (W.alloc (.cells cs T)) b cs T := by subst h; exact Pt.new W cs T
theorem Pt.drew {W : World} {b : Nat} {cs : Array Value} {T : TypeId} (h : Pt W b cs T) : Pt W.drew b cs T := h
theorem Pt.set_ne {W : World} {b : Nat} {cs : Array Value} {T : TypeId} (h : Pt W b cs T) {a : Addr} (ha : a.block ≠ b) (v : Value) : Pt (W.setCell a v) b cs T := by
  unfold Pt at *
  rw [Below.heap_setCell _ _ _ _ (Ne.symm ha)]
  exact h
theorem Pt.set {W : World} {b : Nat} {cs : Array Value} {T : TypeId} (h : Pt W b cs T) (o : Nat) (v : Value) : Pt (W.setCell ⟨b, o, none⟩ v) b (cs.setIfInBounds o v) T := by
  unfold Pt at *
  simp only [World.setCell, Array.getElem?_modify, if_true, h, Option.map_some]
  rfl
theorem w64 {n : Int} (h : -9223372036854775808 ≤ n) (h' : n ≤ 9223372036854775807) : wrap64 n = n := by unfold wrap64; omega
theorem mul_bound (u t : Int) (ht : 1 ≤ t) (h1 : -4611686018427387904 ≤ u * t) (h2 : u * t ≤ 4611686018427387904) : -4611686018427387904 ≤ u ∧ u ≤ 4611686018427387904 := by
  constructor
  · apply Int.not_lt.1
    intro h
    have := Int.mul_le_mul_of_nonneg_right (show u ≤ -4611686018427387905 by omega) (show 0 ≤ t by omega)
    omega
  · apply Int.not_lt.1
    intro h
    have := Int.mul_le_mul_of_nonneg_right (show 4611686018427387905 ≤ u by omega) (show 0 ≤ t by omega)
    omega
theorem pow_z (z : Int) (hz' : z ≤ 16) : (1 : Int) ≤ 2 ^ z.toNat ∧ (2 : Int) ^ z.toNat ≤ 65536 := by
  have s1 := Nat.one_le_two_pow (n := z.toNat)
  have s2 : 2 ^ z.toNat ≤ 2 ^ 16 := Nat.pow_le_pow_right (n := 2) (by decide) (show z.toNat ≤ 16 by omega)
  have e : ((2 ^ z.toNat : Nat) : Int) = (2 : Int) ^ z.toNat := by simp
  rw [← e]
  generalize 2 ^ z.toNat = s at *
  omega
theorem area_arith (x t : Int) (ht : 1 ≤ t) (ht' : t ≤ 1048576) (hx : -4611686018427387904 ≤ x * t) (hx' : x * t ≤ 4611686018427387904) :
    wrap64 (x * t) = x * t ∧ wrap64 (wrap64 (x + 1) * t) = (x + 1) * t := by
  have b := mul_bound x t ht hx hx'
  have x1 : (x + 1) * t = x * t + t := by rw [Int.add_mul, Int.one_mul]
  rw [w64 (n := x + 1) (by omega) (by omega), x1]
  exact ⟨w64 (by omega) (by omega), w64 (by omega) (by omega)⟩
end Go.Proofs.YtmjdlofkjjofcaaDoor

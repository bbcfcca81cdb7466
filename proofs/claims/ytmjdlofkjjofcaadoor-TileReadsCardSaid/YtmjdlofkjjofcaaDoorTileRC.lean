/- TileReads: words for its walk. -/
import Derived.Test.YtmjdlofkjjofcaaDoorProg
import Derived.Test.YtmjdlofkjjofcaaDoorKit
import Derived.Test.YtmjdlofkjjofcaaDoorKitb
import Derived.Test.YtmjdlofkjjofcaaDoorBytes
import Derived.Test.YtmjdlofkjjofcaaDoorOnly
import Derived.Test.YtmjdlofkjjofcaaDoorInts
import Derived.Test.YtmjdlofkjjofcaaDoorErr
import Derived.Test.YtmjdlofkjjofcaaDoorFault
import Derived.Test.YtmjdlofkjjofcaaDoorStr
import Derived.Test.YtmjdlofkjjofcaaDoorPrefixV
import Derived.Test.YtmjdlofkjjofcaaDoorReader
import Derived.Test.YtmjdlofkjjofcaaDoorReaderM
import Derived.Test.YtmjdlofkjjofcaaDoorRdMore
import Derived.Test.YtmjdlofkjjofcaaDoorRefRd
import Derived.Test.YtmjdlofkjjofcaaDoorTileV
import Derived.Test.YtmjdlofkjjofcaaDoorTile
import Derived.Test.YtmjdlofkjjofcaaDoorTileP
import Derived.Test.YtmjdlofkjjofcaaDoorTileG
import Derived.Test.YtmjdlofkjjofcaaDoorTileL
import Derived.Test.YtmjdlofkjjofcaaDoorTileRG
import Derived.Test.YtmjdlofkjjofcaaDoorTileEq
import Derived.Test.YtmjdlofkjjofcaaDoorAs
import Derived.Test.YtmjdlofkjjofcaaDoorAsE
import Derived.Deep.QuietTactic
import Derived.BigQuiet
import Derived.Deep.RegionWith
import Derived.Deep.DeepCutAuto
import Derived.Deep.WholeRow
import Derived.Deep.DrawnRows
namespace Go.Proofs.YtmjdlofkjjofcaaDoor
open Go.RowKit
set_option linter.unusedVariables false
set_option linter.unusedSimpArgs false

attribute [local go_sem ↓] Go.wp_at_zero Go.wp_at_succ
theorem box_rm (W : World) (A : Option Addr) (c : Nat) (l : List UInt8) (h : Bs W W.heap.size A l) (hc : l.length ≤ c ∧ c ≤ 4611686018427387904) :
    RM (W.alloc (.cells #[.slice A l.length c, .int .i64 0, .int .i64 0, .int .i64 0] 29)) W.heap.size A c l 0 0 0 :=
  ⟨Pt.new W _ _, bs_at h ((Below.refl _ _).alloc (Nat.le_refl _) _), Nat.zero_le _, hc.1, hc.2⟩
theorem box_rm' (W : World) (M : Nat) (hM : M = W.heap.size) (A : Option Addr) (c : Nat) (l : List UInt8) (h : Bs W W.heap.size A l) (hc : l.length ≤ c ∧ c ≤ 4611686018427387904) :
    RM (W.alloc (.cells #[.slice A l.length c, .int .i64 0, .int .i64 0, .int .i64 0] 29)) M A c l 0 0 0 := by subst hM; exact box_rm W A c l h hc
theorem Rd.beside {w w' : World} {P R : Nat} {l : List UInt8} {at_ : Nat} {er : Er} {cs : Array Value} {T : TypeId} (h : Rd w P l at_ er) (hR : Pt w R cs T) (h8 : ∀ (i : Nat) m, cs[i]? ≠ some (.int .u8 m)) (hs : ∀ s p v, cs ≠ #[.string s, .int .i64 p, v]) (k : Only R w w') (hne : P ≠ R) : Rd w' P l at_ er := by
  obtain ⟨A, c, v, h1, h2, h3, h4⟩ := h
  exact ⟨A, c, v, h1.only k hne, h2.only hR h8 k, EV.only hR hs k h3, h4⟩
theorem rm_st (A : Option Addr) (n c : Nat) (a b d : Int) : ∀ s p v, #[Value.slice A n c, .int .i64 a, .int .i64 b, .int .i64 d] ≠ #[.string s, .int .i64 p, v] := by
  intro s p v h
  have := congrArg Array.size h
  simp at this
theorem qg_tile (a b : Array Value) (x y : Operand) (w : World) : (eqGuard .neq 46 x y (.agg a) (.agg b)).run Tryd.prog w = .ok () w := by
  simp only [eqGuard]
  kernel_rfl
end Go.Proofs.YtmjdlofkjjofcaaDoor

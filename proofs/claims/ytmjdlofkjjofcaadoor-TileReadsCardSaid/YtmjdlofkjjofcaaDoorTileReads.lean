/- TileReads, walked. -/
import Derived.Test.YtmjdlofkjjofcaaDoorProg
import Derived.Test.YtmjdlofkjjofcaaDoorKit
import Derived.Test.YtmjdlofkjjofcaaDoorKitb
import Derived.Test.YtmjdlofkjjofcaaDoorBytes
import Derived.Test.YtmjdlofkjjofcaaDoorOnly
import Derived.Test.YtmjdlofkjjofcaaDoorInts
import Derived.Test.YtmjdlofkjjofcaaDoorTileL
import Derived.Test.YtmjdlofkjjofcaaDoorTileRA
import Derived.Test.YtmjdlofkjjofcaaDoorTileRB
namespace Go.Proofs.YtmjdlofkjjofcaaDoor
open Go.RowKit
set_option linter.unusedVariables false
theorem tileReads_out (A : Option Addr) (c n : Nat) (w : World) (hl : n > 300) :
    Calls Tryd.prog 4 #[.slice A n c] w fun e w' => e = .returned (.bool true) ∧ Below w.heap.size w w' := by
  have HB := Lib.hid (Below.refl w.heap.size w)
  have g1 : decide ((n : Int) > 300) = true := decide_eq_true (by omega)
  clear hl
  go_enter Tryd.func4, Tryd.ntmps4
  go_wp2_with ((go_at_call 22); (with_reducible refine (lives15_any _).mono ?_); rintro e w1 ⟨rfl, b1⟩; have HB := Lib.hid (b_next HB.out b1); clear b1)
  go_ret
  exact ⟨rfl, HB.out⟩
theorem tileReads_walk (A : Option Addr) (c : Nat) (l : List UInt8) {w : World} (h : Bs w w.heap.size A l) (hc : l.length ≤ c) (hc2 : c ≤ 140737488351232) (hg : HT w) :
    Calls Tryd.prog 4 #[.slice A l.length c] w fun e w' => e = .returned (.bool true) ∧ Below w.heap.size w w' := by
  by_cases hl : l.length > 300
  · exact tileReads_out A c l.length w hl
  · cases ho : getT l 16 0 [] 0 true with
    | ok rows to_ => exact tileReads_ok A c l rows to_ w h ⟨hc, by omega⟩ (by omega) hg ho
    | read E a => exact tileReads_read A c l E a w h ⟨hc, by omega⟩ (by omega) hg ho (getT_read l _ _ _ _ _ _ _ ho)
    | row y a => exact tileReads_row A c l y a w h ⟨hc, by omega⟩ (by omega) hg ho
end Go.Proofs.YtmjdlofkjjofcaaDoor

/- A reader whose bytes are its own. -/
import Derived.Test.YtmjdlofkjjofcaaDoorProg
import Derived.Test.YtmjdlofkjjofcaaDoorKit
import Derived.Test.YtmjdlofkjjofcaaDoorKitb
import Derived.Test.YtmjdlofkjjofcaaDoorBytes
import Derived.Test.YtmjdlofkjjofcaaDoorOnly
import Derived.Test.YtmjdlofkjjofcaaDoorErr
import Derived.Test.YtmjdlofkjjofcaaDoorFault
import Derived.Test.YtmjdlofkjjofcaaDoorApp
import Derived.Test.YtmjdlofkjjofcaaDoorAppSet
import Derived.Test.YtmjdlofkjjofcaaDoorAppS
import Derived.Test.YtmjdlofkjjofcaaDoorSlices
import Derived.Test.YtmjdlofkjjofcaaDoorPrefixV
import Derived.Test.YtmjdlofkjjofcaaDoorReader
import Derived.Test.YtmjdlofkjjofcaaDoorReaderM
import Derived.Test.YtmjdlofkjjofcaaDoorRefRd
namespace Go.Proofs.YtmjdlofkjjofcaaDoor
open Go.RowKit
set_option linter.unusedVariables false
set_option linter.unusedSimpArgs false
/-- Bytes of blocks from B on, while blocks below B turn. -/
theorem Row.above {w w' : World} {B : Nat} {e : TypeId} {v : Value} {l : List UInt8} {G : Nat} (h : Row w B e v l) (hG : G < B) (k : Only G w w') : Row w' B e v l := by
  obtain ⟨h1, h2⟩ := h
  refine ⟨h1, ?_⟩
  rcases h2 with h0 | ⟨g, cap, cur, rfl, h3, h4, h5⟩
  · exact .inl h0
  · exact .inr ⟨g, cap, cur, rfl, h3, (k.block g (Array.getElem?_eq_some_iff.1 h4).1 (by omega)).trans h4, h5⟩
theorem read_new (A : Option Addr) (n c : Nat) (l : List UInt8) (hn : n = l.length) (w : World) (h : Bs w w.heap.size A l) (hl : l.length ≤ 140737488355328) :
    Calls Tryd.prog 9 #[.slice A n c] w fun e w' => ∃ P A1 c1, e = .returned (.pointer (some ⟨P, 0, none⟩)) ∧ Pt w' P #[.slice A1 l.length c1, .int .i64 0, .nilIface] 97 ∧ Row w' w.heap.size 5 (.slice A1 l.length c1) l ∧ w.heap.size ≤ P ∧ Below w.heap.size w w' := by
  have H := Lib.hid h
  have HN := Lib.hid hn
  have HL := Lib.hid hl
  clear h hn hl
  go_enter Tryd.func9, Tryd.ntmps9
  go_wp2_with ((go_at_call 52); (with_reducible refine (clone_any A n c l HN.out _ H.out HL.out).mono ?_); rintro e w1 ⟨A1, c1, rfl, r1, b1⟩; have R1 := Lib.hid r1; have B1 := Lib.hid b1; clear r1 b1)
  go_ret
  exact ⟨w1.heap.size, A1, c1, rfl, Pt.new _ _ _, R1.out.keep ((Below.refl _ _).alloc (Nat.le_refl _) _), B1.out.size, B1.out.alloc B1.out.size _⟩
/-- A reader out of its parts. -/
theorem rd_of {w : World} {P B : Nat} {A1 : Option Addr} {c1 : Nat} {l : List UInt8} (h : Pt w P #[.slice A1 l.length c1, .int .i64 0, .nilIface] 97) (r : Row w B 5 (.slice A1 l.length c1) l) (hl : l.length ≤ 9223372036854775807) : Rd w P l 0 .nil := by
  have hcap := AppS.cap (AppS.row r rfl) hl
  exact ⟨A1, c1, .nilIface, h, r.bs', rfl, Nat.zero_le _, hcap.1, hcap.2⟩
theorem rm_of {w : World} {M B : Nat} {A1 : Option Addr} {c1 : Nat} {l : List UInt8} (h : Pt w M #[.slice A1 l.length c1, .int .i64 0, .int .i64 0, .int .i64 0] 29) (r : Row w B 5 (.slice A1 l.length c1) l) (hl : l.length ≤ 9223372036854775807) : RM w M A1 c1 l 0 0 0 := by
  have hcap := AppS.cap (AppS.row r rfl) hl
  exact ⟨h, r.bs', Nat.zero_le _, hcap.1, hcap.2⟩
end Go.Proofs.YtmjdlofkjjofcaaDoor

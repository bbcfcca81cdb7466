/- TileBytes, for any input. -/
import Derived.Test.YtmjdlofkjjofcaaProg
import Derived.Test.YtmjdlofkjjofcaaKit
import Derived.Test.YtmjdlofkjjofcaaKitb
import Derived.Test.YtmjdlofkjjofcaaOpen
import Derived.Test.YtmjdlofkjjofcaaBytes
import Derived.Test.YtmjdlofkjjofcaaTile
import Derived.Test.YtmjdlofkjjofcaaTileL
import Derived.Test.YtmjdlofkjjofcaaTileBytes
namespace Go.Proofs.Ytmjdlofkjjofcaa
open Go.RowKit
set_option linter.unusedVariables false
theorem zip_rep : ∀ (m : Nat) (ns : List Int), ns.length = m → List.zipWith Value.int (List.replicate m IntKind.u16) ns = ns.map (Value.int .u16)
  | 0, ns, h => by
    obtain rfl : ns = [] := List.eq_nil_of_length_eq_zero h
    rfl
  | m + 1, [], h => by simp at h
  | m + 1, n :: ns, h => by
    rw [List.replicate_succ, List.zipWith_cons_cons, zip_rep m ns (by simpa using h)]
    rfl
theorem nat_of : ∀ (ns : List Int), (∀ n ∈ ns, 0 ≤ n) → ns = (ns.map Int.toNat).map fun (k : Nat) => (k : Int)
  | [], _ => rfl
  | n :: ns, h => by
    have h1 := h n (by simp)
    rw [List.map_cons, List.map_cons, ← nat_of ns (fun x hx => h x (List.mem_cons_of_mem _ hx))]
    congr 1
    omega
set_option maxRecDepth 100000 in
theorem open_tile {w : World} {base : Nat} {v0 : Value} (h0 : Value.okWide Try.prog w .any base 71 v0) : ∃ bs : List Nat, bs.length = 16 ∧ (∀ v ∈ bs, v < 65536) ∧ v0 = .agg (cellsT bs) := by
  obtain ⟨ns, hl, rfl, hr⟩ := ok_ints (P := Try.prog) (List.replicate 16 IntKind.u16) (ts := List.replicate 16 69) (by kernel_rfl) (by kernel_rfl) (by kernel_rfl) (by kernel_rfl) h0
  have hl' : ns.length = 16 := by rw [hl]; rfl
  have hb : ∀ n ∈ ns, 0 ≤ n ∧ n ≤ 65535 := by
    intro n hn
    obtain ⟨i, hi, rfl⟩ := List.getElem_of_mem hn
    have := hr i .u16 ns[i] (by rw [List.getElem?_replicate, if_pos (by omega)]) (List.getElem?_eq_getElem hi)
    exact u16_rng this
  refine ⟨ns.map Int.toNat, by rw [List.length_map, hl'], ?_, ?_⟩
  · intro v hv
    rw [List.mem_map] at hv
    obtain ⟨n, hn, rfl⟩ := hv
    have := hb n hn
    omega
  · rw [zip_rep 16 ns hl']
    unfold cellsT
    conv => lhs; rw [nat_of ns (fun n hn => (hb n hn).1)]
    rw [List.map_map]
    rfl
set_option maxRecDepth 100000 in
theorem tileBytes_out (bs : List Nat) (A : Option Addr) (c n : Nat) (w : World) (hl : n > 200) :
    Calls Try.prog 7 #[.agg (cellsT bs), .slice A n c] w fun e w' => e = .returned (.bool true) ∧ Below w.heap.size w w' := by
  have hfl := flat_cells bs
  have HB := Lib.hid (show Below w.heap.size w (w.alloc (.cells (cellsT bs) 71)) from (Below.refl _ _).alloc (Nat.le_refl _) _)
  have g1 : decide ((n : Int) > 200) = true := decide_eq_true (by omega)
  clear hl
  go_enter Try.func7, Try.ntmps7
  go_wp2_with ((go_at_call 49); (with_reducible refine (lives15_any _).mono ?_); rintro e w1 ⟨rfl, b1⟩; have HB := Lib.hid (b_next HB.out b1); clear b1)
  go_ret
  exact ⟨rfl, HB.out⟩
set_option maxRecDepth 100000 in
theorem tileBytes_walk (v0 : Value) (A : Option Addr) (c : Nat) (l : List UInt8) {w : World} {base : Nat} (h0 : Value.okWide Try.prog w .any base 71 v0) (h : Bs w w.heap.size A l) (hc : l.length ≤ c) (hc2 : c ≤ 140737488351232) :
    Calls Try.prog 7 #[v0, .slice A l.length c] w fun e w' => e = .returned (.bool true) ∧ Below w.heap.size w w' := by
  obtain ⟨bs, h16, hb, rfl⟩ := open_tile h0
  by_cases hl : l.length > 200
  · exact tileBytes_out bs A c l.length w hl
  · exact tileBytes_in bs h16 hb A c l w h (by omega)
end Go.Proofs.Ytmjdlofkjjofcaa

/- The reference's tile out of bytes. -/
import Derived.Test.YtmjdlofkjjofcaaDoorProg
import Derived.Test.YtmjdlofkjjofcaaDoorKit
import Derived.Test.YtmjdlofkjjofcaaDoorKitb
import Derived.Test.YtmjdlofkjjofcaaDoorBytes
import Derived.Test.YtmjdlofkjjofcaaDoorOnly
import Derived.Test.YtmjdlofkjjofcaaDoorFault
import Derived.Test.YtmjdlofkjjofcaaDoorPrefixV
import Derived.Test.YtmjdlofkjjofcaaDoorReader
import Derived.Test.YtmjdlofkjjofcaaDoorRdMore
import Derived.Test.YtmjdlofkjjofcaaDoorRefRd
import Derived.Test.YtmjdlofkjjofcaaDoorTileV
import Derived.Test.YtmjdlofkjjofcaaDoorTile
import Derived.Test.YtmjdlofkjjofcaaDoorTileP
import Derived.Test.YtmjdlofkjjofcaaDoorTileG
import Derived.Test.YtmjdlofkjjofcaaDoorTileRow
import Derived.Laws.BitsAllLaws
import Derived.Laws.Rows
import Derived.Laws.Tables
import Derived.Deep.QuietTactic
import Derived.Deep.DeepCutAuto
import Derived.Deep.RegionLaw
import Derived.BigQuiet
namespace Go.Proofs.YtmjdlofkjjofcaaDoor
open Go.RowKit
set_option linter.unusedVariables false
set_option linter.unusedSimpArgs false

theorem size_tileR (bs : List Nat) (h16 : bs.length = 16) : (Tryd.prog.info? 46).map (·.size) = some (cellsT bs).size := by
  have h0 : (Tryd.prog.info? 46).map (·.size) = some 16 := by kernel_rfl
  rw [h0]
  unfold cellsT
  simp [h16]
/-- What the reference's Get gives. -/
def GotR (M : Nat) (A : Option Addr) (c : Nat) (l : List UInt8) (F : Nat) (w : World) (o : OutT) (e : Ending) (w' : World) : Prop :=
  Only M w w' ∧ match o with
  | .ok rows to_ => e = .returned (.tuple #[.agg (cellsT rows), .int .i64 0, .int .i64 0]) ∧ RM w' M A c l to_ 0 F
  | .read E a => e = .returned (.tuple #[.agg (cellsT zeroT), .int .i64 E, .int .i64 (-1)]) ∧ RM w' M A c l a E a
  | .row y a => e = .returned (.tuple #[.agg (cellsT zeroT), .int .i64 3, .int .i64 y]) ∧ RM w' M A c l a 0 F
theorem RM.lt {w : World} {M : Nat} {A : Option Addr} {c : Nat} {l : List UInt8} {at_ E F : Nat} (h : RM w M A c l at_ E F) : M < w.heap.size := h.1.lt
theorem RM.aside {w w' : World} {M R : Nat} {A : Option Addr} {c : Nat} {l : List UInt8} {at_ E F : Nat} {bs : List Nat} {T : TypeId} (h : RM w M A c l at_ E F) (hR : Pt w R (cellsT bs) T) (k : Only R w w') (hne : M ≠ R) : RM w' M A c l at_ E F :=
  ⟨h.1.only k hne, h.2.1.only hR (cells_u8 bs) k, h.2.2⟩
theorem upto_refl (M : Nat) (A : Option Addr) (c : Nat) (l : List UInt8) (at_ F : Nat) (m : Int) (most : Nat) (hm : m = most) (hm2 : most < 18446744073709551616) (w : World) (h : RM w M A c l at_ 0 F) :
    Calls Tryd.prog 15 #[.pointer (some ⟨M, 0, none⟩), .int .u64 m] w (RUp M A c l at_ F most w) := by subst hm; exact upto_ref M A c l at_ F most w h hm2
theorem res_tileR (tmps : Array Value) (w : World) (R : Nat) (rows : List Nat) (v u : Value) (hp : tmps.getD 2 undef = .pointer (some ⟨R, 0, none⟩)) (h3 : tmps.getD 3 undef = v) (h4 : tmps.getD 4 undef = u) (hP : Pt w R (cellsT rows) 46) (h16 : rows.length = 16) :
    (results Tryd.f24 tmps).run Tryd.prog w = .ok (.tuple #[.agg (cellsT rows), v, u]) w := by
  have hl := run_loadVar_row (P := Tryd.prog) w R 46 46 (cellsT rows) (0, 0) _ hP Tryd.underlying46 rfl (size_tileR rows h16)
  have hp' : tmps[2]?.getD undef = .pointer (some ⟨R, 0, none⟩) := by simpa using hp
  have h3' : tmps[3]?.getD undef = v := by simpa using h3
  have h4' : tmps[4]?.getD undef = u := by simpa using h4
  simp [results, Tryd.results24, hp', h3', h4', asAddr, hl]
theorem there_of {w : World} {R : Nat} {bs : List Nat} {T : TypeId} (h : Pt w R (cellsT bs) T) : w.there R 0 (cellsT bs).size := fun j hj => by
  rw [Nat.zero_add]
  exact ⟨by rw [h.cell, Array.getElem?_eq_getElem hj]; rfl, h.frozen j⟩
/-- What lies there while zeros are stored. -/
def K3 (w : World) (M R : Nat) (A : Option Addr) (c : Nat) (l : List UInt8) (a E F : Nat) (W : World) : Prop :=
  Pt W R (cellsT zeroT) 46 ∧ RM W M A c l a E F ∧ Only M w W
theorem zero_set (i : Nat) : (cellsT zeroT).setIfInBounds i (.int .u16 0) = cellsT zeroT := by
  have e : cellsT zeroT = Array.replicate 16 (Value.int .u16 0) := rfl
  rw [e]
  apply Array.ext
  · simp
  · intro j h1 h2
    simp [Array.getElem_setIfInBounds]
theorem K3.set {w : World} {M R : Nat} {A : Option Addr} {c : Nat} {l : List UInt8} {a E F : Nat} {W : World} (h : K3 w M R A c l a E F W) (hR : w.heap.size ≤ R) (hM : M ≠ R) (i : Nat) : K3 w M R A c l a E F (W.setCell ⟨R, i, none⟩ (.int .u16 0)) := by
  refine ⟨?_, h.2.1.aside h.1 (only_setC _ _ _ _) hM, h.2.2.setNew hR _ _⟩
  have := h.1.set i (.int .u16 0)
  rwa [zero_set] at this
theorem K3.drew {w : World} {M R : Nat} {A : Option Addr} {c : Nat} {l : List UInt8} {a E F : Nat} {W : World} (h : K3 w M R A c l a E F W) : K3 w M R A c l a E F W.drew := ⟨h.1, h.2.1, h.2.2.drew⟩
set_option maxHeartbeats 4000000 in
set_option maxRecDepth 20000 in
theorem rget_any (M : Nat) (A : Option Addr) (c : Nat) (l : List UInt8) (at_ F : Nat) (w : World) (h : RM w M A c l at_ 0 F) :
    Calls Tryd.prog 24 #[.pointer (some ⟨M, 0, none⟩)] w (GotR M A c l F w (getT l 16 at_ [] 0 true)) := by
  have H := Lib.hid h
  have HPl := Lib.hid h.lt
  clear h
  have hz : cellsT zeroT = #[Value.int .u16 0, Value.int .u16 0, Value.int .u16 0, Value.int .u16 0, Value.int .u16 0, Value.int .u16 0, Value.int .u16 0, Value.int .u16 0, Value.int .u16 0, Value.int .u16 0, Value.int .u16 0, Value.int .u16 0, Value.int .u16 0, Value.int .u16 0, Value.int .u16 0, Value.int .u16 0] := rfl
  have hz0 := hz
  have HZ0 := Lib.hid hz0
  clear hz0
  go_enter Tryd.func24, Tryd.ntmps24
  go_wp2_with fail
  rw [← hz]
  generalize hW : (w.alloc (Obj.cells (cellsT zeroT) 46)).alloc (Obj.cells (cellsT zeroT) 46) = w1 at *
  have hOb : Below w.heap.size w w1 := hW ▸ ((Below.refl _ _).alloc (Nat.le_refl _) _).alloc (by simp only [World.size_alloc]; omega) _
  have HO1 := Lib.hid (Only.of (P := M) hOb)
  have HR1 := Lib.hid (show Pt w1 w.heap.size (cellsT zeroT) 46 from hW ▸ (Pt.new w _ _).alloc _)
  have HQ1 := Lib.hid (show Pt w1 (w.heap.size + 1) (cellsT zeroT) 46 from hW ▸ Pt.new' (by simp only [World.size_alloc]))
  have H1 := Lib.hid (H.out.keep hOb)
  clear hW hOb hz H
  have HRs := Lib.hid (show w.heap.size ≠ M ∧ w.heap.size + 1 ≠ M ∧ w.heap.size + 1 ≠ w.heap.size by have := HPl.out; omega)
  go_loopw [6, 7, 8] (fun v6 v7 v8 wr => ∃ (y last a f : Nat) (fresh : Bool) (rows : List Nat), y ≤ 16 ∧ v6 = .int .u16 last ∧ v8 = .bool (!fresh) ∧ v7 = .int .i64 y ∧ Hid (rows.length = y ∧ last < 65536 ∧ 16 ≤ y + f) ∧ Hid (getT l 16 at_ [] 0 true = getT l f a rows last fresh) ∧ Hid (RM wr M A c l a 0 F) ∧ Hid (Pt wr (w.heap.size + 1) (cellsT (rows ++ List.replicate (16 - y) 0)) 46) ∧ Hid (Pt wr w.heap.size (cellsT zeroT) 46) ∧ Hid (Only M w wr)) (fun _ v7 _ _ => 16 - (intOf v7).toNat)
  case atStart => exact ⟨0, 0, at_, 16, true, [], by omega, rfl, rfl, rfl, Lib.hid ⟨rfl, by omega, by omega⟩, Lib.hid rfl, H1, HQ1, HR1, HO1⟩
  case round =>
    clear H1 HQ1 HR1 HO1
    obtain ⟨y, last, a, f, fresh, rows, hy, rfl, rfl, rfl, hA, hG, hR, hQ, hZ, hO⟩ := hrel
    by_cases hlt : y < 16
    · obtain ⟨f', hf⟩ : ∃ f', f = f' + 1 := ⟨f - 1, by have := hA.out; omega⟩
      subst hf
      have hG2 : getT l (f' + 1) a rows last fresh = match decU (l.drop a) with
        | .cut => .read 2 a
        | .form => .read 3 a
        | .ok n k => if 262143 < n then .read 5 a else match stepT y last fresh n with
          | none => .row y (a + k)
          | some (add, last', fresh') => getT l f' (a + k) (rows ++ add) last' fresh' := by
        conv => lhs; unfold getT
        rw [if_neg (by have := hA.out; omega), hA.out.1]
        rfl
      have HU := Lib.hid (upto_refl M A c l a F 262143 262143 rfl (by decide) wr hR.out)
      unfold RUp at HU
      have i1 : (y : Int) < 16 := by omega
      by_cases hE : upE 262143 (l.drop a) = 0
      · obtain ⟨n, k, hd, hn⟩ : ∃ n k, decU (l.drop a) = .ok n k ∧ ¬ 262143 < n := by
          unfold upE at hE
          cases hd : decU (l.drop a) with
          | cut => rw [hd] at hE; cases hE
          | form => rw [hd] at hE; cases hE
          | ok n k =>
            rw [hd] at hE
            simp only at hE
            refine ⟨n, k, rfl, fun h => ?_⟩
            rw [if_pos h] at hE
            cases hE
        have hN : upN 262143 (l.drop a) = n := by unfold upN; rw [hd]; simp only; rw [if_neg hn]
        have hK : upK 262143 (l.drop a) = k := by unfold upK; rw [hd]; simp only; rw [if_neg hn]
        rw [hN, hK, hE, if_pos rfl] at HU
        rw [hd] at hG2
        simp only at hG2
        rw [if_neg hn] at hG2
        rw [hG2] at hG
        have hshr : (n : Int) / 4 = ((n / 4 : Nat) : Int) := by omega
        have hand : (n : Int) % 4 = ((n % 4 : Nat) : Int) := by omega
        have hnn : n = 4 * (n / 4) + n % 4 := by omega
        have hq4 : n % 4 < 4 := by omega
        have hv16 : n / 4 < 65536 := by omega
        have hstep : stepT y last fresh n = if n % 4 = 0 then (if n / 4 = 0 ∨ n / 4 > 16 - y ∨ fresh = false then none else some (List.replicate (n / 4) last, last, false))
          else if (if n % 4 = 2 then (n / 4) ^^^ last else n / 4) = last ∨ rowN (if n % 4 = 2 then (n / 4) ^^^ last else n / 4) last ≠ n then none else some ([if n % 4 = 2 then (n / 4) ^^^ last else n / 4], (if n % 4 = 2 then (n / 4) ^^^ last else n / 4), true) := rfl
        have hwv : IntKind.u16.wrap ((n / 4 : Nat) : Int) = ((n / 4 : Nat) : Int) := by rw [show IntKind.u16.wrap ((n / 4 : Nat) : Int) = ((n / 4 : Nat) : Int) % 65536 by first | rfl | simp [IntKind.wrap]]; omega
        generalize n % 4 = q at *
        generalize n / 4 = v at *
        clear hd hN hK hE hG2
        by_cases hq0 : q = 0
        · subst hq0
          rw [if_pos rfl] at hstep
          by_cases hv0 : v = 0
          · subst hv0
            rw [if_pos (.inl rfl)] at hstep
            rw [hstep] at hG
            have HGE := Lib.hid hG.out
            clear hstep hG hnn hv16
            go_wp2_with (first | ((go_at_call 15); (with_reducible refine (HU.out).mono ?_); rintro e w2 ⟨rfl, r2, o2⟩; have R2 := Lib.hid r2; have O2 := Lib.hid o2; have Z2 := Lib.hid (hZ.out.only o2 HRs.out.1); have Q2 := Lib.hid (hQ.out.only o2 HRs.out.2.1); have ce := r2.1.cell; clear r2 o2) | (refine wpList_store_tile rfl 46 (.tmp 2) (.tmp 44) rfl w.heap.size zeroT zeroT rfl rfl 46 Z2.out rfl (size_tileR zeroT rfl) ?_))
            have HZ3 := Lib.hid (show Pt (w2.setRow w.heap.size (cellsT zeroT)) w.heap.size (cellsT zeroT) 46 from setRow_heap _ _ _ _ _ _ Z2.out)
            refine bodyPost_ret (res_tileR _ _ w.heap.size zeroT _ _ rfl rfl rfl HZ3.out rfl) rfl ?_
            unfold GotR
            rw [HGE.out]
            exact ⟨(hO.out.trans O2.out).setRow (Nat.le_refl _) _, rfl, R2.out.aside Z2.out (only_setRow _ _ _) (Ne.symm HRs.out.1)⟩
          · have e0 : ((v : Int) == 0) = false := by rw [beq_eq_false_iff_ne]; omega
            by_cases hvy : v > 16 - y
            · have e1 : (16 : Int) - (y : Int) < (v : Int) := by omega
              rw [if_pos (.inr (.inl hvy))] at hstep
              rw [hstep] at hG
              have HGE := Lib.hid hG.out
              clear hstep hG hnn hv16 hv0 hvy
              go_wp2_with (first | ((go_at_call 15); (with_reducible refine (HU.out).mono ?_); rintro e w2 ⟨rfl, r2, o2⟩; have R2 := Lib.hid r2; have O2 := Lib.hid o2; have Z2 := Lib.hid (hZ.out.only o2 HRs.out.1); have Q2 := Lib.hid (hQ.out.only o2 HRs.out.2.1); have ce := r2.1.cell; clear r2 o2) | (refine wpList_store_tile rfl 46 (.tmp 2) (.tmp 44) rfl w.heap.size zeroT zeroT rfl rfl 46 Z2.out rfl (size_tileR zeroT rfl) ?_))
              have HZ3 := Lib.hid (show Pt (w2.setRow w.heap.size (cellsT zeroT)) w.heap.size (cellsT zeroT) 46 from setRow_heap _ _ _ _ _ _ Z2.out)
              refine bodyPost_ret (res_tileR _ _ w.heap.size zeroT _ _ rfl rfl rfl HZ3.out rfl) rfl ?_
              unfold GotR
              rw [HGE.out]
              exact ⟨(hO.out.trans O2.out).setRow (Nat.le_refl _) _, rfl, R2.out.aside Z2.out (only_setRow _ _ _) (Ne.symm HRs.out.1)⟩
            · have e1 : ¬ (16 : Int) - (y : Int) < (v : Int) := by omega
              cases fresh with
              | false =>
                rw [if_pos (.inr (.inr rfl))] at hstep
                rw [hstep] at hG
                have HGE := Lib.hid hG.out
                clear hstep hG hnn hv16 hv0 hvy
                go_wp2_with (first | ((go_at_call 15); (with_reducible refine (HU.out).mono ?_); rintro e w2 ⟨rfl, r2, o2⟩; have R2 := Lib.hid r2; have O2 := Lib.hid o2; have Z2 := Lib.hid (hZ.out.only o2 HRs.out.1); have Q2 := Lib.hid (hQ.out.only o2 HRs.out.2.1); have ce := r2.1.cell; clear r2 o2) | (refine wpList_store_tile rfl 46 (.tmp 2) (.tmp 44) rfl w.heap.size zeroT zeroT rfl rfl 46 Z2.out rfl (size_tileR zeroT rfl) ?_))
                have HZ3 := Lib.hid (show Pt (w2.setRow w.heap.size (cellsT zeroT)) w.heap.size (cellsT zeroT) 46 from setRow_heap _ _ _ _ _ _ Z2.out)
                refine bodyPost_ret (res_tileR _ _ w.heap.size zeroT _ _ rfl rfl rfl HZ3.out rfl) rfl ?_
                unfold GotR
                rw [HGE.out]
                exact ⟨(hO.out.trans O2.out).setRow (Nat.le_refl _) _, rfl, R2.out.aside Z2.out (only_setRow _ _ _) (Ne.symm HRs.out.1)⟩
              | true =>
                rw [if_neg (by simp; omega)] at hstep
                rw [hstep] at hG
                simp only at hG
                have HVY := Lib.hid (show v ≤ 16 - y by omega)
                clear hstep hnn hv0 hvy
                go_wp2_with ((go_at_call 15); (with_reducible refine (HU.out).mono ?_); rintro e w2 ⟨rfl, r2, o2⟩; have R2 := Lib.hid r2; have O2 := Lib.hid o2; have Z2 := Lib.hid (hZ.out.only o2 HRs.out.1); have Q2 := Lib.hid (hQ.out.only o2 HRs.out.2.1); have ce := r2.1.cell; clear r2 o2)
                have c16 : y + v ≤ 16 := by have := HVY.out; omega
                have i9 : (y : Int) + (v : Int) ≤ 16 := by omega
                go_loopw [7, 11] (fun v7 v11 wq => ∃ i : Nat, i ≤ v ∧ v7 = .int .i64 ((y : Int) + (i : Int)) ∧ v11 = .int .u16 i ∧ Hid (Pt wq (w.heap.size + 1) (cellsT ((rows ++ List.replicate i last) ++ List.replicate (16 - (y + i)) 0)) 46) ∧ Hid (Pt wq w.heap.size (cellsT zeroT) 46) ∧ Hid (RM wq M A c l (a + k) 0 F) ∧ Hid (Only M w wq)) (fun _ v11 _ => v - (intOf v11).toNat)
                case atStart => exact ⟨0, Nat.zero_le _, congrArg (Value.int .i64) (by omega), rfl, by simpa using Q2, Z2, R2, Lib.hid (hO.out.trans O2.out)⟩
                case round =>
                  clear R2 O2 Z2 Q2 ce
                  obtain ⟨i, hi, rfl, rfl, hQi, hZi, hRi, hOi⟩ := hrel
                  by_cases hiv : i < v
                  · have j1 : (i : Int) < (v : Int) := by omega
                    have j2 : (y : Int) + (i : Int) < 16 := by omega
                    have j3 : (i : Int) < 16 := by omega
                    have hlen : y + i < ((rows ++ List.replicate i last) ++ List.replicate (16 - (y + i)) 0).length := by simp only [List.length_append, List.length_replicate]; have := hA.out.1; omega
                    have cq := (hQi.out.cell (y + i)).trans (cellsT_at _ _ hlen)
                    have fq := hQi.out.frozen (y + i)
                    have hset : (cellsT ((rows ++ List.replicate i last) ++ List.replicate (16 - (y + i)) 0)).setIfInBounds (y + i) (.int .u16 last) = cellsT ((rows ++ List.replicate (i + 1) last) ++ List.replicate (16 - (y + (i + 1))) 0) := by
                      have h1 := cells_set (rows ++ List.replicate i last) (16 - (y + (i + 1))) last
                      rw [show 16 - (y + (i + 1)) + 1 = 16 - (y + i) by omega, show (rows ++ List.replicate i last).length = y + i by rw [List.length_append, List.length_replicate, hA.out.1], show (rows ++ List.replicate i last) ++ [last] = rows ++ List.replicate (i + 1) last by rw [List.append_assoc, ← List.replicate_succ']] at h1
                      exact h1
                    have hQn := hQi.out.set (y + i) (.int .u16 last)
                    rw [hset] at hQn
                    have HQN := Lib.hid hQn
                    have HI := Lib.hid (show i + 1 ≤ v ∧ v - (i + 1) < v - i ∧ (y : Int) + (i : Int) + 1 = (y : Int) + ((i + 1 : Nat) : Int) by omega)
                    clear hset hQn hlen hi hiv
                    go_wp2_with fail
                    exact ⟨⟨i + 1, HI.out.1, congrArg (Value.int .i64) HI.out.2.2, rfl, HQN, Lib.hid (hZi.out.set_ne (by show w.heap.size + 1 ≠ w.heap.size; omega) _), Lib.hid (hRi.out.aside hQi.out (only_setC _ _ _ _) (Ne.symm HRs.out.2.1)), Lib.hid (hOi.out.setNew (Nat.le_succ _) _ _)⟩, HI.out.2.1⟩
                  · obtain rfl : v = i := by omega
                    have j1 : ¬ (v : Int) < (v : Int) := by omega
                    have HE := Lib.hid (show y + v ≤ 16 ∧ (rows ++ List.replicate v last).length = y + v ∧ 16 ≤ y + v + f' ∧ 16 - (y + v) < 16 - y by
                      have h1 := hA.out
                      have h2 : v ≠ 0 := by intro e; subst e; simp at e0
                      refine ⟨c16, by rw [List.length_append, List.length_replicate, h1.1], by omega, by omega⟩)
                    clear hi hiv
                    go_wp2_with fail
                    exact ⟨⟨y + v, last, a + k, f', false, rows ++ List.replicate v last, HE.out.1, rfl, rfl, congrArg (Value.int .i64) (by omega), Lib.hid ⟨HE.out.2.1, hA.out.2.1, HE.out.2.2.1⟩, hG, hRi, hQi, hZi, hOi⟩, by have h := HE.out.2.2.2; simp only [intOf]; omega⟩
        · have hq3 : q = 1 ∨ q = 2 ∨ q = 3 := by omega
          rw [if_neg hq0] at hstep
          clear hq0 hq4
          rcases hq3 with rfl | rfl | rfl
          · have hstep' : stepT y last fresh n = if v = last ∨ rowN (v) last ≠ n then none else some ([v], v, true) := hstep
            have hx16 : v < 65536 := hv16
            skip
            have HTO := Lib.hid fun W => row_any (v) last hx16 hA.out.2.1 W
            have hlen : y < (rows ++ List.replicate (16 - y) 0).length := by simp only [List.length_append, List.length_replicate]; have := hA.out.1; omega
            have hset : (cellsT (rows ++ List.replicate (16 - y) 0)).setIfInBounds y (.int .u16 v) = cellsT ((rows ++ [v]) ++ List.replicate (16 - (y + 1)) 0) := by
              have h1 := cells_set rows (16 - (y + 1)) v
              rw [show 16 - (y + 1) + 1 = 16 - y by omega, hA.out.1] at h1
              exact h1
            have HQN := Lib.hid fun W (q : Pt W (w.heap.size + 1) (cellsT (rows ++ List.replicate (16 - y) 0)) 46) => (hset ▸ q.set y (.int .u16 v) : Pt (W.setCell ⟨w.heap.size + 1, y, none⟩ (.int .u16 v)) (w.heap.size + 1) (cellsT ((rows ++ [v]) ++ List.replicate (16 - (y + 1)) 0)) 46)
            have HCQ := Lib.hid fun W (q : Pt W (w.heap.size + 1) (cellsT (rows ++ List.replicate (16 - y) 0)) 46) => (q.cell y).trans (cellsT_at _ _ hlen)
            have HI := Lib.hid (show y + 1 ≤ 16 ∧ (rows ++ [v]).length = y + 1 ∧ 16 ≤ y + 1 + f' ∧ 16 - (y + 1) < 16 - y by
              have h1 := hA.out
              refine ⟨by omega, by rw [List.length_append, h1.1]; rfl, by omega, by omega⟩)
            have HX16 := Lib.hid hx16
            by_cases ht : v = last
            · have f1 : ((v : Int) == (last : Int)) = true := by rw [ht]; simp
              rw [if_pos (.inl ht)] at hstep'
              rw [hstep'] at hG
              have HGE := Lib.hid hG.out
              clear hstep hstep' hx16 hlen hset hnn hv16 hG ht
              go_wp2_with (first | ((go_at_call 15); (with_reducible refine (HU.out).mono ?_); rintro e w2 ⟨rfl, r2, o2⟩; have R2 := Lib.hid r2; have O2 := Lib.hid o2; have Z2 := Lib.hid (hZ.out.only o2 HRs.out.1); have Q2 := Lib.hid (hQ.out.only o2 HRs.out.2.1); have ce := r2.1.cell; clear r2 o2) | (refine wpList_store_tile rfl 46 (.tmp 2) (.tmp 72) rfl w.heap.size zeroT zeroT rfl rfl 46 Z2.out rfl (size_tileR zeroT rfl) ?_))
              have HZ3 := Lib.hid (show Pt (w2.setRow w.heap.size (cellsT zeroT)) w.heap.size (cellsT zeroT) 46 from setRow_heap _ _ _ _ _ _ Z2.out)
              refine bodyPost_ret (res_tileR _ _ w.heap.size zeroT _ _ rfl rfl rfl HZ3.out rfl) rfl ?_
              unfold GotR
              rw [HGE.out]
              exact ⟨(hO.out.trans O2.out).setRow (Nat.le_refl _) _, rfl, R2.out.aside Z2.out (only_setRow _ _ _) (Ne.symm HRs.out.1)⟩
            · have f1 : ((v : Int) == (last : Int)) = false := by rw [beq_eq_false_iff_ne]; omega
              by_cases ht2 : rowN v last = n
              · rw [if_neg (by rintro (h | h); exact ht h; exact h ht2)] at hstep'
                rw [hstep'] at hG
                simp only at hG
                rw [ht2] at HTO
                have f2 : ((n : Int) != (n : Int)) = false := by simp
                clear hstep hstep' hx16 hlen hset ht ht2 hnn hv16
                go_wp2_with (first | ((go_at_call 15); (with_reducible refine (HU.out).mono ?_); rintro e w2 ⟨rfl, r2, o2⟩; have R2 := Lib.hid r2; have O2 := Lib.hid o2; have Z2 := Lib.hid (hZ.out.only o2 HRs.out.1); have q2 := hQ.out.only o2 HRs.out.2.1; have cq2 := HCQ.out _ q2; have fq2 := q2.frozen y; have Q3 := Lib.hid (HQN.out _ q2); have ce := r2.1.cell; have R3 := Lib.hid (r2.aside q2 (only_setC w2 (w.heap.size + 1) y (.int .u16 v)) (Ne.symm HRs.out.2.1)); clear r2 o2 q2) | ((go_at_call 62); (with_reducible refine (HTO.out _).mono ?_); rintro e w3 ⟨rfl, rfl⟩))
                exact ⟨⟨y + 1, v, a + k, f', true, rows ++ [v], HI.out.1, rfl, rfl, rfl, Lib.hid ⟨HI.out.2.1, HX16.out, HI.out.2.2.1⟩, hG, R3, Q3, Lib.hid (Z2.out.set_ne (by show w.heap.size + 1 ≠ w.heap.size; omega) _), Lib.hid ((hO.out.trans O2.out).setNew (Nat.le_succ _) _ _)⟩, HI.out.2.2.2⟩
              · rw [if_pos (.inr ht2)] at hstep'
                rw [hstep'] at hG
                have HGE := Lib.hid hG.out
                have f2 : ((rowN v last : Int) != (n : Int)) = true := by rw [bne_iff_ne]; omega
                generalize rowN v last = RX at *
                clear hstep hstep' hx16 hlen hset ht ht2 hnn hv16 hG
                go_wp2_with (first | ((go_at_call 15); (with_reducible refine (HU.out).mono ?_); rintro e w2 ⟨rfl, r2, o2⟩; have R2 := Lib.hid r2; have O2 := Lib.hid o2; have Z2 := Lib.hid (hZ.out.only o2 HRs.out.1); have Q2 := Lib.hid (hQ.out.only o2 HRs.out.2.1); have ce := r2.1.cell; clear r2 o2) | (refine wpList_store_tile rfl 46 (.tmp 2) (.tmp 72) rfl w.heap.size zeroT zeroT rfl rfl 46 Z2.out rfl (size_tileR zeroT rfl) ?_) | ((go_at_call 62); (with_reducible refine (HTO.out _).mono ?_); rintro e w3 ⟨rfl, rfl⟩))
                have HZ3 := Lib.hid (show Pt (w2.setRow w.heap.size (cellsT zeroT)) w.heap.size (cellsT zeroT) 46 from setRow_heap _ _ _ _ _ _ Z2.out)
                refine bodyPost_ret (res_tileR _ _ w.heap.size zeroT _ _ rfl rfl rfl HZ3.out rfl) rfl ?_
                unfold GotR
                rw [HGE.out]
                exact ⟨(hO.out.trans O2.out).setRow (Nat.le_refl _) _, rfl, R2.out.aside Z2.out (only_setRow _ _ _) (Ne.symm HRs.out.1)⟩
          · have hstep' : stepT y last fresh n = if v ^^^ last = last ∨ rowN (v ^^^ last) last ≠ n then none else some ([v ^^^ last], v ^^^ last, true) := hstep
            have hx16 : v ^^^ last < 65536 := xor_lt16 hv16 hA.out.2.1
            have hxor := u16_xor_nat v last hv16 hA.out.2.1
            have HTO := Lib.hid fun W => row_any (v ^^^ last) last hx16 hA.out.2.1 W
            generalize v ^^^ last = x at *
            have hlen : y < (rows ++ List.replicate (16 - y) 0).length := by simp only [List.length_append, List.length_replicate]; have := hA.out.1; omega
            have hset : (cellsT (rows ++ List.replicate (16 - y) 0)).setIfInBounds y (.int .u16 x) = cellsT ((rows ++ [x]) ++ List.replicate (16 - (y + 1)) 0) := by
              have h1 := cells_set rows (16 - (y + 1)) x
              rw [show 16 - (y + 1) + 1 = 16 - y by omega, hA.out.1] at h1
              exact h1
            have HQN := Lib.hid fun W (q : Pt W (w.heap.size + 1) (cellsT (rows ++ List.replicate (16 - y) 0)) 46) => (hset ▸ q.set y (.int .u16 x) : Pt (W.setCell ⟨w.heap.size + 1, y, none⟩ (.int .u16 x)) (w.heap.size + 1) (cellsT ((rows ++ [x]) ++ List.replicate (16 - (y + 1)) 0)) 46)
            have HCQ := Lib.hid fun W (q : Pt W (w.heap.size + 1) (cellsT (rows ++ List.replicate (16 - y) 0)) 46) => (q.cell y).trans (cellsT_at _ _ hlen)
            have HI := Lib.hid (show y + 1 ≤ 16 ∧ (rows ++ [x]).length = y + 1 ∧ 16 ≤ y + 1 + f' ∧ 16 - (y + 1) < 16 - y by
              have h1 := hA.out
              refine ⟨by omega, by rw [List.length_append, h1.1]; rfl, by omega, by omega⟩)
            have HX16 := Lib.hid hx16
            by_cases ht : x = last
            · have f1 : ((x : Int) == (last : Int)) = true := by rw [ht]; simp
              rw [if_pos (.inl ht)] at hstep'
              rw [hstep'] at hG
              have HGE := Lib.hid hG.out
              clear hstep hstep' hx16 hlen hset hnn hv16 hG ht
              go_wp2_with (first | ((go_at_call 15); (with_reducible refine (HU.out).mono ?_); rintro e w2 ⟨rfl, r2, o2⟩; have R2 := Lib.hid r2; have O2 := Lib.hid o2; have Z2 := Lib.hid (hZ.out.only o2 HRs.out.1); have Q2 := Lib.hid (hQ.out.only o2 HRs.out.2.1); have ce := r2.1.cell; clear r2 o2) | (refine wpList_store_tile rfl 46 (.tmp 2) (.tmp 72) rfl w.heap.size zeroT zeroT rfl rfl 46 Z2.out rfl (size_tileR zeroT rfl) ?_))
              have HZ3 := Lib.hid (show Pt (w2.setRow w.heap.size (cellsT zeroT)) w.heap.size (cellsT zeroT) 46 from setRow_heap _ _ _ _ _ _ Z2.out)
              refine bodyPost_ret (res_tileR _ _ w.heap.size zeroT _ _ rfl rfl rfl HZ3.out rfl) rfl ?_
              unfold GotR
              rw [HGE.out]
              exact ⟨(hO.out.trans O2.out).setRow (Nat.le_refl _) _, rfl, R2.out.aside Z2.out (only_setRow _ _ _) (Ne.symm HRs.out.1)⟩
            · have f1 : ((x : Int) == (last : Int)) = false := by rw [beq_eq_false_iff_ne]; omega
              by_cases ht2 : rowN x last = n
              · rw [if_neg (by rintro (h | h); exact ht h; exact h ht2)] at hstep'
                rw [hstep'] at hG
                simp only at hG
                rw [ht2] at HTO
                have f2 : ((n : Int) != (n : Int)) = false := by simp
                clear hstep hstep' hx16 hlen hset ht ht2 hnn hv16
                go_wp2_with (first | ((go_at_call 15); (with_reducible refine (HU.out).mono ?_); rintro e w2 ⟨rfl, r2, o2⟩; have R2 := Lib.hid r2; have O2 := Lib.hid o2; have Z2 := Lib.hid (hZ.out.only o2 HRs.out.1); have q2 := hQ.out.only o2 HRs.out.2.1; have cq2 := HCQ.out _ q2; have fq2 := q2.frozen y; have Q3 := Lib.hid (HQN.out _ q2); have ce := r2.1.cell; have R3 := Lib.hid (r2.aside q2 (only_setC w2 (w.heap.size + 1) y (.int .u16 x)) (Ne.symm HRs.out.2.1)); clear r2 o2 q2) | ((go_at_call 62); (with_reducible refine (HTO.out _).mono ?_); rintro e w3 ⟨rfl, rfl⟩))
                exact ⟨⟨y + 1, x, a + k, f', true, rows ++ [x], HI.out.1, rfl, rfl, rfl, Lib.hid ⟨HI.out.2.1, HX16.out, HI.out.2.2.1⟩, hG, R3, Q3, Lib.hid (Z2.out.set_ne (by show w.heap.size + 1 ≠ w.heap.size; omega) _), Lib.hid ((hO.out.trans O2.out).setNew (Nat.le_succ _) _ _)⟩, HI.out.2.2.2⟩
              · rw [if_pos (.inr ht2)] at hstep'
                rw [hstep'] at hG
                have HGE := Lib.hid hG.out
                have f2 : ((rowN x last : Int) != (n : Int)) = true := by rw [bne_iff_ne]; omega
                generalize rowN x last = RX at *
                clear hstep hstep' hx16 hlen hset ht ht2 hnn hv16 hG
                go_wp2_with (first | ((go_at_call 15); (with_reducible refine (HU.out).mono ?_); rintro e w2 ⟨rfl, r2, o2⟩; have R2 := Lib.hid r2; have O2 := Lib.hid o2; have Z2 := Lib.hid (hZ.out.only o2 HRs.out.1); have Q2 := Lib.hid (hQ.out.only o2 HRs.out.2.1); have ce := r2.1.cell; clear r2 o2) | (refine wpList_store_tile rfl 46 (.tmp 2) (.tmp 72) rfl w.heap.size zeroT zeroT rfl rfl 46 Z2.out rfl (size_tileR zeroT rfl) ?_) | ((go_at_call 62); (with_reducible refine (HTO.out _).mono ?_); rintro e w3 ⟨rfl, rfl⟩))
                have HZ3 := Lib.hid (show Pt (w2.setRow w.heap.size (cellsT zeroT)) w.heap.size (cellsT zeroT) 46 from setRow_heap _ _ _ _ _ _ Z2.out)
                refine bodyPost_ret (res_tileR _ _ w.heap.size zeroT _ _ rfl rfl rfl HZ3.out rfl) rfl ?_
                unfold GotR
                rw [HGE.out]
                exact ⟨(hO.out.trans O2.out).setRow (Nat.le_refl _) _, rfl, R2.out.aside Z2.out (only_setRow _ _ _) (Ne.symm HRs.out.1)⟩
          · have hst : stepT y last fresh n = none := by
              rw [hstep, if_pos]
              right
              intro h
              have h2 : rowN v last = n := h
              unfold rowN at h2
              split at h2 <;> omega
            rw [hst] at hG
            have HGE := Lib.hid hG.out
            have HTO := Lib.hid fun W => row_any v last hv16 hA.out.2.1 W
            have hrn : rowN v last ≠ n := by
              intro h2
              unfold rowN at h2
              split at h2 <;> omega
            have f2 : ((rowN v last : Int) != (n : Int)) = true := by rw [bne_iff_ne]; omega
            generalize rowN v last = RX at *
            clear hstep hst hG hnn hv16 hrn
            by_cases ht : v = last
            · have f1 : ((v : Int) == (last : Int)) = true := by rw [ht]; simp
              clear ht
              go_wp2_with (first | ((go_at_call 15); (with_reducible refine (HU.out).mono ?_); rintro e w2 ⟨rfl, r2, o2⟩; have R2 := Lib.hid r2; have O2 := Lib.hid o2; have Z2 := Lib.hid (hZ.out.only o2 HRs.out.1); have Q2 := Lib.hid (hQ.out.only o2 HRs.out.2.1); have ce := r2.1.cell; clear r2 o2) | (refine wpList_store_tile rfl 46 (.tmp 2) (.tmp 72) rfl w.heap.size zeroT zeroT rfl rfl 46 Z2.out rfl (size_tileR zeroT rfl) ?_) | ((go_at_call 62); (with_reducible refine (HTO.out _).mono ?_); rintro e w3 ⟨rfl, rfl⟩))
              have HZ3 := Lib.hid (show Pt (w2.setRow w.heap.size (cellsT zeroT)) w.heap.size (cellsT zeroT) 46 from setRow_heap _ _ _ _ _ _ Z2.out)
              refine bodyPost_ret (res_tileR _ _ w.heap.size zeroT _ _ rfl rfl rfl HZ3.out rfl) rfl ?_
              unfold GotR
              rw [HGE.out]
              exact ⟨(hO.out.trans O2.out).setRow (Nat.le_refl _) _, rfl, R2.out.aside Z2.out (only_setRow _ _ _) (Ne.symm HRs.out.1)⟩
            · have f1 : ((v : Int) == (last : Int)) = false := by rw [beq_eq_false_iff_ne]; omega
              clear ht
              go_wp2_with (first | ((go_at_call 15); (with_reducible refine (HU.out).mono ?_); rintro e w2 ⟨rfl, r2, o2⟩; have R2 := Lib.hid r2; have O2 := Lib.hid o2; have Z2 := Lib.hid (hZ.out.only o2 HRs.out.1); have Q2 := Lib.hid (hQ.out.only o2 HRs.out.2.1); have ce := r2.1.cell; clear r2 o2) | (refine wpList_store_tile rfl 46 (.tmp 2) (.tmp 72) rfl w.heap.size zeroT zeroT rfl rfl 46 Z2.out rfl (size_tileR zeroT rfl) ?_) | ((go_at_call 62); (with_reducible refine (HTO.out _).mono ?_); rintro e w3 ⟨rfl, rfl⟩))
              have HZ3 := Lib.hid (show Pt (w2.setRow w.heap.size (cellsT zeroT)) w.heap.size (cellsT zeroT) 46 from setRow_heap _ _ _ _ _ _ Z2.out)
              refine bodyPost_ret (res_tileR _ _ w.heap.size zeroT _ _ rfl rfl rfl HZ3.out rfl) rfl ?_
              unfold GotR
              rw [HGE.out]
              exact ⟨(hO.out.trans O2.out).setRow (Nat.le_refl _) _, rfl, R2.out.aside Z2.out (only_setRow _ _ _) (Ne.symm HRs.out.1)⟩
      · have hk0 : upK 262143 (l.drop a) = 0 := by
          unfold upK upE at *
          cases hd : decU (l.drop a) with
          | cut => rfl
          | form => rfl
          | ok n k => rw [hd] at hE; simp only at hE ⊢; split <;> simp_all
        have hGE : getT l 16 at_ [] 0 true = .read (upE 262143 (l.drop a)) a := by
          rw [hG.out, hG2]
          unfold upE at *
          cases hd : decU (l.drop a) with
          | cut => rfl
          | form => rfl
          | ok n k => rw [hd] at hE; simp only at hE ⊢; split <;> simp_all
        have HGE := Lib.hid hGE
        rw [hk0, Nat.add_zero, if_neg hE] at HU
        have hne : ((upE 262143 (l.drop a) : Int) != 0) = true := by rw [bne_iff_ne]; omega
        generalize upE 262143 (l.drop a) = E at *
        generalize upN 262143 (l.drop a) = N at *
        clear hG2 hk0 hGE hE
        go_wp2_with ((go_at_call 15); (with_reducible refine (HU.out).mono ?_); rintro e w2 ⟨rfl, r2, o2⟩; have R2 := Lib.hid r2; have O2 := Lib.hid o2; have Z2 := Lib.hid (hZ.out.only o2 HRs.out.1); have ce := r2.1.cell; have cz := Z2.out.cell; clear r2 o2)
        have fz := Z2.out.frozen
        rw [HZ0.out] at cz
        have hM1 := HRs.out.1
        have hM2 := Ne.symm hM1
        have hK : K3 w M w.heap.size A c l a E a w2 := ⟨Z2.out, R2.out, hO.out.trans O2.out⟩
        have HK := Lib.hid hK
        clear hK
        go_region
        all_goals (try go_wp2)
        refine bodyPost_ret (res_tileR _ _ w.heap.size zeroT _ _ rfl rfl rfl ?rp rfl) rfl ?rq
        case rp =>
          refine (show K3 w M w.heap.size A c l a E a _ from ?_).1
          repeat' (first | (with_reducible exact HK.out) | (with_reducible refine K3.set ?_ (Nat.le_refl _) hM2 _) | (with_reducible refine K3.drew ?_))
        case rq =>
          unfold GotR
          rw [HGE.out]
          refine (fun (k : K3 w M w.heap.size A c l a E a _) => ⟨k.2.2, rfl, k.2.1⟩) ?_
          repeat' (first | (with_reducible exact HK.out) | (with_reducible refine K3.set ?_ (Nat.le_refl _) hM2 _) | (with_reducible refine K3.drew ?_))
    · obtain rfl : y = 16 := by omega
      have hGo : getT l 16 at_ [] 0 true = .ok rows a := by
        rw [hG.out]
        cases f with
        | zero => rfl
        | succ f => unfold getT; rw [if_pos (by have := hA.out.1; omega)]
      have HGO := Lib.hid hGo
      have hQ' : Pt wr (w.heap.size + 1) (cellsT rows) 46 := by simpa using hQ.out
      have HQ2 := Lib.hid hQ'
      clear hQ' hGo hlt hy
      go_wp2_with (first | ((with_reducible refine at_dst (N := 80) rfl ?_); refine wpList_load_row rfl 46 (.tmp 5) rfl (w.heap.size + 1) rfl 46 (cellsT rows) (0, 0) _ HQ2.out Tryd.underlying46 rfl (size_tileR rows hA.out.1) ?_) | (refine wpList_store_tile rfl 46 (.tmp 2) (.tmp 80) rfl w.heap.size zeroT rows rfl rfl 46 hZ.out (by have := hA.out.1; rw [this]; rfl) (size_tileR rows hA.out.1) ?_))
      have HZ3 := Lib.hid (show Pt (wr.setRow w.heap.size (cellsT rows)) w.heap.size (cellsT rows) 46 from setRow_heap _ _ _ _ _ _ hZ.out)
      refine bodyPost_ret (res_tileR _ _ w.heap.size rows _ _ rfl rfl rfl HZ3.out hA.out.1) rfl ?_
      unfold GotR
      rw [HGO.out]
      exact ⟨hO.out.setRow (Nat.le_refl _) _, rfl, hR.out.aside hZ.out (only_setRow _ _ _) (Ne.symm HRs.out.1)⟩
end Go.Proofs.YtmjdlofkjjofcaaDoor

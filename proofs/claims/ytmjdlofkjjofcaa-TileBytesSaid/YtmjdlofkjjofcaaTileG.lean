/- Package tile: Get. -/
import Derived.Test.YtmjdlofkjjofcaaProg
import Derived.Test.YtmjdlofkjjofcaaKit
import Derived.Test.YtmjdlofkjjofcaaKitb
import Derived.Test.YtmjdlofkjjofcaaBytes
import Derived.Test.YtmjdlofkjjofcaaOnly
import Derived.Test.YtmjdlofkjjofcaaFault
import Derived.Test.YtmjdlofkjjofcaaPrefixV
import Derived.Test.YtmjdlofkjjofcaaReader
import Derived.Test.YtmjdlofkjjofcaaReaderM
import Derived.Test.YtmjdlofkjjofcaaRdMore
import Derived.Test.YtmjdlofkjjofcaaTileV
import Derived.Test.YtmjdlofkjjofcaaTile
import Derived.Test.YtmjdlofkjjofcaaTileP
import Derived.Laws.BitsAllLaws
import Derived.Laws.Rows
import Derived.Laws.Tables
import Derived.Deep.QuietTactic
import Derived.BigQuiet
namespace Go.Proofs.Ytmjdlofkjjofcaa
open Go.RowKit
set_option linter.unusedVariables false
set_option linter.unusedSimpArgs false

abbrev rowS : ByteArray := ⟨#[114, 111, 119]⟩
def zeroT : List Nat := List.replicate 16 0
/-- What tile.Get gives. -/
def GotT (P : Nat) (l : List UInt8) (w : World) (o : OutT) (e : Ending) (w' : World) : Prop :=
  Only P w w' ∧ match o with
  | .ok rows to_ => e = .returned (.tuple #[.agg (cellsT rows), .nilIface]) ∧ Rd w' P l to_ .nil
  | .read E a => ∃ v, e = .returned (.tuple #[.agg (cellsT zeroT), v]) ∧ EV w' (.fault byteS a (.num E)) v ∧ Rd w' P l a (.fault byteS a (.num E))
  | .row y a => ∃ v, e = .returned (.tuple #[.agg (cellsT zeroT), v]) ∧ EV w' (.fault rowS y (.num 3)) v ∧ Rd w' P l a .nil
theorem Only.setNew {P : Nat} {w w' : World} (h : Only P w w') {Q : Nat} (hQ : w.heap.size ≤ Q) (o : Nat) (v : Value) : Only P w (w'.setCell ⟨Q, o, none⟩ v) :=
  ⟨h.os, h.tape, h.output, by rw [World.size_setCell]; exact h.size, fun b hb hP => by
    rw [Below.heap_setCell _ _ _ _ (by show b ≠ Q; omega)]
    exact h.block b hb hP⟩
theorem Only.setRow {P : Nat} {w w' : World} (h : Only P w w') {Q : Nat} (hQ : w.heap.size ≤ Q) (cs : Array Value) : Only P w (w'.setRow Q cs) :=
  ⟨h.os, h.tape, h.output, by simp only [World.setRow, Array.size_modify]; exact h.size, fun b hb hP => by
    rw [setRow_other _ _ _ _ (by omega)]
    exact h.block b hb hP⟩
theorem Rd.lt {w : World} {P : Nat} {l : List UInt8} {at_ : Nat} {er : Er} (h : Rd w P l at_ er) : P < w.heap.size := by
  obtain ⟨_, _, _, hp, _⟩ := h
  exact hp.lt
theorem all_one (bs : List Nat) : (cellsT bs).all (·.oneCell') = true := by
  rw [Array.all_eq_true_iff_forall_mem]
  intro v hv
  unfold cellsT at hv
  simp only [List.mem_toArray, List.mem_map] at hv
  obtain ⟨a, _, rfl⟩ := hv
  rfl
theorem wpList_store_tile {P : Program} {ops : Array Oper} {rest : List Oper} {op : Oper} {a : Act} {w : World} {Q : Exit → Act → World → Prop} (hgd : op.guard = none) (ty : TypeId) (x y : Operand) (ho : op.op = .store ty x y)
    (R : Nat) (old bs : List Nat) (hx : a.eval x = .pointer (some ⟨R, 0, none⟩)) (hy : a.eval y = .agg (cellsT bs)) (t : TypeId) (hg : Pt w R (cellsT old) t) (hl : old.length = bs.length) (hi : (P.info? ty).map (·.size) = some (cellsT bs).size)
    (h : wpList P ops Q rest (a.put op.dst undef) (w.setRow R (cellsT bs))) : wpList P ops Q (op :: rest) a w := by
  refine wpList_plain hgd fun _ hK => ?_
  unfold Oper.wp execOp
  have hsz : (cellsT old).size = (cellsT bs).size := by unfold cellsT; simp [hl]
  simp only [ho, hx, hy, Instr.storeAt, Instr.sureAddr, Sem.run_bind, Sem.run_pure, Result.andThen_ok, run_storeVar_row w R t ty (cellsT old) (cellsT bs) hg hi hsz (all_one bs)]
  exact hK _ _ h
theorem upto_lit (P : Nat) (l : List UInt8) (at_ : Nat) (m : Int) (most : Nat) (hm : m = most) (w : World) (h : Rd w P l at_ .nil) (hl : l.length ≤ 4611686018427387904) :
    Calls Try.prog 89 #[.pointer (some ⟨P, 0, none⟩), .int .u64 m] w (UpR P l at_ most w) := by subst hm; exact upto_any P l at_ most w h hl
theorem res_tile (tmps : Array Value) (w : World) (R : Nat) (rows : List Nat) (v : Value) (hp : tmps.getD 2 undef = .pointer (some ⟨R, 0, none⟩)) (h3 : tmps.getD 3 undef = v) (hP : Pt w R (cellsT rows) 71) (h16 : rows.length = 16) :
    (results Try.f52 tmps).run Try.prog w = .ok (.tuple #[.agg (cellsT rows), v]) w := by
  have hl := run_loadVar_row (P := Try.prog) w R 71 71 (cellsT rows) (0, 0) _ hP Try.underlying71 rfl (size_tile rows h16)
  have hp' : tmps[2]?.getD undef = .pointer (some ⟨R, 0, none⟩) := by simpa using hp
  have h3' : tmps[3]?.getD undef = v := by simpa using h3
  simp [results, Try.results52, hp', h3', asAddr, hl]
theorem only_setRow (w : World) (R : Nat) (cs : Array Value) : Only R w (w.setRow R cs) :=
  ⟨rfl, rfl, rfl, by simp only [World.setRow, Array.size_modify]; exact Nat.le_refl _, fun b _ hP => setRow_other _ _ _ _ hP⟩
theorem cells_u8 (bs : List Nat) : ∀ (i : Nat) (m : Int), (cellsT bs)[i]? ≠ some (.int .u8 m) := by
  intro i m h
  unfold cellsT at h
  simp at h
theorem cells_st (bs : List Nat) : ∀ s p v, cellsT bs ≠ #[.string s, .int .i64 p, v] := by
  intro s p v h
  have := congrArg (fun (x : Array Value) => x[0]?) h
  unfold cellsT at this
  simp at this
theorem Rd.aside {w w' : World} {P R : Nat} {l : List UInt8} {at_ : Nat} {er : Er} {bs : List Nat} {T : TypeId} (h : Rd w P l at_ er) (hR : Pt w R (cellsT bs) T) (k : Only R w w') (hne : P ≠ R) : Rd w' P l at_ er := by
  obtain ⟨A, c, v, h1, h2, h3, h4⟩ := h
  exact ⟨A, c, v, h1.only k hne, h2.only hR (cells_u8 bs) k, EV.only hR (cells_st bs) k h3, h4⟩
theorem only_setC (w : World) (R o : Nat) (v : Value) : Only R w (w.setCell ⟨R, o, none⟩ v) := (Only.refl R w).setCell o v
theorem cells_set (X : List Nat) (m v : Nat) : (cellsT (X ++ List.replicate (m + 1) 0)).setIfInBounds X.length (.int .u16 v) = cellsT ((X ++ [v]) ++ List.replicate m 0) := by
  unfold cellsT
  simp [List.replicate_succ]
theorem and_3 (n : Nat) (hn : n < 18446744073709551616) : bits BinOp.and IntKind.u64 (n : Int) 3 = ((n % 4 : Nat) : Int) := by
  rw [show (3 : Int) = ((3 : Nat) : Int) from rfl, u64_and_nat _ _ (by omega) (by omega)]
  congr 1
  exact Nat.and_two_pow_sub_one_eq_mod n 2
set_option maxHeartbeats 4000000 in
set_option maxRecDepth 20000 in
theorem tget_any (P : Nat) (l : List UInt8) (at_ : Nat) (w : World) (h : Rd w P l at_ .nil) (hl : l.length ≤ 4611686018427387904) :
    Calls Try.prog 52 #[.pointer (some ⟨P, 0, none⟩)] w (GotT P l w (getT l 16 at_ [] 0 true)) := by
  have H := Lib.hid h
  have HL := Lib.hid hl
  have HPl := Lib.hid h.lt
  clear h hl
  have hz : cellsT zeroT = #[Value.int .u16 0, Value.int .u16 0, Value.int .u16 0, Value.int .u16 0, Value.int .u16 0, Value.int .u16 0, Value.int .u16 0, Value.int .u16 0, Value.int .u16 0, Value.int .u16 0, Value.int .u16 0, Value.int .u16 0, Value.int .u16 0, Value.int .u16 0, Value.int .u16 0, Value.int .u16 0] := rfl
  go_enter Try.func52, Try.ntmps52
  go_wp2_with fail
  rw [← hz]
  generalize hW : (w.alloc (Obj.cells (cellsT zeroT) 71)).alloc (Obj.cells (cellsT zeroT) 71) = w1 at *
  have hOb : Below w.heap.size w w1 := hW ▸ ((Below.refl _ _).alloc (Nat.le_refl _) _).alloc (by simp only [World.size_alloc]; omega) _
  have HO1 := Lib.hid (Only.of (P := P) hOb)
  have HR1 := Lib.hid (show Pt w1 w.heap.size (cellsT zeroT) 71 from hW ▸ (Pt.new w _ _).alloc _)
  have HQ1 := Lib.hid (show Pt w1 (w.heap.size + 1) (cellsT zeroT) 71 from hW ▸ Pt.new' (by simp only [World.size_alloc]))
  have H1 := Lib.hid (H.out.only hOb)
  clear hW hOb hz H
  have HRs := Lib.hid (show w.heap.size ≠ P ∧ w.heap.size + 1 ≠ P ∧ w.heap.size + 1 ≠ w.heap.size by have := HPl.out; omega)
  go_loopw [5, 6, 7] (fun v5 v6 v7 wr => ∃ (y last a f : Nat) (fresh : Bool) (rows : List Nat), y ≤ 16 ∧ v5 = .int .u16 last ∧ v6 = .bool fresh ∧ v7 = .int .i64 y ∧ Hid (rows.length = y ∧ last < 65536 ∧ 16 ≤ y + f) ∧ Hid (getT l 16 at_ [] 0 true = getT l f a rows last fresh) ∧ Hid (Rd wr P l a .nil) ∧ Hid (Pt wr (w.heap.size + 1) (cellsT (rows ++ List.replicate (16 - y) 0)) 71) ∧ Hid (Pt wr w.heap.size (cellsT zeroT) 71) ∧ Hid (Only P w wr)) (fun _ _ v7 _ => 16 - (intOf v7).toNat)
  case atStart => exact ⟨0, 0, at_, 16, true, [], by omega, rfl, rfl, rfl, Lib.hid ⟨rfl, by omega, by omega⟩, Lib.hid rfl, H1, HQ1, HR1, HO1⟩
  case round =>
    clear H1 HQ1 HR1 HO1
    obtain ⟨y, last, a, f, fresh, rows, hy, rfl, rfl, rfl, hA, hG, hR, hQ, hZ, hO⟩ := hrel
    by_cases hlt : y < 16
    · obtain ⟨f', hf⟩ : ∃ f', f = f' + 1 := ⟨f - 1, by have := hA.out; omega⟩
      subst hf
      have hG2 : getT l (f' + 1) a rows last fresh = match decU (l.drop a) with
        | .cut => .read 2 a
        | .form => .read 3 a
        | .ok n k => if 262143 < n then .read 5 a else match stepT y last fresh n with
          | none => .row y (a + k)
          | some (add, last', fresh') => getT l f' (a + k) (rows ++ add) last' fresh' := by
        conv => lhs; unfold getT
        rw [if_neg (by have := hA.out; omega), hA.out.1]
        rfl
      have HU := Lib.hid (upto_lit P l a 262143 262143 rfl wr hR.out HL.out)
      unfold UpR at HU
      have i1 : (y : Int) < 16 := by omega
      have qf := fun w t a => neq_iface_nil (P := Try.prog) w (ti := 66) (ta := t) a Try.underlying66
      have q0 := fun w => neq_nil_nil (P := Try.prog) w (ti := 66) Try.underlying66
      by_cases hE : upE 262143 (l.drop a) = 0
      · obtain ⟨n, k, hd, hn⟩ : ∃ n k, decU (l.drop a) = .ok n k ∧ ¬ 262143 < n := by
          unfold upE at hE
          cases hd : decU (l.drop a) with
          | cut => rw [hd] at hE; cases hE
          | form => rw [hd] at hE; cases hE
          | ok n k =>
            rw [hd] at hE
            simp only at hE
            refine ⟨n, k, rfl, fun h => ?_⟩
            rw [if_pos h] at hE
            cases hE
        have hN : upN 262143 (l.drop a) = n := by unfold upN; rw [hd]; simp only; rw [if_neg hn]
        have hK : upK 262143 (l.drop a) = k := by unfold upK; rw [hd]; simp only; rw [if_neg hn]
        rw [hN, hK, hE, show erA 0 a = .nil from rfl] at HU
        rw [hd] at hG2
        simp only at hG2
        rw [if_neg hn] at hG2
        rw [hG2] at hG
        have hand := and_3 n (by omega)
        have hshr : (n : Int) / 4 = ((n / 4 : Nat) : Int) := by omega
        have hnn : n = 4 * (n / 4) + n % 4 := by omega
        have hq4 : n % 4 < 4 := by omega
        have hv16 : n / 4 < 65536 := by omega
        have hstep : stepT y last fresh n = if n % 4 = 0 then (if n / 4 = 0 ∨ n / 4 > 16 - y ∨ fresh = false then none else some (List.replicate (n / 4) last, last, false))
          else if (if n % 4 = 2 then (n / 4) ^^^ last else n / 4) = last ∨ rowN (if n % 4 = 2 then (n / 4) ^^^ last else n / 4) last ≠ n then none else some ([if n % 4 = 2 then (n / 4) ^^^ last else n / 4], (if n % 4 = 2 then (n / 4) ^^^ last else n / 4), true) := rfl
        have hwv : IntKind.u16.wrap ((n / 4 : Nat) : Int) = ((n / 4 : Nat) : Int) := by rw [show IntKind.u16.wrap ((n / 4 : Nat) : Int) = ((n / 4 : Nat) : Int) % 65536 by first | rfl | simp [IntKind.wrap]]; omega
        generalize n % 4 = q at *
        generalize n / 4 = v at *
        clear hd hN hK hE hG2
        by_cases hq0 : q = 0
        · subst hq0
          rw [if_pos rfl] at hstep
          by_cases hv0 : v = 0
          · subst hv0
            rw [if_pos (.inl rfl)] at hstep
            rw [hstep] at hG
            have HGE := Lib.hid hG.out
            clear hstep hG hnn hv16
            go_wp2_with (first | ((go_at_call 89); (with_reducible refine (HU.out).mono ?_); rintro e w2 ⟨rfl, r2, o2⟩; have R2 := Lib.hid r2; have O2 := Lib.hid o2; have Z2 := Lib.hid (hZ.out.only o2 HRs.out.1); have Q2 := Lib.hid (hQ.out.only o2 HRs.out.2.1); clear r2 o2) | ((go_at_call 84); (with_reducible refine (err_ok P l (a + k) _ R2.out).mono ?_); rintro e w3 ⟨rfl, rfl⟩) | ((go_at_call 85); (with_reducible refine (at_num rowS y 3 _).mono ?_); rintro e w4 ⟨⟨b4, rfl, v4⟩, o4⟩; have V4 := Lib.hid v4; have O4 := Lib.hid o4; have Z4 := Lib.hid (Z2.out.keep o4); have R4 := Lib.hid (R2.out.only o4); clear v4 o4) | (refine wpList_store_tile rfl 71 (.tmp 2) (.tmp 45) rfl w.heap.size zeroT zeroT rfl rfl 71 Z4.out rfl (size_tile zeroT rfl) ?_))
            have HZ3 := Lib.hid (show Pt (w4.setRow w.heap.size (cellsT zeroT)) w.heap.size (cellsT zeroT) 71 from setRow_heap _ _ _ _ _ _ Z4.out)
            refine bodyPost_ret (res_tile _ _ w.heap.size zeroT _ rfl rfl HZ3.out rfl) rfl ?_
            unfold GotT
            rw [HGE.out]
            exact ⟨((hO.out.trans O2.out).next O4.out).setRow (Nat.le_refl _) _, _, rfl, EV.only Z4.out (cells_st _) (only_setRow _ _ _) V4.out, R4.out.aside Z4.out (only_setRow _ _ _) (Ne.symm HRs.out.1)⟩
          · have e0 : ((v : Int) == 0) = false := by rw [beq_eq_false_iff_ne]; omega
            by_cases hvy : v > 16 - y
            · have e1 : (16 : Int) - (y : Int) < (v : Int) := by omega
              rw [if_pos (.inr (.inl hvy))] at hstep
              rw [hstep] at hG
              have HGE := Lib.hid hG.out
              clear hstep hG hnn hv16 hv0 hvy
              go_wp2_with (first | ((go_at_call 89); (with_reducible refine (HU.out).mono ?_); rintro e w2 ⟨rfl, r2, o2⟩; have R2 := Lib.hid r2; have O2 := Lib.hid o2; have Z2 := Lib.hid (hZ.out.only o2 HRs.out.1); have Q2 := Lib.hid (hQ.out.only o2 HRs.out.2.1); clear r2 o2) | ((go_at_call 84); (with_reducible refine (err_ok P l (a + k) _ R2.out).mono ?_); rintro e w3 ⟨rfl, rfl⟩) | ((go_at_call 85); (with_reducible refine (at_num rowS y 3 _).mono ?_); rintro e w4 ⟨⟨b4, rfl, v4⟩, o4⟩; have V4 := Lib.hid v4; have O4 := Lib.hid o4; have Z4 := Lib.hid (Z2.out.keep o4); have R4 := Lib.hid (R2.out.only o4); clear v4 o4) | (refine wpList_store_tile rfl 71 (.tmp 2) (.tmp 45) rfl w.heap.size zeroT zeroT rfl rfl 71 Z4.out rfl (size_tile zeroT rfl) ?_))
              have HZ3 := Lib.hid (show Pt (w4.setRow w.heap.size (cellsT zeroT)) w.heap.size (cellsT zeroT) 71 from setRow_heap _ _ _ _ _ _ Z4.out)
              refine bodyPost_ret (res_tile _ _ w.heap.size zeroT _ rfl rfl HZ3.out rfl) rfl ?_
              unfold GotT
              rw [HGE.out]
              exact ⟨((hO.out.trans O2.out).next O4.out).setRow (Nat.le_refl _) _, _, rfl, EV.only Z4.out (cells_st _) (only_setRow _ _ _) V4.out, R4.out.aside Z4.out (only_setRow _ _ _) (Ne.symm HRs.out.1)⟩
            · have e1 : ¬ (16 : Int) - (y : Int) < (v : Int) := by omega
              cases fresh with
              | false =>
                rw [if_pos (.inr (.inr rfl))] at hstep
                rw [hstep] at hG
                have HGE := Lib.hid hG.out
                clear hstep hG hnn hv16 hv0 hvy
                go_wp2_with (first | ((go_at_call 89); (with_reducible refine (HU.out).mono ?_); rintro e w2 ⟨rfl, r2, o2⟩; have R2 := Lib.hid r2; have O2 := Lib.hid o2; have Z2 := Lib.hid (hZ.out.only o2 HRs.out.1); have Q2 := Lib.hid (hQ.out.only o2 HRs.out.2.1); clear r2 o2) | ((go_at_call 84); (with_reducible refine (err_ok P l (a + k) _ R2.out).mono ?_); rintro e w3 ⟨rfl, rfl⟩) | ((go_at_call 85); (with_reducible refine (at_num rowS y 3 _).mono ?_); rintro e w4 ⟨⟨b4, rfl, v4⟩, o4⟩; have V4 := Lib.hid v4; have O4 := Lib.hid o4; have Z4 := Lib.hid (Z2.out.keep o4); have R4 := Lib.hid (R2.out.only o4); clear v4 o4) | (refine wpList_store_tile rfl 71 (.tmp 2) (.tmp 45) rfl w.heap.size zeroT zeroT rfl rfl 71 Z4.out rfl (size_tile zeroT rfl) ?_))
                have HZ3 := Lib.hid (show Pt (w4.setRow w.heap.size (cellsT zeroT)) w.heap.size (cellsT zeroT) 71 from setRow_heap _ _ _ _ _ _ Z4.out)
                refine bodyPost_ret (res_tile _ _ w.heap.size zeroT _ rfl rfl HZ3.out rfl) rfl ?_
                unfold GotT
                rw [HGE.out]
                exact ⟨((hO.out.trans O2.out).next O4.out).setRow (Nat.le_refl _) _, _, rfl, EV.only Z4.out (cells_st _) (only_setRow _ _ _) V4.out, R4.out.aside Z4.out (only_setRow _ _ _) (Ne.symm HRs.out.1)⟩
              | true =>
                rw [if_neg (by simp; omega)] at hstep
                rw [hstep] at hG
                simp only at hG
                have HVY := Lib.hid (show v ≤ 16 - y by omega)
                clear hstep hnn hv0 hvy
                go_wp2_with (first | ((go_at_call 89); (with_reducible refine (HU.out).mono ?_); rintro e w2 ⟨rfl, r2, o2⟩; have R2 := Lib.hid r2; have O2 := Lib.hid o2; have Z2 := Lib.hid (hZ.out.only o2 HRs.out.1); have Q2 := Lib.hid (hQ.out.only o2 HRs.out.2.1); clear r2 o2) | ((go_at_call 84); (with_reducible refine (err_ok P l (a + k) _ R2.out).mono ?_); rintro e w3 ⟨rfl, rfl⟩))
                have c16 : y + v ≤ 16 := by have := HVY.out; omega
                have i9 : (y : Int) + (v : Int) ≤ 16 := by omega
                go_loopw [7, 50] (fun v7 v50 wq => ∃ i : Nat, i ≤ v ∧ v7 = .int .i64 ((y : Int) + (i : Int)) ∧ v50 = .int .u16 i ∧ Hid (Pt wq (w.heap.size + 1) (cellsT ((rows ++ List.replicate i last) ++ List.replicate (16 - (y + i)) 0)) 71) ∧ Hid (Pt wq w.heap.size (cellsT zeroT) 71) ∧ Hid (Rd wq P l (a + k) .nil) ∧ Hid (Only P w wq)) (fun _ v50 _ => v - (intOf v50).toNat)
                case atStart => exact ⟨0, Nat.zero_le _, congrArg (Value.int .i64) (by omega), rfl, by simpa using Q2, Z2, R2, Lib.hid (hO.out.trans O2.out)⟩
                case round =>
                  clear R2 O2 Z2 Q2
                  obtain ⟨i, hi, rfl, rfl, hQi, hZi, hRi, hOi⟩ := hrel
                  by_cases hiv : i < v
                  · have j1 : (i : Int) < (v : Int) := by omega
                    have j2 : (y : Int) + (i : Int) < 16 := by omega
                    have j3 : (i : Int) < 16 := by omega
                    have hlen : y + i < ((rows ++ List.replicate i last) ++ List.replicate (16 - (y + i)) 0).length := by simp only [List.length_append, List.length_replicate]; have := hA.out.1; omega
                    have cq := (hQi.out.cell (y + i)).trans (cellsT_at _ _ hlen)
                    have fq := hQi.out.frozen (y + i)
                    have hset : (cellsT ((rows ++ List.replicate i last) ++ List.replicate (16 - (y + i)) 0)).setIfInBounds (y + i) (.int .u16 last) = cellsT ((rows ++ List.replicate (i + 1) last) ++ List.replicate (16 - (y + (i + 1))) 0) := by
                      have h1 := cells_set (rows ++ List.replicate i last) (16 - (y + (i + 1))) last
                      rw [show 16 - (y + (i + 1)) + 1 = 16 - (y + i) by omega, show (rows ++ List.replicate i last).length = y + i by rw [List.length_append, List.length_replicate, hA.out.1], show (rows ++ List.replicate i last) ++ [last] = rows ++ List.replicate (i + 1) last by rw [List.append_assoc, ← List.replicate_succ']] at h1
                      exact h1
                    have hQn := hQi.out.set (y + i) (.int .u16 last)
                    rw [hset] at hQn
                    have HQN := Lib.hid hQn
                    have HI := Lib.hid (show i + 1 ≤ v ∧ v - (i + 1) < v - i ∧ (y : Int) + (i : Int) + 1 = (y : Int) + ((i + 1 : Nat) : Int) by omega)
                    clear hset hQn hlen hi hiv
                    go_wp2_with fail
                    exact ⟨⟨i + 1, HI.out.1, congrArg (Value.int .i64) HI.out.2.2, rfl, HQN, Lib.hid (hZi.out.set_ne (by show w.heap.size + 1 ≠ w.heap.size; omega) _), Lib.hid (hRi.out.aside hQi.out (only_setC _ _ _ _) (Ne.symm HRs.out.2.1)), Lib.hid (hOi.out.setNew (Nat.le_succ _) _ _)⟩, HI.out.2.1⟩
                  · obtain rfl : v = i := by omega
                    have j1 : ¬ (v : Int) < (v : Int) := by omega
                    have HE := Lib.hid (show y + v ≤ 16 ∧ (rows ++ List.replicate v last).length = y + v ∧ 16 ≤ y + v + f' ∧ 16 - (y + v) < 16 - y by
                      have h1 := hA.out
                      have h2 : v ≠ 0 := by intro e; subst e; simp at e0
                      refine ⟨c16, by rw [List.length_append, List.length_replicate, h1.1], by omega, by omega⟩)
                    clear hi hiv
                    go_wp2_with fail
                    exact ⟨⟨y + v, last, a + k, f', false, rows ++ List.replicate v last, HE.out.1, rfl, rfl, congrArg (Value.int .i64) (by omega), Lib.hid ⟨HE.out.2.1, hA.out.2.1, HE.out.2.2.1⟩, hG, hRi, hQi, hZi, hOi⟩, by have h := HE.out.2.2.2; simp only [intOf]; omega⟩
        · have hq3 : q = 1 ∨ q = 2 ∨ q = 3 := by omega
          rw [if_neg hq0] at hstep
          clear hq0 hq4
          rcases hq3 with rfl | rfl | rfl
          · have hstep' : stepT y last fresh n = if v = last ∨ rowN (v) last ≠ n then none else some ([v], v, true) := hstep
            have hx16 : v < 65536 := hv16
            skip
            have HTO := Lib.hid fun W => told_any (v) last n hx16 hA.out.2.1 (by omega) W
            have hlen : y < (rows ++ List.replicate (16 - y) 0).length := by simp only [List.length_append, List.length_replicate]; have := hA.out.1; omega
            have hset : (cellsT (rows ++ List.replicate (16 - y) 0)).setIfInBounds y (.int .u16 v) = cellsT ((rows ++ [v]) ++ List.replicate (16 - (y + 1)) 0) := by
              have h1 := cells_set rows (16 - (y + 1)) v
              rw [show 16 - (y + 1) + 1 = 16 - y by omega, hA.out.1] at h1
              exact h1
            have HQN := Lib.hid fun W (q : Pt W (w.heap.size + 1) (cellsT (rows ++ List.replicate (16 - y) 0)) 71) => (hset ▸ q.set y (.int .u16 v) : Pt (W.setCell ⟨w.heap.size + 1, y, none⟩ (.int .u16 v)) (w.heap.size + 1) (cellsT ((rows ++ [v]) ++ List.replicate (16 - (y + 1)) 0)) 71)
            have hlen2 : y < ((rows ++ [v]) ++ List.replicate (16 - (y + 1)) 0).length := by simp only [List.length_append, List.length_replicate, List.length_singleton]; have := hA.out.1; omega
            have hget : ((rows ++ [v]) ++ List.replicate (16 - (y + 1)) 0).getD y 0 = v := by
              have h1 := hA.out.1
              rw [List.getD_eq_getElem?_getD, List.append_assoc, List.getElem?_append_right (by omega), ← h1, Nat.sub_self]
              rfl
            have HCQ := Lib.hid fun W (q : Pt W (w.heap.size + 1) (cellsT (rows ++ List.replicate (16 - y) 0)) 71) => (q.cell y).trans (cellsT_at _ _ hlen)
            have HC3 := Lib.hid fun W (q : Pt W (w.heap.size + 1) (cellsT ((rows ++ [v]) ++ List.replicate (16 - (y + 1)) 0)) 71) => ((q.cell y).trans (cellsT_at _ _ hlen2)).trans (by rw [hget])
            have HI := Lib.hid (show y + 1 ≤ 16 ∧ (rows ++ [v]).length = y + 1 ∧ 16 ≤ y + 1 + f' ∧ 16 - (y + 1) < 16 - y by
              have h1 := hA.out
              refine ⟨by omega, by rw [List.length_append, h1.1]; rfl, by omega, by omega⟩)
            have HX16 := Lib.hid hx16
            by_cases ht : v ≠ last ∧ rowN v last = n
            · rw [if_neg (by rintro (h | h); exact ht.1 h; exact h ht.2)] at hstep'
              rw [hstep'] at hG
              simp only at hG
              rw [decide_eq_true ht] at HTO
              clear hstep hstep' hx16 hlen hset hlen2 hget ht hnn hv16 
              go_wp2_with (first | ((go_at_call 89); (with_reducible refine (HU.out).mono ?_); rintro e w2 ⟨rfl, r2, o2⟩; have R2 := Lib.hid r2; have O2 := Lib.hid o2; have Z2 := Lib.hid (hZ.out.only o2 HRs.out.1); have q2 := hQ.out.only o2 HRs.out.2.1; have cq2 := HCQ.out _ q2; have fq2 := q2.frozen y; have Q3 := Lib.hid (HQN.out _ q2); have c3 := HC3.out _ Q3.out; have R3 := Lib.hid (r2.aside q2 (only_setC w2 (w.heap.size + 1) y (.int .u16 v)) (Ne.symm HRs.out.2.1)); clear r2 o2 q2) | ((go_at_call 84); (with_reducible refine (err_ok P l (a + k) _ R2.out).mono ?_); rintro e w3 ⟨rfl, rfl⟩) | ((go_at_call 90); (with_reducible refine (HTO.out _).mono ?_); rintro e w3 ⟨rfl, rfl⟩))
              exact ⟨⟨y + 1, v, a + k, f', true, rows ++ [v], HI.out.1, rfl, rfl, rfl, Lib.hid ⟨HI.out.2.1, HX16.out, HI.out.2.2.1⟩, hG, R3, Q3, Lib.hid (Z2.out.set_ne (by show w.heap.size + 1 ≠ w.heap.size; omega) _), Lib.hid ((hO.out.trans O2.out).setNew (Nat.le_succ _) _ _)⟩, HI.out.2.2.2⟩
            · rw [if_pos (by by_cases h1 : v = last; exact .inl h1; exact .inr (fun h2 => ht ⟨h1, h2⟩))] at hstep'
              rw [hstep'] at hG
              have HGE := Lib.hid hG.out
              rw [decide_eq_false ht] at HTO
              clear hstep hstep' hx16 hlen hset hlen2 hget ht hnn hv16  hG
              go_wp2_with (first | ((go_at_call 89); (with_reducible refine (HU.out).mono ?_); rintro e w2 ⟨rfl, r2, o2⟩; have R2 := Lib.hid r2; have O2 := Lib.hid o2; have Z2 := Lib.hid (hZ.out.only o2 HRs.out.1); have q2 := hQ.out.only o2 HRs.out.2.1; have cq2 := HCQ.out _ q2; have fq2 := q2.frozen y; have Q3 := Lib.hid (HQN.out _ q2); have c3 := HC3.out _ Q3.out; have R3 := Lib.hid (r2.aside q2 (only_setC w2 (w.heap.size + 1) y (.int .u16 v)) (Ne.symm HRs.out.2.1)); have Z3 := Lib.hid (Z2.out.set_ne (a := ⟨w.heap.size + 1, y, none⟩) (by show w.heap.size + 1 ≠ w.heap.size; omega) (.int .u16 v)); clear r2 o2 q2) | ((go_at_call 84); (with_reducible refine (err_ok P l (a + k) _ R2.out).mono ?_); rintro e w3 ⟨rfl, rfl⟩) | ((go_at_call 90); (with_reducible refine (HTO.out _).mono ?_); rintro e w3 ⟨rfl, rfl⟩) | ((go_at_call 85); (with_reducible refine (at_num rowS y 3 _).mono ?_); rintro e w4 ⟨⟨b4, rfl, v4⟩, o4⟩; have V4 := Lib.hid v4; have O4 := Lib.hid o4; have Z4 := Lib.hid (Z3.out.keep o4); have R4 := Lib.hid (R3.out.only o4); clear v4 o4) | (refine wpList_store_tile rfl 71 (.tmp 2) (.tmp 75) rfl w.heap.size zeroT zeroT rfl rfl 71 Z4.out rfl (size_tile zeroT rfl) ?_))
              have HZ3 := Lib.hid (show Pt (w4.setRow w.heap.size (cellsT zeroT)) w.heap.size (cellsT zeroT) 71 from setRow_heap _ _ _ _ _ _ Z4.out)
              refine bodyPost_ret (res_tile _ _ w.heap.size zeroT _ rfl rfl HZ3.out rfl) rfl ?_
              unfold GotT
              rw [HGE.out]
              exact ⟨(((hO.out.trans O2.out).setNew (Nat.le_succ _) _ _).next O4.out).setRow (Nat.le_refl _) _, _, rfl, EV.only Z4.out (cells_st _) (only_setRow _ _ _) V4.out, R4.out.aside Z4.out (only_setRow _ _ _) (Ne.symm HRs.out.1)⟩
          · have hstep' : stepT y last fresh n = if v ^^^ last = last ∨ rowN (v ^^^ last) last ≠ n then none else some ([v ^^^ last], v ^^^ last, true) := hstep
            have hx16 : v ^^^ last < 65536 := xor_lt16 hv16 hA.out.2.1
            have hxor := u16_xor_nat v last hv16 hA.out.2.1
            have HTO := Lib.hid fun W => told_any (v ^^^ last) last n hx16 hA.out.2.1 (by omega) W
            generalize hxx : v ^^^ last = x at *
            have hlen : y < (rows ++ List.replicate (16 - y) 0).length := by simp only [List.length_append, List.length_replicate]; have := hA.out.1; omega
            have hset : (cellsT (rows ++ List.replicate (16 - y) 0)).setIfInBounds y (.int .u16 x) = cellsT ((rows ++ [x]) ++ List.replicate (16 - (y + 1)) 0) := by
              have h1 := cells_set rows (16 - (y + 1)) x
              rw [show 16 - (y + 1) + 1 = 16 - y by omega, hA.out.1] at h1
              exact h1
            have HQN := Lib.hid fun W (q : Pt W (w.heap.size + 1) (cellsT (rows ++ List.replicate (16 - y) 0)) 71) => (hset ▸ q.set y (.int .u16 x) : Pt (W.setCell ⟨w.heap.size + 1, y, none⟩ (.int .u16 x)) (w.heap.size + 1) (cellsT ((rows ++ [x]) ++ List.replicate (16 - (y + 1)) 0)) 71)
            have hlen2 : y < ((rows ++ [x]) ++ List.replicate (16 - (y + 1)) 0).length := by simp only [List.length_append, List.length_replicate, List.length_singleton]; have := hA.out.1; omega
            have hget : ((rows ++ [x]) ++ List.replicate (16 - (y + 1)) 0).getD y 0 = x := by
              have h1 := hA.out.1
              rw [List.getD_eq_getElem?_getD, List.append_assoc, List.getElem?_append_right (by omega), ← h1, Nat.sub_self]
              rfl
            have HCQ := Lib.hid fun W (q : Pt W (w.heap.size + 1) (cellsT (rows ++ List.replicate (16 - y) 0)) 71) => (q.cell y).trans (cellsT_at _ _ hlen)
            have HC3 := Lib.hid fun W (q : Pt W (w.heap.size + 1) (cellsT ((rows ++ [x]) ++ List.replicate (16 - (y + 1)) 0)) 71) => ((q.cell y).trans (cellsT_at _ _ hlen2)).trans (by rw [hget])
            have HI := Lib.hid (show y + 1 ≤ 16 ∧ (rows ++ [x]).length = y + 1 ∧ 16 ≤ y + 1 + f' ∧ 16 - (y + 1) < 16 - y by
              have h1 := hA.out
              refine ⟨by omega, by rw [List.length_append, h1.1]; rfl, by omega, by omega⟩)
            have HX16 := Lib.hid hx16
            by_cases ht : x ≠ last ∧ rowN x last = n
            · rw [if_neg (by rintro (h | h); exact ht.1 h; exact h ht.2)] at hstep'
              rw [hstep'] at hG
              simp only at hG
              rw [decide_eq_true ht] at HTO
              clear hstep hstep' hx16 hlen hset hlen2 hget ht hnn hv16 hxx
              go_wp2_with (first | ((go_at_call 89); (with_reducible refine (HU.out).mono ?_); rintro e w2 ⟨rfl, r2, o2⟩; have R2 := Lib.hid r2; have O2 := Lib.hid o2; have Z2 := Lib.hid (hZ.out.only o2 HRs.out.1); have q2 := hQ.out.only o2 HRs.out.2.1; have cq2 := HCQ.out _ q2; have fq2 := q2.frozen y; have Q3 := Lib.hid (HQN.out _ q2); have c3 := HC3.out _ Q3.out; have R3 := Lib.hid (r2.aside q2 (only_setC w2 (w.heap.size + 1) y (.int .u16 x)) (Ne.symm HRs.out.2.1)); clear r2 o2 q2) | ((go_at_call 84); (with_reducible refine (err_ok P l (a + k) _ R2.out).mono ?_); rintro e w3 ⟨rfl, rfl⟩) | ((go_at_call 90); (with_reducible refine (HTO.out _).mono ?_); rintro e w3 ⟨rfl, rfl⟩))
              exact ⟨⟨y + 1, x, a + k, f', true, rows ++ [x], HI.out.1, rfl, rfl, rfl, Lib.hid ⟨HI.out.2.1, HX16.out, HI.out.2.2.1⟩, hG, R3, Q3, Lib.hid (Z2.out.set_ne (by show w.heap.size + 1 ≠ w.heap.size; omega) _), Lib.hid ((hO.out.trans O2.out).setNew (Nat.le_succ _) _ _)⟩, HI.out.2.2.2⟩
            · rw [if_pos (by by_cases h1 : x = last; exact .inl h1; exact .inr (fun h2 => ht ⟨h1, h2⟩))] at hstep'
              rw [hstep'] at hG
              have HGE := Lib.hid hG.out
              rw [decide_eq_false ht] at HTO
              clear hstep hstep' hx16 hlen hset hlen2 hget ht hnn hv16 hxx hG
              go_wp2_with (first | ((go_at_call 89); (with_reducible refine (HU.out).mono ?_); rintro e w2 ⟨rfl, r2, o2⟩; have R2 := Lib.hid r2; have O2 := Lib.hid o2; have Z2 := Lib.hid (hZ.out.only o2 HRs.out.1); have q2 := hQ.out.only o2 HRs.out.2.1; have cq2 := HCQ.out _ q2; have fq2 := q2.frozen y; have Q3 := Lib.hid (HQN.out _ q2); have c3 := HC3.out _ Q3.out; have R3 := Lib.hid (r2.aside q2 (only_setC w2 (w.heap.size + 1) y (.int .u16 x)) (Ne.symm HRs.out.2.1)); have Z3 := Lib.hid (Z2.out.set_ne (a := ⟨w.heap.size + 1, y, none⟩) (by show w.heap.size + 1 ≠ w.heap.size; omega) (.int .u16 x)); clear r2 o2 q2) | ((go_at_call 84); (with_reducible refine (err_ok P l (a + k) _ R2.out).mono ?_); rintro e w3 ⟨rfl, rfl⟩) | ((go_at_call 90); (with_reducible refine (HTO.out _).mono ?_); rintro e w3 ⟨rfl, rfl⟩) | ((go_at_call 85); (with_reducible refine (at_num rowS y 3 _).mono ?_); rintro e w4 ⟨⟨b4, rfl, v4⟩, o4⟩; have V4 := Lib.hid v4; have O4 := Lib.hid o4; have Z4 := Lib.hid (Z3.out.keep o4); have R4 := Lib.hid (R3.out.only o4); clear v4 o4) | (refine wpList_store_tile rfl 71 (.tmp 2) (.tmp 75) rfl w.heap.size zeroT zeroT rfl rfl 71 Z4.out rfl (size_tile zeroT rfl) ?_))
              have HZ3 := Lib.hid (show Pt (w4.setRow w.heap.size (cellsT zeroT)) w.heap.size (cellsT zeroT) 71 from setRow_heap _ _ _ _ _ _ Z4.out)
              refine bodyPost_ret (res_tile _ _ w.heap.size zeroT _ rfl rfl HZ3.out rfl) rfl ?_
              unfold GotT
              rw [HGE.out]
              exact ⟨(((hO.out.trans O2.out).setNew (Nat.le_succ _) _ _).next O4.out).setRow (Nat.le_refl _) _, _, rfl, EV.only Z4.out (cells_st _) (only_setRow _ _ _) V4.out, R4.out.aside Z4.out (only_setRow _ _ _) (Ne.symm HRs.out.1)⟩
          · have hst : stepT y last fresh n = none := by
              rw [hstep, if_pos]
              right
              intro h
              have h2 : rowN v last = n := h
              unfold rowN at h2
              split at h2 <;> omega
            rw [hst] at hG
            have HGE := Lib.hid hG.out
            clear hstep hst hG hnn hv16
            go_wp2_with (first | ((go_at_call 89); (with_reducible refine (HU.out).mono ?_); rintro e w2 ⟨rfl, r2, o2⟩; have R2 := Lib.hid r2; have O2 := Lib.hid o2; have Z2 := Lib.hid (hZ.out.only o2 HRs.out.1); have Q2 := Lib.hid (hQ.out.only o2 HRs.out.2.1); clear r2 o2) | ((go_at_call 84); (with_reducible refine (err_ok P l (a + k) _ R2.out).mono ?_); rintro e w3 ⟨rfl, rfl⟩) | ((go_at_call 85); (with_reducible refine (at_num rowS y 3 _).mono ?_); rintro e w4 ⟨⟨b4, rfl, v4⟩, o4⟩; have V4 := Lib.hid v4; have O4 := Lib.hid o4; have Z4 := Lib.hid (Z2.out.keep o4); have R4 := Lib.hid (R2.out.only o4); clear v4 o4) | (refine wpList_store_tile rfl 71 (.tmp 2) (.tmp 64) rfl w.heap.size zeroT zeroT rfl rfl 71 Z4.out rfl (size_tile zeroT rfl) ?_))
            have HZ3 := Lib.hid (show Pt (w4.setRow w.heap.size (cellsT zeroT)) w.heap.size (cellsT zeroT) 71 from setRow_heap _ _ _ _ _ _ Z4.out)
            refine bodyPost_ret (res_tile _ _ w.heap.size zeroT _ rfl rfl HZ3.out rfl) rfl ?_
            unfold GotT
            rw [HGE.out]
            exact ⟨((hO.out.trans O2.out).next O4.out).setRow (Nat.le_refl _) _, _, rfl, EV.only Z4.out (cells_st _) (only_setRow _ _ _) V4.out, R4.out.aside Z4.out (only_setRow _ _ _) (Ne.symm HRs.out.1)⟩
      · have hk0 : upK 262143 (l.drop a) = 0 := by
          unfold upK upE at *
          cases hd : decU (l.drop a) with
          | cut => rfl
          | form => rfl
          | ok n k => rw [hd] at hE; simp only at hE ⊢; split <;> simp_all
        have hGE : getT l 16 at_ [] 0 true = .read (upE 262143 (l.drop a)) a := by
          rw [hG.out, hG2]
          unfold upE at *
          cases hd : decU (l.drop a) with
          | cut => rfl
          | form => rfl
          | ok n k => rw [hd] at hE; simp only at hE ⊢; split <;> simp_all
        have HGE := Lib.hid hGE
        rw [hk0, Nat.add_zero, show erA (upE 262143 (l.drop a)) a = .fault byteS a (.num (upE 262143 (l.drop a) : Nat)) from if_neg hE] at HU
        generalize upE 262143 (l.drop a) = E at *
        generalize upN 262143 (l.drop a) = N at *
        clear hG2 hk0 hGE
        go_wp2_with (first | ((go_at_call 89); (with_reducible refine (HU.out).mono ?_); rintro e w2 ⟨rfl, r2, o2⟩; have R2 := Lib.hid r2; have O2 := Lib.hid o2; have Z2 := Lib.hid (hZ.out.only o2 HRs.out.1); clear r2 o2) | ((go_at_call 84); (with_reducible refine (err_bad P l a _ _ R2.out rfl).mono ?_); rintro e w3 ⟨⟨t3, a3, rfl, v3⟩, rfl⟩; have V3 := Lib.hid v3; clear v3) | (refine wpList_store_tile rfl 71 (.tmp 2) (.tmp 19) rfl w.heap.size zeroT zeroT rfl rfl 71 Z2.out rfl (size_tile zeroT rfl) ?_))
        have HZ3 := Lib.hid (show Pt (w2.setRow w.heap.size (cellsT zeroT)) w.heap.size (cellsT zeroT) 71 from setRow_heap _ _ _ _ _ _ Z2.out)
        refine bodyPost_ret (res_tile _ _ w.heap.size zeroT _ rfl rfl HZ3.out rfl) rfl ?_
        unfold GotT
        rw [HGE.out]
        exact ⟨(hO.out.trans O2.out).setRow (Nat.le_refl _) _, _, rfl, EV.only Z2.out (cells_st _) (only_setRow _ _ _) V3.out, R2.out.aside Z2.out (only_setRow _ _ _) (Ne.symm HRs.out.1)⟩
    · obtain rfl : y = 16 := by omega
      have hGo : getT l 16 at_ [] 0 true = .ok rows a := by
        rw [hG.out]
        cases f with
        | zero => rfl
        | succ f => unfold getT; rw [if_pos (by have := hA.out.1; omega)]
      have HGO := Lib.hid hGo
      have hQ' : Pt wr (w.heap.size + 1) (cellsT rows) 71 := by simpa using hQ.out
      have HQ2 := Lib.hid hQ'
      clear hQ' hGo hlt hy
      go_wp2_with (first | ((with_reducible refine at_dst (N := 84) rfl ?_); refine wpList_load_row rfl 71 (.tmp 4) rfl (w.heap.size + 1) rfl 71 (cellsT rows) (0, 0) _ HQ2.out Try.underlying71 rfl (size_tile rows hA.out.1) ?_) | (refine wpList_store_tile rfl 71 (.tmp 2) (.tmp 84) rfl w.heap.size zeroT rows rfl rfl 71 hZ.out (by have := hA.out.1; rw [this]; rfl) (size_tile rows hA.out.1) ?_))
      have HZ3 := Lib.hid (show Pt (wr.setRow w.heap.size (cellsT rows)) w.heap.size (cellsT rows) 71 from setRow_heap _ _ _ _ _ _ hZ.out)
      refine bodyPost_ret (res_tile _ _ w.heap.size rows _ rfl rfl HZ3.out hA.out.1) rfl ?_
      unfold GotT
      rw [HGO.out]
      exact ⟨hO.out.setRow (Nat.le_refl _) _, rfl, hR.out.aside hZ.out (only_setRow _ _ _) (Ne.symm HRs.out.1)⟩
end Go.Proofs.Ytmjdlofkjjofcaa

/- The reference's numbers of a tile. -/
import Derived.Test.YtmjdlofkjjofcaaProg
import Derived.Test.YtmjdlofkjjofcaaKit
import Derived.Test.YtmjdlofkjjofcaaKitb
import Derived.Test.YtmjdlofkjjofcaaBytes
import Derived.Test.YtmjdlofkjjofcaaInts
import Derived.Test.YtmjdlofkjjofcaaRow1
import Derived.Test.YtmjdlofkjjofcaaTileV
import Derived.Test.YtmjdlofkjjofcaaTile
import Derived.Test.YtmjdlofkjjofcaaTileP
import Derived.Test.YtmjdlofkjjofcaaTileRow
import Derived.Deep.QuietTactic
import Derived.BigQuiet
namespace Go.Proofs.Ytmjdlofkjjofcaa
open Go.RowKit
set_option linter.unusedVariables false
set_option linter.unusedSimpArgs false

theorem info_u64 : (Try.prog.info? 56).map (fun i => (i.zero, i.size, i.bytes)) = some (some (.int .u64 0), 1, 8) := by kernel_rfl
def nv (ns : List Nat) : List Value := ns.map fun (n : Nat) => Value.int .u64 (n : Int)
theorem nv_snoc (ns : List Nat) (n : Nat) : nv ns ++ [.int .u64 (n : Int)] = nv (ns ++ [n]) := by unfold nv; simp
def Own (w : World) (base : Nat) (v : Value) (ns : List Nat) : Prop := w.ownsRow base 56 1 v ns.length (nv ns)
theorem Own.keep {w w' : World} {base : Nat} {v : Value} {ns : List Nat} (h : Own w base v ns) (k : Below w.heap.size w w') : Own w' base v ns := by
  refine ownsRow_same h fun g hg => ?_
  obtain ⟨h1, h2⟩ := h
  rcases h2 with ⟨h0, _⟩ | ⟨g', cap, cur, rfl, h3, h4, h5⟩
  · subst h0; cases hg
  · cases hg
    exact k.block _ (Array.getElem?_eq_some_iff.1 h4).1
theorem Own.is {w : World} {base : Nat} {v : Value} {ns : List Nat} (h : Own w base v ns) : ∃ A c, v = .slice A ns.length c ∧ Is .u64 w w.heap.size A (ns.map fun (n : Nat) => (n : Int)) := by
  cases ns with
  | nil =>
    obtain ⟨h1, h2⟩ := h
    rcases h2 with ⟨h0, _⟩ | ⟨g', cap, cur, rfl, h3, h4, h5⟩
    · subst h0; exact ⟨none, 0, rfl, Or.inl rfl⟩
    · exact ⟨_, _, rfl, Or.inl rfl⟩
  | cons n r =>
    obtain ⟨g, c, rfl, h1, h2, h3, h4⟩ := ownsRow_shape h (by simp)
    refine ⟨_, c, rfl, Or.inr ⟨g, 0, rfl, h2, fun j u hu => ?_⟩⟩
    rw [Nat.zero_add]
    refine h4 j _ ?_
    unfold nv
    rw [List.getElem?_map] at hu ⊢
    cases hq : (n :: r)[j]? with
    | none => rw [hq] at hu; cases hu
    | some q => rw [hq] at hu; injection hu with hu; subst hu; rfl
theorem grown_own {w w' : World} {B : Nat} {v : Value} {ns : List Nat} (h : Own w B v ns) (hB : B ≤ w.heap.size) (hg : w.grownBy w' v.ownBlock) : Below B w w' := by
  refine (Below.refl B w).grown hg hB fun k e => ?_
  obtain ⟨h1, h2⟩ := h
  rcases h2 with ⟨h0, _⟩ | ⟨g', cap, cur, rfl, h3, h4, h5⟩
  · subst h0; cases e
  · cases e; exact h3
def RetNs (w : World) (ns : List Nat) (e : Ending) (w' : World) : Prop :=
  ∃ A c, e = .returned (.slice A ns.length c) ∧ Is .u64 w' w'.heap.size A (ns.map fun (n : Nat) => (n : Int)) ∧ Below w.heap.size w w'
theorem own_snoc {w : World} {B : Nat} {v : Value} {ns : List Nat} {n : Nat} (h : w.ownsRow B 56 1 v (ns.length + 1) (nv ns ++ [.int .u64 (n : Int)])) : Own w B v (ns ++ [n]) := by
  unfold Own
  rw [nv_snoc] at h
  simpa using h
theorem below_al {B : Nat} {w wr w' : World} {O : Obj} (h : Below B w wr) (hB : B ≤ wr.heap.size) (b : Below B (wr.alloc O) w') : Below B w w' := h.trans (((Below.refl B wr).alloc hB O).trans b)
theorem app_num {ops : Array Oper} {rest : List Oper} {o : Oper} {a : Act} {w : World} {Q : Exit → Act → World → Prop} (hgd : Region.wanted o (yielded ops a.tmps) = true) (s x : Operand) (ho : o.op = .call { callee := .builtin .append, args := #[s, x], argTypes := #[54, 54] })
    {B : Nat} {A : Option Addr} {c : Nat} (k : Nat) (ns : List Nat) (n : Nat) (hk : k = ns.length) (hs : a.eval s = .slice A k c) (hown : Own w B (.slice A k c) ns) {b c1 : Nat} {U : TypeId} (hx : a.eval x = .slice (some ⟨b, 0, none⟩) 1 c1) (hp : Pt w b #[.int .u64 (n : Int)] U)
    (hn : ns.length < 4194304) (hbase : B ≤ w.heap.size) (h : ∀ A' c' w', Own w' B (.slice A' (k + 1) c') (ns ++ [n]) → Below B w w' → wpList Try.prog ops Q rest (a.put o.dst (.slice A' (k + 1) c')) w') : wpList Try.prog ops Q (o :: rest) a w := by
  subst hk
  refine app_one hgd s x 54 ho Try.underlying54 8 (.int .u64 0) info_u64 rfl (by omega) hs hown hx hp rfl hn hbase fun v' w' h2 h3 _ => ?_
  have hb := grown_own hown hbase h3
  obtain ⟨A', c', hv, -⟩ := (own_snoc h2).is
  rw [List.length_append, List.length_singleton] at hv
  subst hv
  exact h A' c' w' (own_snoc h2) hb
set_option maxHeartbeats 4000000 in
set_option maxRecDepth 20000 in
theorem numbers_any (bs : List Nat) (h16 : bs.length = 16) (hb16 : ∀ v ∈ bs, v < 65536) (w : World) :
    Calls Try.prog 86 #[.agg (cellsT bs)] w (RetNs w (numsT 0 0 bs)) := by
  have hfl := flat_cells bs
  have HP := Lib.hid (Pt.new w (cellsT bs) 73)
  have HW := Lib.hid (show Below w.heap.size w (w.alloc (.cells (cellsT bs) 73)) from (Below.refl _ _).alloc (Nat.le_refl _) _)
  have HB := Lib.hid h16
  have HV := Lib.hid hb16
  clear h16 hb16
  go_enter Try.func86, Try.ntmps86
  go_wp2_with fail
  clear hfl
  generalize w.alloc (.cells (cellsT bs) 73) = w1 at *
  generalize hP : w.heap.size = P at *
  have HPP := Lib.hid hP
  clear hP
  go_loopw [3, 4, 5, 6] (fun v3 v4 v5 v6 wr => ∃ (y last same : Nat) (outs : List Nat) (A3 : Option Addr) (c3 : Nat), y ≤ 16 ∧ v3 = .slice A3 outs.length c3 ∧ v4 = .int .u16 last ∧ v5 = .int .u64 same ∧ v6 = .int .i64 y ∧ Hid (Own wr w1.heap.size v3 outs) ∧ Hid (outs ++ numsT same last (bs.drop y) = numsT 0 0 bs) ∧ Hid (last < 65536 ∧ same ≤ y ∧ outs.length ≤ 2 * y) ∧ Hid (Below w1.heap.size w1 wr)) (fun _ _ _ v6 _ => 16 - (intOf v6).toNat)
  case atStart => exact ⟨0, 0, 0, [], none, 0, by omega, rfl, rfl, rfl, rfl, Lib.hid (World.ownsRow_nil _ _ _ _), Lib.hid rfl, Lib.hid ⟨by omega, by omega, by simp⟩, Lib.hid (Below.refl _ _)⟩
  case round =>
    obtain ⟨y, last, same, outs, A3, c3, hy, rfl, rfl, rfl, rfl, hO, hE, hA, hB⟩ := hrel
    have hPt := Lib.hid (HP.out.keep hB.out)
    have HLN := Lib.hid (show outs.length < 4194304 ∧ outs.length + 1 < 4194304 by have := hA.out; omega)
    have hwo : IntKind.u64.wrap (same : Int) = (same : Int) := by rw [show IntKind.u64.wrap (same : Int) = (same : Int) % 18446744073709551616 by first | rfl | simp [IntKind.wrap]]; have := hA.out; omega
    obtain ⟨N4, hN4⟩ : ∃ N, N = 4 * same := ⟨_, rfl⟩
    have HM4 := Lib.hid (show IntKind.u64.wrap (4 * (same : Int)) = (N4 : Int) by rw [show IntKind.u64.wrap (4 * (same : Int)) = (4 * (same : Int)) % 18446744073709551616 by first | rfl | simp [IntKind.wrap]]; have := hA.out; omega)
    by_cases hlt : y < 16
    · have i1 : (y : Int) < 16 := by omega
      have i2 : (0 : Int) ≤ (y : Int) := by omega
      have hdy := List.drop_eq_getElem_cons (show y < bs.length by rw [HB.out]; exact hlt)
      obtain ⟨v, hv⟩ : ∃ v, v = bs.getD y 0 := ⟨_, rfl⟩
      have hv2 : bs[y]'(by rw [HB.out]; exact hlt) = v := by rw [hv, List.getD_eq_getElem?_getD, List.getElem?_eq_getElem (by rw [HB.out]; exact hlt)]; rfl
      rw [hv2] at hdy
      rw [hdy] at hE
      have hv16 : v < 65536 := HV.out v (by rw [← hv2]; exact List.getElem_mem _)
      have HC2 := Lib.hid fun W (p : Pt W P (cellsT bs) 73) => (p.cell y).trans (cellsT_at bs y (by rw [HB.out]; exact hlt))
      rw [← hv] at HC2
      have cy := HC2.out _ hPt.out
      have HI := Lib.hid (show y + 1 ≤ 16 ∧ 16 - (y + 1) < 16 - y by omega)
      by_cases hvl : v = last
      · have f1 : ((v : Int) == (last : Int)) = true := by rw [hvl]; simp
        have hE2 : outs ++ numsT (same + 1) last (bs.drop (y + 1)) = numsT 0 0 bs := by
          have := hE.out
          simpa [numsT, hvl] using this
        have HE2 := Lib.hid hE2
        have HA2 := Lib.hid (show last < 65536 ∧ same + 1 ≤ y + 1 ∧ outs.length ≤ 2 * (y + 1) by have := hA.out; omega)
        have i3 : (same : Int) ≤ 16 := by have := hA.out; omega
        clear hE hE2 hdy hv hv2 hv16 hvl hlt hy hN4
        go_wp2_with fail
        exact ⟨⟨y + 1, last, same + 1, outs, A3, c3, HI.out.1, rfl, rfl, rfl, rfl, hO, HE2, HA2, hB⟩, HI.out.2⟩
      · have f1 : ((v : Int) == (last : Int)) = false := by rw [beq_eq_false_iff_ne]; omega
        have HRow := Lib.hid fun W => row_any v last hv16 hA.out.1 W
        have HV16 := Lib.hid hv16
        obtain ⟨R, hR⟩ : ∃ R, R = rowN v last := ⟨_, rfl⟩
        rw [← hR] at HRow
        by_cases hs : same = 0
        · subst hs
          have hE2 : (outs ++ [R]) ++ numsT 0 v (bs.drop (y + 1)) = numsT 0 0 bs := by
            have := hE.out
            rw [hR]
            simpa [numsT, hvl] using this
          have HE2 := Lib.hid hE2
          have HA2 := Lib.hid (show v < 65536 ∧ 0 ≤ y + 1 ∧ (outs ++ [R]).length ≤ 2 * (y + 1) by have := hA.out; rw [List.length_append]; simp only [List.length_singleton]; omega)
          clear hE hE2 hdy hv hv2 hv16 hvl hlt hy hN4 hR
          go_wp2_with (first | ((go_at_call 107); (with_reducible refine (HRow.out _).mono ?_); rintro e w' ⟨rfl, rfl⟩) | ((with_reducible refine at_dst (N := 32) rfl ?_); refine app_num rfl (.tmp 25) (.tmp 31) rfl outs.length outs R rfl rfl (hO.out.keep ((Below.refl _ _).alloc (Nat.le_refl _) _)) rfl (Pt.new _ _ _) HLN.out.1 (by simp only [World.size_alloc]; exact Nat.le_succ_of_le hB.out.size) ?_; intro Av32 cv32 w32 r32 g32; have O32 := Lib.hid r32; have B32 := Lib.hid (below_al hB.out hB.out.size g32); clear r32 g32; have kv32 := HC2.out _ (HP.out.keep B32.out)))
          exact ⟨⟨y + 1, v, 0, outs ++ [R], Av32, cv32, HI.out.1, by simp, rfl, rfl, rfl, O32, HE2, HA2, B32⟩, HI.out.2⟩
        · have i3 : (0 : Int) < (same : Int) := by omega
          have hE2 : ((outs ++ [N4]) ++ [R]) ++ numsT 0 v (bs.drop (y + 1)) = numsT 0 0 bs := by
            have := hE.out
            have h0 : 0 < same := by omega
            rw [hR, hN4]
            simpa [numsT, hvl, h0] using this
          have HE2 := Lib.hid hE2
          have HA2 := Lib.hid (show v < 65536 ∧ 0 ≤ y + 1 ∧ ((outs ++ [N4]) ++ [R]).length ≤ 2 * (y + 1) by have := hA.out; rw [List.length_append, List.length_append]; simp only [List.length_singleton]; omega)
          have hm4 := HM4.out
          have HLN2 := HLN
          have HLN := Lib.hid (show outs.length < 4194304 ∧ (outs ++ [N4]).length < 4194304 by have := HLN2.out; rw [List.length_append]; simp only [List.length_singleton]; omega)
          clear hE hE2 hdy hv hv2 hv16 hvl hlt hy hN4 hR hs
          go_wp2_with (first | ((go_at_call 107); (with_reducible refine (HRow.out _).mono ?_); rintro e w' ⟨rfl, rfl⟩) | ((with_reducible refine at_dst (N := 24) rfl ?_); refine app_num rfl (.tmp 20) (.tmp 23) rfl outs.length outs N4 rfl rfl (hO.out.keep ((Below.refl _ _).alloc (Nat.le_refl _) _)) rfl (Pt.new _ _ _) HLN.out.1 (by simp only [World.size_alloc]; exact Nat.le_succ_of_le hB.out.size) ?_; intro Av24 cv24 w24 r24 g24; have O24 := Lib.hid r24; have B24 := Lib.hid (below_al hB.out hB.out.size g24); clear r24 g24; have kv24 := HC2.out _ (HP.out.keep B24.out)) | ((with_reducible refine at_dst (N := 32) rfl ?_); refine app_num rfl (.tmp 25) (.tmp 31) rfl (outs.length + 1) (outs ++ [N4]) R (by simp) rfl (O24.out.keep ((Below.refl _ _).alloc (Nat.le_refl _) _)) rfl (Pt.new _ _ _) HLN.out.2 (by simp only [World.size_alloc]; exact Nat.le_succ_of_le B24.out.size) ?_; intro Av32 cv32 w32 r32 g32; have O32 := Lib.hid r32; have B32 := Lib.hid (below_al B24.out B24.out.size g32); clear r32 g32; have kv32 := HC2.out _ (HP.out.keep B32.out)))
          exact ⟨⟨y + 1, v, 0, (outs ++ [N4]) ++ [R], Av32, cv32, HI.out.1, by simp, rfl, rfl, rfl, O32, HE2, HA2, B32⟩, HI.out.2⟩
    · obtain rfl : y = 16 := by omega
      have hd : bs.drop 16 = [] := List.drop_eq_nil_of_le (by rw [HB.out]; exact Nat.le_refl _)
      rw [hd] at hE
      by_cases hs : same = 0
      · subst hs
        have hE2 : numsT 0 0 bs = outs := by have := hE.out; rw [← this]; simp [numsT]
        have HE2 := Lib.hid hE2
        clear hE hE2 hd hlt hy hN4
        go_wp2_with fail
        go_ret
        obtain ⟨A, c, hsl, hIs⟩ := hO.out.is
        injection hsl with hs1 _ hs3
        subst hs1 hs3
        rw [HE2.out]
        obtain rfl := HPP.out
        exact ⟨_, _, rfl, hIs, HW.out.trans (hB.out.mono HW.out.size)⟩
      · have i3 : (0 : Int) < (same : Int) := by omega
        have hE2 : numsT 0 0 bs = outs ++ [N4] := by
          have := hE.out
          have h0 : 0 < same := by omega
          rw [← this, hN4]
          simp [numsT, h0]
        have HE2 := Lib.hid hE2
        have hm4 := HM4.out
        clear hE hE2 hd hlt hy hN4 hs
        go_wp2_with ((with_reducible refine at_dst (N := 42) rfl ?_); refine app_num rfl (.tmp 38) (.tmp 41) rfl outs.length outs N4 rfl rfl (hO.out.keep ((Below.refl _ _).alloc (Nat.le_refl _) _)) rfl (Pt.new _ _ _) HLN.out.1 (by simp only [World.size_alloc]; exact Nat.le_succ_of_le hB.out.size) ?_; intro Av42 cv42 w42 r42 g42; have O42 := Lib.hid r42; have B42 := Lib.hid (below_al hB.out hB.out.size g42); clear r42 g42)
        go_ret
        obtain ⟨A, c, hsl, hIs⟩ := O42.out.is
        injection hsl with hs1 _ hs3
        subst hs1 hs3
        rw [HE2.out]
        obtain rfl := HPP.out
        exact ⟨Av42, cv42, by simp, hIs, HW.out.trans (B42.out.mono HW.out.size)⟩
end Go.Proofs.Ytmjdlofkjjofcaa

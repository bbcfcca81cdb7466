/- Contracts of package store: Make. -/
import Derived.Test.YtjiliiclebdbfaaStoreM
import Derived.Deep.RegionWith
import Derived.Deep.RegionHeld3
import Derived.Deep.AppendLies
import Derived.Deep.RegionLaw
namespace Go.Proofs.Ytjiliiclebdbfaa
open Go.RowKit
set_option linter.unusedVariables false
set_option linter.unusedSimpArgs false

def errV (n : Nat) : Value := if n = 0 then .nilIface else .iface 60 (.int .i64 n)
theorem good_iff (ns : List Nd) (k : K4) : goodK ns k = true ↔ ∀ i, i < 4 → 0 ≤ lvlN ns k.a ∧ lvlN ns k.a < 62 ∧ lvlN ns ((kL k).getD i 0) = lvlN ns k.a := by
  unfold goodK
  simp only [Bool.and_eq_true, decide_eq_true_eq]
  constructor
  · rintro ⟨⟨⟨⟨h1, h2⟩, h3⟩, h4⟩, h5⟩ i hi
    refine ⟨h1, h2, ?_⟩
    match i, hi with
    | 0, _ => rfl
    | 1, _ => exact h3
    | 2, _ => exact h4
    | 3, _ => exact h5
  · intro h
    exact ⟨⟨⟨⟨(h 0 (by omega)).1, (h 0 (by omega)).2.1⟩, (h 1 (by omega)).2.2⟩, (h 2 (by omega)).2.2⟩, (h 3 (by omega)).2.2⟩
/-- What Make leaves. -/
def Made (hf : K4 → Nat) (base : Nat) (w : World) (S N T : Nat) (ns : List Nd) (tb : List Nat) (most : Nat) (k : K4) (e : Ending) (w' : World) : Prop :=
  ∃ N' tb', e = .returned (.tuple #[.int .u32 ((makeN ns most k).1 : Nat), errV (makeN ns most k).2.1]) ∧ SM base w' S N' T (makeN ns most k).2.2 tb' most ∧ TabOk hf (makeN ns most k).2.2 tb' ∧ StOk (makeN ns most k).2.2 ∧ tb'.length = tb.length ∧ Sto S N T w N' w'
section
variable {hf : K4 → Nat} {base : Nat} {w w' W : World} {S N N' T : Nat} {ns : List Nd} {tb : List Nat} {most : Nat} {k : K4}
theorem Made.bad (h : SM base w S N T ns tb most) (t : TabOk hf ns tb) (s : StOk ns) (hg : goodK ns k = false) (hb : Below w.heap.size w w') : Made hf base w S N T ns tb most k (.returned (.tuple #[.int .u32 0, .iface 60 (.int .i64 1)])) w' := by
  have e : makeN ns most k = (0, 1, ns) := by unfold makeN; rw [hg]; rfl
  unfold Made
  rw [e]
  exact ⟨N, tb, rfl, h.below hb, t, s, rfl, .of hb⟩
theorem Made.found (h : SM base w S N T ns tb most) (t : TabOk hf ns tb) (s : StOk ns) (hg : goodK ns k = true) {p v : Nat} {nd : Nd} (hv : tb[p]? = some v) (h0 : v ≠ 0) (hn : ns[v]? = some nd) (hk : nd.k = k) (hb : Below w.heap.size w w') : Made hf base w S N T ns tb most k (.returned (.tuple #[.int .u32 (v : Nat), .nilIface])) w' := by
  have e : makeN ns most k = (v, 0, ns) := by unfold makeN; rw [hg, findN_eq t (t.ent p v hv h0).1 hn hk]; rfl
  unfold Made
  rw [e]
  exact ⟨N, tb, rfl, h.below hb, t, s, rfl, .of hb⟩
theorem Made.full (h : SM base w S N T ns tb most) (t : TabOk hf ns tb) (s : StOk ns) (hg : goodK ns k = true) {d : Nat} (p : Probed hf ns tb k d) (hv : tb[placeT hf tb.length k d]? = some 0) (hm : most ≤ ns.length) (hb : Below w.heap.size w w') : Made hf base w S N T ns tb most k (.returned (.tuple #[.int .u32 0, .iface 60 (.int .i64 7)])) w' := by
  have e : makeN ns most k = (0, 7, ns) := by unfold makeN; rw [hg, findN_none (p.none t hv)]; simp [hm]
  unfold Made
  rw [e]
  exact ⟨N, tb, rfl, h.below hb, t, s, rfl, .of hb⟩
theorem Made.new (h : SM base w S N T ns tb most) (t : TabOk hf ns tb) (s : StOk ns) (hg : goodK ns k = true) {d : Nat} (p : Probed hf ns tb k d) (hv : tb[placeT hf tb.length k d]? = some 0) (hm : ns.length < most) (h' : SM base w' S N' T (ns ++ [newN ns k]) (tb.set (placeT hf tb.length k d) ns.length) most) (hS : Sto S N T w N' w') : Made hf base w S N T ns tb most k (.returned (.tuple #[.int .u32 (ns.length : Nat), .nilIface])) w' := by
  have e : makeN ns most k = (ns.length, 0, ns ++ [newN ns k]) := by unfold makeN; rw [hg, findN_none (p.none t hv)]; simp [Nat.not_le.2 hm]
  have hl := h.lt
  have t' : TabOk hf (ns ++ [newN ns k]) (tb.set (placeT hf tb.length k d) ns.length) := TabOk.push (nd := newN ns k) t p hv (by omega)
  unfold Made
  rw [e]
  exact ⟨N', _, rfl, h', t', s.push hg, by simp, hS⟩
def alF (ns : List Nd) (k : K4) (j i : Nat) : Nat := if i < j then aliveOf ns ((kL k).getD i 0) else 0
/-- The array of the four counts, of which j are set. -/
def alA (ns : List Nd) (k : K4) (j : Nat) : Array Value := alCells [alF ns k j 0, alF ns k j 1, alF ns k j 2, alF ns k j 3]
theorem alF_lt {ns : List Nd} {k : K4} {j i : Nat} (h : i < j) : alF ns k j i = aliveOf ns ((kL k).getD i 0) := by unfold alF; rw [if_pos h]
theorem alF_ge {ns : List Nd} {k : K4} {j i : Nat} (h : ¬ i < j) : alF ns k j i = 0 := by unfold alF; rw [if_neg h]
theorem alF_ne {ns : List Nd} {k : K4} {j i : Nat} (h : i ≠ j) : alF ns k (j + 1) i = alF ns k j i := by
  unfold alF
  by_cases h1 : i < j
  · rw [if_pos h1, if_pos (by omega)]
  · rw [if_neg h1, if_neg (by omega)]
theorem alA_cell (ns : List Nd) (k : K4) (j : Nat) (hj : j < 4) : (alA ns k j)[j]? = some (.int .u64 0) := by
  have e := alF_ge (ns := ns) (k := k) (Nat.lt_irrefl j)
  unfold alA alCells
  match j, hj with
  | 0, _ => simp [e]
  | 1, _ => simp [e]
  | 2, _ => simp [e]
  | 3, _ => simp [e]
theorem alA_set (ns : List Nd) (k : K4) (j : Nat) (hj : j < 4) : (alA ns k j).setIfInBounds j (.int .u64 (aliveOf ns ((kL k).getD j 0) : Nat)) = alA ns k (j + 1) := by
  have e := alF_lt (ns := ns) (k := k) (Nat.lt_succ_self j)
  unfold alA alCells
  rw [← e]
  match j, hj with
  | 0, _ => simp [alF_ne (ns := ns) (k := k) (show (1 : Nat) ≠ 0 by omega), alF_ne (ns := ns) (k := k) (show (2 : Nat) ≠ 0 by omega), alF_ne (ns := ns) (k := k) (show (3 : Nat) ≠ 0 by omega)]
  | 1, _ => simp [alF_ne (ns := ns) (k := k) (show (0 : Nat) ≠ 1 by omega), alF_ne (ns := ns) (k := k) (show (2 : Nat) ≠ 1 by omega), alF_ne (ns := ns) (k := k) (show (3 : Nat) ≠ 1 by omega)]
  | 2, _ => simp [alF_ne (ns := ns) (k := k) (show (0 : Nat) ≠ 2 by omega), alF_ne (ns := ns) (k := k) (show (1 : Nat) ≠ 2 by omega), alF_ne (ns := ns) (k := k) (show (3 : Nat) ≠ 2 by omega)]
  | 3, _ => simp [alF_ne (ns := ns) (k := k) (show (0 : Nat) ≠ 3 by omega), alF_ne (ns := ns) (k := k) (show (1 : Nat) ≠ 3 by omega), alF_ne (ns := ns) (k := k) (show (2 : Nat) ≠ 3 by omega)]
theorem alA_zero (ns : List Nd) (k : K4) : alA ns k 0 = #[.int .u64 0, .int .u64 0, .int .u64 0, .int .u64 0] := by
  unfold alA alCells
  simp [alF]
theorem alA_four (ns : List Nd) (k : K4) : alA ns k 4 = alCells [aliveOf ns k.a, aliveOf ns k.b, aliveOf ns k.c, aliveOf ns k.d] := by
  unfold alA
  rw [alF_lt (by omega), alF_lt (by omega), alF_lt (by omega), alF_lt (by omega)]
  rfl
def nodeZ : Value := .agg #[.int .u32 0, .int .u32 0, .int .u32 0, .int .u32 0, .int .i64 0, .int .u64 0]
theorem info_node : (Try.prog.info? 123).map (fun i => (i.zero, i.size, i.bytes)) = some (some nodeZ, 6, 32) := by kernel_rfl
theorem nodeCells_one (nd : Nd) : ∀ u ∈ nodeCells nd, u.oneCell' = true := by
  intro u hu
  unfold nodeCells at hu
  simp only [List.mem_cons, List.not_mem_nil, or_false] at hu
  rcases hu with rfl | rfl | rfl | rfl | rfl | rfl <;> rfl
theorem newN_level {L : Int} (hL : lvlN ns k.a = L) (h0 : 0 ≤ L) : (L + 1 : Int) = ((newN ns k).level : Nat) := by
  show L + 1 = (((lvlN ns k.a).toNat + 1 : Nat) : Int)
  rw [hL]; omega
theorem newN_cells (ns : List Nd) (k : K4) : nodeCells (newN ns k) = [.int .u32 k.a, .int .u32 k.b, .int .u32 k.c, .int .u32 k.d, .int .i64 (newN ns k).level, .int .u64 (newN ns k).alive] := rfl
theorem alive_le {hf : K4 → Nat} (s : StOk ns) (x : Nat) : aliveOf ns x ≤ maxU := by
  unfold aliveOf
  cases hn : ns[x]? with
  | none => exact Nat.zero_le _
  | some nd =>
    by_cases h2 : 2 ≤ x
    · show nd.alive ≤ maxU
      rw [s.count x nd h2 hn]; exact Nat.min_le_right _ _
    · have : x = 0 ∨ x = 1 := by omega
      rcases this with rfl | rfl
      · rw [s.dead] at hn; injection hn with hn; subst hn; exact Nat.zero_le _
      · rw [s.alive] at hn; injection hn with hn; subst hn; show 1 ≤ maxU; unfold maxU; omega
theorem plus_new (ns : List Nd) (k : K4) : StOk ns → ∀ (W : World) (B : Nat), Pt W B (alA ns k 4) 133 → Calls Try.prog 67 #[.slice (some ⟨B, 0, none⟩) 4 4] W fun e w' => e = .returned (.int .u64 ((newN ns k).alive : Nat)) ∧ W = w' := by
  intro s W B h
  have hle := alive_le (hf := fun _ => 0) s
  rw [alA_four] at h
  have := plus_any [aliveOf ns k.a, aliveOf ns k.b, aliveOf ns k.c, aliveOf ns k.d] (by simp) (fun j => by
    match j with
    | 0 => exact hle _
    | 1 => exact hle _
    | 2 => exact hle _
    | 3 => exact hle _
    | j + 4 => exact Nat.zero_le _) h 4
  have e : [aliveOf ns k.a, aliveOf ns k.b, aliveOf ns k.c, aliveOf ns k.d].sum = aliveOf ns k.a + aliveOf ns k.b + aliveOf ns k.c + aliveOf ns k.d := by simp; omega
  rw [e] at this
  exact this
theorem row_keep (h : SM base w S N T ns tb most) : ∃ cn, w.cell? ⟨S, 0, none⟩ = some (.slice (some ⟨N, 0, none⟩) ns.length cn) ∧ ∀ W', Below w.heap.size w W' → W'.ownsRow base 123 6 (.slice (some ⟨N, 0, none⟩) ns.length cn) ns.length (nodesCells ns) := by
  obtain ⟨cn, h1, h2, _⟩ := h
  refine ⟨cn, by rw [h1.cell]; rfl, fun W' b => ⟨h2.1, ?_⟩⟩
  rcases h2.2 with h0 | ⟨g, cap, cur, hv, hg0, hg, hr⟩
  · exact Or.inl h0
  · exact Or.inr ⟨g, cap, cur, hv, hg0, (b.block g (Array.getElem?_eq_some_iff.1 hg).1).trans hg, hr⟩
/-- Behind the append the store's own cells stand as they were. -/
theorem app_keepS (h : SM base w S N T ns tb most) (h0 : ns ≠ []) (hb : Below w.heap.size w W) (hg : W.grownBy w' (some N)) : ∃ v, w'.cell? ⟨S, 0, none⟩ = some v ∧ w'.frozen? ⟨S, 0, none⟩ = false := by
  obtain ⟨n1, n2, n3, n4, n5⟩ := h.ne h0
  obtain ⟨cn, h1, _⟩ := h.below hb
  have p1 : Pt w' S _ _ := (hg.block S h1.lt (by simpa using n2)).trans h1
  exact ⟨_, by rw [p1.cell]; rfl, p1.frozen 0⟩
theorem Sto.grown {S N T N' : Nat} {w w' : World} (hg : w.grownBy w' (some N)) (hN : N' = N ∨ N' = w.heap.size) : Sto S N T w N' w' :=
  ⟨hg.os, hg.tape, hg.output, hg.size, hN.elim .inl (fun e => .inr (by omega)), fun b hb _ h2 _ => hg.block b hb (by simpa using h2)⟩
set_option maxRecDepth 20000 in
set_option maxHeartbeats 2000000 in
theorem make_gen (hh : ∀ k, hf k = preH k 4) (h : SM base w S N T ns tb most) (t : TabOk hf ns tb) (s : StOk ns) (hk : k32 k) :
    Calls Try.prog 31 #[.pointer (some ⟨S, 0, none⟩), kAgg k] w (Made hf base w S N T ns tb most k) := by
  have H0 := Lib.hid h
  have HB0 := Lib.hid ((Below.refl w.heap.size w).alloc (Nat.le_refl _) (.cells #[.int .u32 k.a, .int .u32 k.b, .int .u32 k.c, .int .u32 k.d] 55))
  have H := Lib.hid (h.below HB0.out)
  have HPB := Lib.hid (Pt.new w #[.int .u32 k.a, .int .u32 k.b, .int .u32 k.c, .int .u32 k.d] 55)
  have H32 := Lib.hid hk
  have HT := Lib.hid t
  have HS := Lib.hid s
  have HH := Lib.hid hh
  have HKA := Lib.hid hk.1
  unfold kAgg
  clear h hk t hh s
  go_enter Try.func31, Try.ntmps31
  go_wp2_with ((go_at_call 17); (with_reducible refine (sLevel_any H.out k.a HKA.out).mono ?_); rintro e w' ⟨rfl, rfl⟩)
  have HG1 := Lib.hid (good_iff ns k)
  generalize hL : lvlN ns k.a = L at *
  have HL := Lib.hid hL
  clear hL
  generalize w.alloc (.cells #[.int .u32 k.a, .int .u32 k.b, .int .u32 k.c, .int .u32 k.d] 55) = W0 at *
  go_loop [18] (fun i => ∃ j : Nat, j ≤ 4 ∧ i = .int .i64 j ∧ Hid (∀ i, i < j → 0 ≤ L ∧ L < 62 ∧ lvlN ns ((kL k).getD i 0) = L)) (fun i => 4 - (intOf i).toNat)
  case atStart => exact ⟨0, by omega, rfl, Lib.hid (fun i hi => by omega)⟩
  case round =>
    obtain ⟨j, hj, rfl, hall⟩ := hrel
    by_cases hlt : j < 4
    · have i0 := idxK k j hlt
      have HX := Lib.hid (H32.out.get j)
      have hbad := Lib.hid (fun (hn : ¬ (0 ≤ L ∧ L < 62 ∧ lvlN ns ((kL k).getD j 0) = L)) => (show goodK ns k = false by
        cases hg : goodK ns k with
        | false => rfl
        | true => exact absurd (HG1.out.1 hg j hlt) hn))
      have hgo := Lib.hid (fun (hn : 0 ≤ L ∧ L < 62 ∧ lvlN ns ((kL k).getD j 0) = L) => (show ∀ i, i < j + 1 → 0 ≤ L ∧ L < 62 ∧ lvlN ns ((kL k).getD i 0) = L from fun i hi => by
        by_cases hij : i = j
        · subst hij; exact hn
        · exact hall.out i (by omega)))
      generalize (kL k).getD j 0 = x at *
      have hd : decide ((j : Int) < 4) = true := decide_eq_true (by omega)
      by_cases h1 : L < 0
      · have hd1 : decide (L < 0) = true := decide_eq_true h1
        have HG := Lib.hid (hbad.out (fun h => by omega))
        clear hbad hgo
        go_wp2_with ((go_at_call 61); (with_reducible refine (of_num 1 _ rfl).mono ?_); rintro e w' ⟨rfl, rfl⟩)
        refine bodyPost_ret (by simp [results, Try.results31, go_sem]; rfl) rfl ?_
        exact Made.bad H0.out HT.out HS.out HG.out HB0.out
      · have hd1 : decide (L < 0) = false := decide_eq_false h1
        by_cases h2 : 62 ≤ L
        · have hd2 : decide (62 ≤ L) = true := decide_eq_true h2
          have HG := Lib.hid (hbad.out (fun h => by omega))
          clear hbad hgo
          go_wp2_with ((go_at_call 61); (with_reducible refine (of_num 1 _ rfl).mono ?_); rintro e w' ⟨rfl, rfl⟩)
          refine bodyPost_ret (by simp [results, Try.results31, go_sem]; rfl) rfl ?_
          exact Made.bad H0.out HT.out HS.out HG.out HB0.out
        · have hd2 : decide (62 ≤ L) = false := decide_eq_false h2
          by_cases h3 : lvlN ns x = L
          · have HG := Lib.hid (hgo.out ⟨by omega, by omega, h3⟩)
            have hd3 : (lvlN ns x != L) = false := by simp [h3]
            clear hbad hgo
            go_wp2_with ((go_at_call 17); (with_reducible refine (sLevel_any H.out x HX.out).mono ?_); rintro e w' ⟨rfl, rfl⟩)
            exact ⟨⟨j + 1, by omega, rfl, HG⟩, by simp only [intOf]; omega⟩
          · have HG := Lib.hid (hbad.out (fun h => h3 h.2.2))
            have hd3 : (lvlN ns x != L) = true := by simp [h3]
            clear hbad hgo
            go_wp2_with (first | ((go_at_call 17); (with_reducible refine (sLevel_any H.out x HX.out).mono ?_); rintro e w' ⟨rfl, rfl⟩) | ((go_at_call 61); (with_reducible refine (of_num 1 _ rfl).mono ?_); rintro e w' ⟨rfl, rfl⟩))
            refine bodyPost_ret (by simp [results, Try.results31, go_sem]; rfl) rfl ?_
            exact Made.bad H0.out HT.out HS.out HG.out HB0.out
    · obtain rfl : j = 4 := by omega
      have HG := Lib.hid (HG1.out.2 hall.out)
      have q0 : W0.cell? ⟨w.heap.size, 0, none⟩ = some (.int .u32 k.a) := by rw [HPB.out.cell]; rfl
      have q1 : W0.cell? ⟨w.heap.size, 1, none⟩ = some (.int .u32 k.b) := by rw [HPB.out.cell]; rfl
      have q2 : W0.cell? ⟨w.heap.size, 2, none⟩ = some (.int .u32 k.c) := by rw [HPB.out.cell]; rfl
      have q3 : W0.cell? ⟨w.heap.size, 3, none⟩ = some (.int .u32 k.d) := by rw [HPB.out.cell]; rfl
      have hslot := Lib.hid (slot_gen hf HH.out H.out HT.out k H32.out)
      unfold kAgg at hslot
      go_upto_region 9 with ((go_at_call 66); (with_reducible refine (hslot.out).mono ?_); rintro e w1 ⟨⟨d, rfl, hP, hv⟩, hb⟩)
      have HB1 := Lib.hid (below_call HB0.out HB0.out.size hb)
      have H1 := Lib.hid (H.out.below hb)
      have HP1 := Lib.hid (HPB.out.keep hb)
      have HP := Lib.hid hP
      have hpl := place_lt hf tb.length HT.out.pos k d
      obtain ⟨cn, c0, c1, c2, hcn⟩ := H1.out.cellS
      clear H hb q0 q1 q2 q3 hslot HPB hP
      rcases hv with hv | ⟨v, nd, hv, hv0, hnd, hkk⟩
      · have hcT := H1.out.cellT hv
        have HV := Lib.hid hv
        have hlt1 := H1.out.lt
        by_cases hm : most ≤ ns.length
        · have hd : decide ((most : Int) - ns.length < 1) = true := decide_eq_true (by omega)
          have HM := Lib.hid hm
          clear hv hm hlt1
          generalize hp : placeT hf tb.length k d = p at hcT hpl ⊢
          have HPP := Lib.hid hp
          clear hp
          go_wp2_with (first | ((go_at_call 34); (with_reducible refine (sRoom_any H1.out).mono ?_); rintro e w' ⟨rfl, q, rfl⟩) | ((go_at_call 61); (with_reducible refine (of_num 7 _ rfl).mono ?_); rintro e w' ⟨rfl, rfl⟩))
          refine bodyPost_ret (by simp [results, Try.results31, go_sem]; rfl) rfl ?_
          exact Made.full H0.out HT.out HS.out HG.out HP.out HV.out HM.out (below_dn HB1.out _)
        · have hd : decide ((most : Int) - ns.length < 1) = false := decide_eq_false (by omega)
          have HM := Lib.hid (And.intro (Nat.not_le.1 hm) hlt1)
          clear hv hm hlt1
          generalize hp : placeT hf tb.length k d = p at hcT hpl ⊢
          have HPP := Lib.hid hp
          clear hp
          have q0 : ∀ q O, ((w1.drewN q).alloc O).cell? ⟨w.heap.size, 0, none⟩ = some (.int .u32 k.a) := fun q O => by rw [((HP1.out.keep (below_dn (Below.refl _ _) q)).alloc O).cell]; rfl
          have q1 : ∀ q O, ((w1.drewN q).alloc O).cell? ⟨w.heap.size, 1, none⟩ = some (.int .u32 k.b) := fun q O => by rw [((HP1.out.keep (below_dn (Below.refl _ _) q)).alloc O).cell]; rfl
          have q2 : ∀ q O, ((w1.drewN q).alloc O).cell? ⟨w.heap.size, 2, none⟩ = some (.int .u32 k.c) := fun q O => by rw [((HP1.out.keep (below_dn (Below.refl _ _) q)).alloc O).cell]; rfl
          have q3 : ∀ q O, ((w1.drewN q).alloc O).cell? ⟨w.heap.size, 3, none⟩ = some (.int .u32 k.d) := fun q O => by rw [((HP1.out.keep (below_dn (Below.refl _ _) q)).alloc O).cell]; rfl
          go_wp2_with ((go_at_call 34); (with_reducible refine (sRoom_any H1.out).mono ?_); rintro e w' ⟨rfl, q, rfl⟩)
          have HPA := Lib.hid (Pt.new (w1.drewN q) #[.int .u64 0, .int .u64 0, .int .u64 0, .int .u64 0] 133)
          have HB2 := Lib.hid ((below_dn (Below.refl w1.heap.size w1) q).alloc (Nat.le_refl _) (.cells #[.int .u64 0, .int .u64 0, .int .u64 0, .int .u64 0] 133))
          clear q0 q1 q2 q3 c0 c1 c2 hcT
          generalize (w1.drewN q).alloc (.cells #[.int .u64 0, .int .u64 0, .int .u64 0, .int .u64 0] 133) = W2 at *
          rw [← alA_zero ns k] at HPA
          go_loopw [61] (fun v wr => ∃ j : Nat, j ≤ 4 ∧ v = .int .i64 j ∧ Hid (Pt wr w1.heap.size (alA ns k j) 133) ∧ Hid (Below w1.heap.size w1 wr)) (fun v _ => 4 - (intOf v).toNat)
          case atStart => exact ⟨0, by omega, rfl, HPA, HB2⟩
          case round =>
            obtain ⟨j, hj, rfl, hpa, hb2⟩ := hrel
            by_cases hlt : j < 4
            · have i0 := idxK k j hlt
              have hg := (HG1.out.1 HG.out j hlt).2.2
              have hx : (kL k).getD j 0 < ns.length := lvlN_lt (by have := (HG1.out.1 HG.out j hlt).1; omega)
              obtain ⟨nd, hnd⟩ : ∃ nd, ns[(kL k).getD j 0]? = some nd := ⟨_, List.getElem?_eq_getElem hx⟩
              have hav : aliveOf ns ((kL k).getD j 0) = nd.alive := by unfold aliveOf; rw [hnd]
              have hset := Lib.hid (alA_set ns k j hlt)
              rw [hav] at hset
              have H3 := Lib.hid (H1.out.below hb2.out)
              obtain ⟨cn', c0, c1, c2, hcn'⟩ := H3.out.cellS
              have c5 : wr.cell? ⟨N, (kL k).getD j 0 * 6 + 5, none⟩ = some (.int .u64 nd.alive) := H3.out.cellN hnd (j := 5) (by omega)
              have cA : wr.cell? ⟨w1.heap.size, j, none⟩ = some (.int .u64 0) := by rw [hpa.out.cell, alA_cell ns k j hlt]
              have fA := hpa.out.frozen j
              clear hg hav hnd
              generalize (kL k).getD j 0 = x at *
              have hd : decide ((j : Int) < 4) = true := decide_eq_true (by omega)
              go_wp2_with fail
              exact ⟨⟨j + 1, by omega, rfl, Lib.hid (by rw [← hset.out]; exact hpa.out.set j _), Lib.hid (hb2.out.setCell (Nat.le_refl _) _)⟩, by simp only [intOf]; omega⟩
            · obtain rfl : j = 4 := by omega
              have H3 := Lib.hid (H1.out.below hb2.out)
              have HP3 := HP1.out.keep hb2.out
              have q0 : wr.cell? ⟨w.heap.size, 0, none⟩ = some (.int .u32 k.a) := by rw [HP3.cell]; rfl
              have q1 : wr.cell? ⟨w.heap.size, 1, none⟩ = some (.int .u32 k.b) := by rw [HP3.cell]; rfl
              have q2 : wr.cell? ⟨w.heap.size, 2, none⟩ = some (.int .u32 k.c) := by rw [HP3.cell]; rfl
              have q3 : wr.cell? ⟨w.heap.size, 3, none⟩ = some (.int .u32 k.d) := by rw [HP3.cell]; rfl
              have hl0 : 0 ≤ L ∧ L < 62 := by have := HG1.out.1 HG.out 0 (by omega); exact ⟨this.1, this.2.1⟩
              have hplus := Lib.hid (plus_new ns k)
              have hk4 := Lib.hid (newN_cells ns k)
              have hlv : (L + 1 : Int) = ((newN ns k).level : Nat) := newN_level HL.out hl0.1
              have HEQ := Lib.hid (show newN ns k = newN ns k from rfl)
              have hlw : IntKind.i64.wrap (L + 1) = ((newN ns k).level : Nat) := by rw [i64_w, w64 (by omega) (by omega), hlv]
              have HB3 := Lib.hid (HB1.out.trans (hb2.out.mono HB1.out.size))
              have HPA3 := hpa
              have hbase := Lib.hid (show base ≤ wr.heap.size by have := H3.out.ne (by have := HS.out.two; intro e; subst e; simp at this); omega)
              have hne : Hid (ns ≠ []) := Lib.hid (by have := HS.out.two; intro e; subst e; simp at this)
              clear hlt HPA HB2 hpa hb2 H1 HP1 HP3 hlv
              generalize hndd : newN ns k = nd at *
              obtain ⟨cn, c0, hrow0⟩ := row_keep H3.out
              have hrow := Lib.hid hrow0
              clear hrow0
              have hB3 := Below.refl wr.heap.size wr
              have kS1 : ∀ O, (wr.drew.alloc O).cell? ⟨S, 0, none⟩ = some (.slice (some ⟨N, 0, none⟩) ns.length cn) := fun O => (c_alloc_lt (W := wr.drew) H3.out.lt.1).trans c0
              have kS2 : ∀ O, (wr.alloc O).cell? ⟨S, 0, none⟩ = some (.slice (some ⟨N, 0, none⟩) ns.length cn) := fun O => (c_alloc_lt (W := wr) H3.out.lt.1).trans c0
              go_upto_region 19 with fail
              go_cut [88] (fun v88 W => Hid (∃ N', SM base W S N' T (ns ++ [nd]) tb most ∧ Sto S N T w N' W))
              case first =>
                go_region_law (first | (go_simp; ((go_at_call 67); (with_reducible refine (hplus.out HS.out _ _ (HPA3.out.keep (by (repeat' (first | (with_reducible exact Below.refl _ _) | (with_reducible assumption) | (with_reducible refine Below.setCell ?_ ?_ _) | (with_reducible refine Below.alloc ?_ ?_ _) | (with_reducible refine below_dn ?_ _) | (with_reducible refine below_call ?_ ?_ (by assumption)) | (with_reducible refine Below.drew ?_) | go_size))))).mono ?_); rintro e w' ⟨rfl, rfl⟩)) | (go_loud (refine app_row_if rfl (.tmp 80) (.tmp 87) 124 rfl rfl 6 32 nodeZ info_node rfl (by omega) (by omega) (N := N) (n := ns.length) (c := cn) (xs := nodesCells ns) rfl (hrow.out _ (by (repeat' (first | (with_reducible exact Below.refl _ _) | (with_reducible assumption) | (with_reducible refine Below.setCell ?_ ?_ _) | (with_reducible refine Below.alloc ?_ ?_ _) | (with_reducible refine below_dn ?_ _) | (with_reducible refine below_call ?_ ?_ (by assumption)) | (with_reducible refine Below.drew ?_) | go_size)))) (news := nodeCells nd) rfl (by rw [hk4.out]; exact Pt.new _ _ _) rfl (nodeCells_one nd) (by have := HM.out; omega) ?hb ?_); (case hb => ((try simp only [World.size_alloc, World.size_drew]); have := hbase.out; omega)); intro N2 c2 w2 r2 g2 e2; obtain ⟨vS, zS, fS⟩ := app_keepS H3.out hne.out (by (repeat' (first | (with_reducible exact Below.refl _ _) | (with_reducible assumption) | (with_reducible refine Below.setCell ?_ ?_ _) | (with_reducible refine Below.alloc ?_ ?_ _) | (with_reducible refine below_dn ?_ _) | (with_reducible refine below_call ?_ ?_ (by assumption)) | (with_reducible refine Below.drew ?_) | go_size))) g2; have HF2 := Lib.hid (And.intro (SM.app (H3.out.below (by (repeat' (first | (with_reducible exact Below.refl _ _) | (with_reducible assumption) | (with_reducible refine Below.setCell ?_ ?_ _) | (with_reducible refine Below.alloc ?_ ?_ _) | (with_reducible refine below_dn ?_ _) | (with_reducible refine below_call ?_ ?_ (by assumption)) | (with_reducible refine Below.drew ?_) | go_size)))) hne.out nd g2 r2 HM.out.1) ((Sto.of (S := S) (T := T) (below_call HB3.out HB3.out.size (by (repeat' (first | (with_reducible exact Below.refl _ _) | (with_reducible assumption) | (with_reducible refine Below.setCell ?_ ?_ _) | (with_reducible refine Below.alloc ?_ ?_ _) | (with_reducible refine below_dn ?_ _) | (with_reducible refine below_call ?_ ?_ (by assumption)) | (with_reducible refine Below.drew ?_) | go_size))))).trans (Sto.grown g2 e2)))))
                all_goals (go_wp2_with fail; go_meet)
                all_goals exact Lib.hid ⟨_, HF2.out.1, HF2.out.2.setS 0 _⟩
              case rest =>
                obtain ⟨N2, hsm, hsto⟩ := hcut.out
                have HSM := Lib.hid hsm
                have HST := Lib.hid hsto
                have hl : (ns ++ [nd]).length = ns.length + 1 := by simp
                have hn0 : ns ++ [nd] ≠ [] := by simp
                have hnST := (hsm.ne hn0).1
                obtain ⟨cn2, c0', c1', c2', _⟩ := hsm.cellS
                rw [hl] at c0'
                have cT := hsm.cellT (show tb[p]? = some 0 by rw [← HPP.out]; exact HV.out)
                have fT : wc.frozen? ⟨T, p, none⟩ = false := by obtain ⟨_, _, _, h3, _⟩ := hsm; exact h3.frozen p
                have hm := HM.out
                have hw1 : IntKind.i64.wrap (((ns.length + 1 : Nat) : Int) - 1) = (ns.length : Int) := by rw [i64_w, w64 (by omega) (by omega)]; omega
                have hw2 : IntKind.u32.wrap (ns.length : Int) = (ns.length : Int) := by first | (show (ns.length : Int) % 4294967296 = _; omega) | (simp [IntKind.wrap]; omega)
                have kT : ∀ (W : World) (v : Value), W.cell? ⟨T, p, none⟩ = some (.int .u32 0) → (W.setCell ⟨T, p, none⟩ v).cell? ⟨T, p, none⟩ = some v := fun W v h => c_set_eq (by rw [h]; rfl)
                have kS3 : ∀ v, (wc.setCell ⟨T, p, none⟩ v).cell? ⟨S, 1, none⟩ = some (.slice (some ⟨T, 0, none⟩) tb.length tb.length) := fun v => (c_set_ne (.inl hnST.symm)).trans c1'
                have kS4 : ∀ v, (wc.drew.setCell ⟨T, p, none⟩ v).cell? ⟨S, 1, none⟩ = some (.slice (some ⟨T, 0, none⟩) tb.length tb.length) := fun v => (c_set_ne (W := wc.drew) (.inl hnST.symm)).trans c1'
                have kT3 : ∀ v, (wc.setCell ⟨T, p, none⟩ v).cell? ⟨T, p, none⟩ = some v := fun v => kT wc v cT
                have kT4 : ∀ v, (wc.drew.setCell ⟨T, p, none⟩ v).cell? ⟨T, p, none⟩ = some v := fun v => kT wc.drew v cT
                have hw3 := Lib.hid (show wrap64 (ns.length : Int) % 4294967296 = (ns.length : Int) by rw [w64 (by omega) (by omega)]; omega)
                replace hn0 := Lib.hid hn0
                clear hm hsm hsto hl hnST kT c0 kS1 kS2 q0 q1 q2 q3 hB3
                go_upto_region 20 with fail
                go_region
                rw [hw3.out]
                have hF : SM base ((wc.setCell ⟨T, p, none⟩ (.int .u32 (ns.length : Nat))).drew) S N2 T (ns ++ [nd]) (tb.set p ns.length) most := (HSM.out.setT hn0.out p ns.length).below ((Below.refl _ _).drew)
                have hS2 : Sto S N T w N2 ((wc.setCell ⟨T, p, none⟩ (.int .u32 (ns.length : Nat))).drew) := (HST.out.setT p (.int .u32 (ns.length : Nat))).next ((Below.refl _ _).drew)
                have HF3 := Lib.hid (And.intro hF hS2)
                clear hF hS2
                go_wp2_with fail
                refine bodyPost_ret (by simp [results, Try.results31, go_sem]; rfl) rfl ?_
                have hF := HF3.out
                rw [← hndd, ← HPP.out] at hF
                rw [← HPP.out]
                exact Made.new H0.out HT.out HS.out HG.out HP.out HV.out HM.out.1 hF.1 hF.2
      · have hcT := H1.out.cellT hv
        have HF := Lib.hid (And.intro hv (And.intro hv0 (And.intro hnd hkk)))
        have hv1 : ((v : Int) != 0) = true := by rw [bne_iff_ne]; omega
        clear hv hv0 hnd hkk
        generalize placeT hf tb.length k d = p at *
        go_wp2_with fail
        refine bodyPost_ret (by simp [results, Try.results31, go_sem]; rfl) rfl ?_
        exact Made.found H0.out HT.out HS.out HG.out HF.out.1 HF.out.2.1 HF.out.2.2.1 HF.out.2.2.2 HB1.out
end
end Go.Proofs.Ytjiliiclebdbfaa

/- package sum: Seal and Open. -/
import Derived.Test.YtmjdlofkjjofcaaProg
import Derived.Test.YtmjdlofkjjofcaaKit
import Derived.Test.YtmjdlofkjjofcaaKitb
import Derived.Test.YtmjdlofkjjofcaaBytes
import Derived.Test.YtmjdlofkjjofcaaApp
import Derived.Test.YtmjdlofkjjofcaaSlices
import Derived.Test.YtmjdlofkjjofcaaSumV
import Derived.Test.YtmjdlofkjjofcaaSum
import Derived.Test.YtmjdlofkjjofcaaSumA
import Derived.ArgAppend
import Derived.Deep.QuietTactic
import Derived.BigQuiet
namespace Go.Proofs.Ytmjdlofkjjofcaa
open Go.RowKit
set_option linter.unusedVariables false
set_option linter.unusedSimpArgs false

/-- Four bytes of a sum, the highest first. -/
def beB (x : V) : List UInt8 := [UInt8.ofNat (x.toNat / 16777216), UInt8.ofNat (x.toNat / 65536), UInt8.ofNat (x.toNat / 256), UInt8.ofNat x.toNat]
def sealB (l : List UInt8) : List UInt8 := l ++ beB (sumOf l)
theorem sealB_len (l : List UInt8) : (sealB l).length = l.length + 4 := by unfold sealB beB; simp
theorem u8_of (n : Nat) : ((UInt8.ofNat n).toNat : Int) = (n : Int) % 256 := by
  rw [UInt8.toNat_ofNat']
  omega
theorem beB_bv (x : V) : bv (beB x) = [Value.int .u8 ((x.toNat : Int) / 16777216), Value.int .u8 ((x.toNat : Int) / 65536 % 256), Value.int .u8 ((x.toNat : Int) / 256 % 256), Value.int .u8 ((x.toNat : Int) % 256)] := by
  unfold bv beB
  have h := x.isLt
  have e : (x.toNat : Int) / 16777216 = (x.toNat : Int) / 16777216 % 256 := by omega
  rw [e]
  simp only [List.map_cons, List.map_nil, u8_of]
  rfl
theorem Row.low {w : World} {base base' : Nat} {e : TypeId} {v : Value} {l : List UInt8} (h : Row w base e v l) (hb : base' ≤ base) : Row w base' e v l := by
  refine ⟨h.1, ?_⟩
  rcases h.2 with h0 | ⟨g, cap, cur, hv, hg0, hg, hr⟩
  · exact Or.inl h0
  · exact Or.inr ⟨g, cap, cur, hv, Nat.le_trans hb hg0, hg, hr⟩
theorem bs_cells {w : World} {B : Nat} {A : Option Addr} {l : List UInt8} (h : Bs w B A l) (b : Addr) (hA : A = some b) (j : Nat) (u : Value) (hu : (bv l)[j]? = some u) : w.cell? (b.add j) = some u := by
  rw [bv_get] at hu
  rcases h with rfl | ⟨b', o, hA', hb, hc⟩
  · simp at hu
  · rw [hA] at hA'
    cases hA'
    cases hx : l[j]? with
    | none => rw [hx] at hu; cases hu
    | some x =>
      rw [hx] at hu
      cases hu
      rw [← hc j x hx]
      unfold Addr.add
      split
      · rename_i hj; simp_all
      · simp
theorem bs_none {w : World} {B : Nat} {l : List UInt8} (h : Bs w B none l) : l = [] := by rcases h with h | ⟨b, o, hA, _⟩; exact h; cases hA
section
variable {P : Program} {w : World} {e : TypeId} {ops : Array Oper} {rest : List Oper} {o : Oper} {a : Act} {Q : Exit → Act → World → Prop}
/-- Bytes appended to a slice that is full: a new row. -/
theorem app_full (hg : o.guard = none) (s x : Operand) (t : TypeId) (ho : o.op = .call { callee := .builtin .append, args := #[s, x], argTypes := #[t, t] })
    (ht : P.underlying t = some (.slice e)) (hi : (P.info? e).map (fun i => (i.zero, i.size, i.bytes)) = some (some (.int .u8 0), 1, 1))
    (l0 l l' : List UInt8) {A0 : Option Addr} {n0 c0 : Nat} (hs : a.eval s = .slice A0 n0 c0) (hn0 : n0 = l0.length) (hc0 : c0 = l0.length) {B : Nat} (h0 : Bs w B A0 l0)
    {ad : Addr} {m c : Nat} (hx : a.eval x = .slice (some ad) m c) (hm : m = l.length) (hpos : 0 < l.length) (hr : ∀ j u, (bv l)[j]? = some u → w.cell? (ad.add j) = some u) (hl' : l' = l0 ++ l) (hmx : l'.length ≤ 140737488355328)
    (h : ∀ A' c' w', Row w' w.heap.size e (.slice A' l'.length c') l' → l'.length ≤ c' ∧ c' ≤ 9223372036854775807 → Below w.heap.size w w' → wpList P ops Q rest (a.put o.dst (.slice A' l'.length c')) w') : wpList P ops Q (o :: rest) a w := by
  subst hn0 hc0 hm hl'
  obtain ⟨i, hi', hz⟩ : ∃ i, P.info? e = some i ∧ (i.zero, i.size, i.bytes) = (some (.int .u8 0), 1, 1) := by
    cases h : P.info? e with
    | none => rw [h] at hi; cases hi
    | some i => exact ⟨i, rfl, by rw [h] at hi; injection hi⟩
  injection hz with hz0 hz1
  injection hz1 with hz1 hz2
  rw [List.length_append] at hmx
  refine wpList_append_grows w hg s x t ho e i _ 1 1 ht hi' hz0 hz1 hz2 rfl (by omega) A0 l0.length l0.length (bv l0) hs (fun e0 => ?_) (by rw [bv_len, Nat.mul_one]) (fun b hb => bs_cells h0 b hb) ad l.length c (bv l) hx (by rw [bv_len, Nat.mul_one]) hr (bv_one l) (by omega) (by simp only [maxLen]; omega) (by omega) fun v' w' hown hgr => ?_
  · subst e0
    rw [bs_none h0]
    exact ⟨rfl, rfl⟩
  · have hrow : Row w' w.heap.size e v' (l0 ++ l) := by unfold Row; rw [bv_app, List.length_append]; exact hown
    obtain ⟨A', c', rfl, -⟩ := hrow.shape
    have hcc : (l0 ++ l).length ≤ c' ∧ c' ≤ 9223372036854775807 := by
      rcases hrow.2 with ⟨hv, hz⟩ | ⟨g, cap, cur, hv, _, _, h1, h2, _⟩
      · rw [List.length_append] at hz; omega
      · injection hv with _ _ hcap
        subst hcap
        exact ⟨h1, by simp only [maxLen] at h2; omega⟩
    exact h A' c' w' hrow hcc (grown_below hgr (fun k hk => by cases hk) (Nat.le_refl _))
end
theorem four_cells (W : World) (x : V) : ∀ j u, (bv (beB x))[j]? = some u → (W.alloc (.cells #[Value.int .u8 ((x.toNat : Int) / 16777216), Value.int .u8 ((x.toNat : Int) / 65536 % 256), Value.int .u8 ((x.toNat : Int) / 256 % 256), Value.int .u8 ((x.toNat : Int) % 256)] 5)).cell? ((⟨W.heap.size, 0, none⟩ : Addr).add j) = some u := by
  intro j u hu
  rw [beB_bv] at hu
  have p := Pt.new W #[Value.int .u8 ((x.toNat : Int) / 16777216), Value.int .u8 ((x.toNat : Int) / 65536 % 256), Value.int .u8 ((x.toNat : Int) / 256 % 256), Value.int .u8 ((x.toNat : Int) % 256)] 5
  rw [Addr.add_lit, Nat.zero_add, p.cell]
  simpa using hu
set_option maxRecDepth 20000 in
theorem seal_any (A : Option Addr) (n c : Nat) (l : List UInt8) (hn : n = l.length) (w : World) (h : Bs w w.heap.size A l) (hc : l.length ≤ c) (hc2 : c ≤ 9223372036854775807) (hl : l.length + 4 ≤ 140737488355328) :
    Calls Try.prog 29 #[.slice A n c] w (RetRow w 5 (sealB l)) := by
  subst hn
  have HO := Lib.hid (of_any A c l w h (by omega))
  have HC := Lib.hid fun W => clip_any A l.length c W hc hc2
  have H := Lib.hid h
  have HL := Lib.hid hl
  clear h hc hc2 hl
  go_enter Try.func29, Try.ntmps29
  go_wp2_with (first
    | ((go_at_call 32); (with_reducible refine HO.out.mono ?_); rintro e w1 ⟨rfl, b1⟩) | ((go_at_call 75); (with_reducible refine (HC.out _).mono ?_); rintro e w' ⟨rfl, rfl⟩)
    | ((with_reducible refine at_dst (N := 20) rfl ?_); refine app_full rfl (.tmp 7) (.tmp 19) 39 rfl rfl (by kernel_rfl) l (beB (sumOf l)) (sealB l) rfl rfl rfl (bs_at H.out (b1.trans ((Below.refl _ _).alloc b1.size _))) rfl rfl (Nat.succ_pos 3) (four_cells _ _) rfl ?hm ?_; (case hm => rw [sealB_len]; exact HL.out); intro A4 c4 w4 r4 k4 b4; have HBW := b_next (b_next b1 ((Below.refl w1.heap.size w1).alloc (Nat.le_refl _) _)) b4; have r4 := Lib.hid r4))
  go_ret
  exact ⟨A4, c4, rfl, r4.out.low (by have := b1.size; simp only [World.size_alloc]; omega), HBW⟩

def openV (l : List UInt8) : Bool := decide (4 ≤ l.length) && (sealB (l.take (l.length - 4)) == l)
set_option maxRecDepth 20000 in
theorem sumOpen_any (A : Option Addr) (n c : Nat) (l : List UInt8) (hn : n = l.length) (w : World) (h : Bs w w.heap.size A l) (hc : l.length ≤ c) (hc2 : c ≤ 9223372036854775807) (hl : l.length + 4 ≤ 140737488355328) :
    Calls Try.prog 30 #[.slice A n c] w fun e w' =>
      (openV l = false ∧ e = .returned (.tuple #[.slice none 0 0, .bool false]) ∧ Below w.heap.size w w') ∨
      (openV l = true ∧ ∃ A' c', e = .returned (.tuple #[.slice A' (l.length - 4) c', .bool true]) ∧ Row w' w.heap.size 5 (.slice A' (l.length - 4) c') (l.take (l.length - 4)) ∧ Below w.heap.size w w') := by
  subst hn
  by_cases h4 : l.length < 4
  · have hf : openV l = false := by unfold openV; rw [decide_eq_false (by omega)]; rfl
    have HF := Lib.hid hf
    clear hf
    go_enter Try.func30, Try.ntmps30
    go_wp2
    refine bodyPost_ret (by simp [results, Try.results30, go_sem, *]; rfl) rfl ?_
    exact Or.inl ⟨HF.out, rfl, Below.refl _ _⟩
  · have hlen : (l.take (l.length - 4)).length = l.length - 4 := by rw [List.length_take]; omega
    have hsub : wrap64 ((l.length : Int) - 4) = ((l.length - 4 : Nat) : Int) := by rw [w64 (by omega) (by omega)]; omega
    have HS := Lib.hid fun W (b : Below w.heap.size w W) => seal_any A (l.length - 4) c (l.take (l.length - 4)) hlen.symm W (bs_at (h.take _) b) (by omega) hc2 (by omega)
    have HC := Lib.hid fun W (b : Below w.heap.size w W) => (show Calls Try.prog 77 #[.slice A (l.length - 4) c] W fun e w' => ∃ A' c', e = .returned (.slice A' (l.length - 4) c') ∧ Row w' w.heap.size 5 (.slice A' (l.length - 4) c') (l.take (l.length - 4)) ∧ Below w.heap.size w w' from
      (clone_any A (l.length - 4) c (l.take (l.length - 4)) hlen.symm W (bs_at (h.take _) b) (by omega)).mono fun e w' ⟨A', c', h1, h2, h3⟩ => by
        rw [hlen] at h1 h2
        exact ⟨A', c', h1, h2.low b.size, b_next b h3⟩)
    obtain ⟨v, hv⟩ : ∃ v, openV l = v := ⟨_, rfl⟩
    have hbe : (sealB (l.take (l.length - 4)) == l) = v := by rw [← hv]; unfold openV; rw [decide_eq_true (by omega)]; rfl
    have HE := Lib.hid fun W (b : Below w.heap.size w W) A' c' (ha : Bs W W.heap.size A' (sealB (l.take (l.length - 4)))) => (show Calls Try.prog 76 #[.slice A' (sealB (l.take (l.length - 4))).length c', .slice A l.length c] W fun e w' => e = .returned (.bool v) ∧ ∃ q, w' = W.drewN q from by
      have := equal_any A' A _ l.length c' c (sealB (l.take (l.length - 4))) l rfl rfl W ha (bs_at h b) (by rw [sealB_len, hlen]; omega)
      rw [hbe] at this
      exact this)
    have HV := Lib.hid hv
    have h4' : ¬ ((l.length : Int) < 4) := by omega
    have hdec : decide ((l.length : Int) < 4) = false := decide_eq_false h4'
    have hle : l.length - 4 ≤ l.length := by omega
    have HHC := Lib.hid (And.intro hc hc2)
    have HI := Lib.hid hle
    have hcc : l.length - 4 ≤ c := by omega
    clear hv hbe h hlen hl
    cases v
    all_goals
      go_enter Try.func30, Try.ntmps30
      go_wp2_with (first
        | ((go_at_call 29); (with_reducible refine (HS.out _ (Below.refl _ _)).mono ?_); rintro e w1 ⟨A1, c1, rfl, r1, b1⟩; have R1 := Lib.hid r1; have B1 := Lib.hid b1; clear r1 b1)
        | ((go_at_call 76); (with_reducible refine (HE.out _ B1.out _ _ (Row.bs' R1.out)).mono ?_); rintro e w2 ⟨rfl, q, rfl⟩; have B2 := Lib.hid (below_dn B1.out q); clear R1 B1)
        | ((go_at_call 77); (with_reducible refine (HC.out _ B2.out).mono ?_); rintro e w3 ⟨A3, c3, rfl, r3, b3⟩; have R3 := Lib.hid r3; have B3 := Lib.hid b3; clear r3 b3))
    · refine bodyPost_ret (by simp [results, Try.results30, go_sem, *]; rfl) rfl ?_
      exact Or.inl ⟨HV.out, rfl, B2.out⟩
    · refine bodyPost_ret (by simp [results, Try.results30, go_sem, *]; rfl) rfl ?_
      exact Or.inr ⟨HV.out, A3, c3, rfl, R3.out, B3.out⟩
end Go.Proofs.Ytmjdlofkjjofcaa

/- Contracts of package store: Make at the program's own hash; Empty. -/
import Derived.Test.YtjiliiclebdbfaaMake
namespace Go.Proofs.Ytjiliiclebdbfaa
open Go.RowKit
set_option linter.unusedVariables false
set_option linter.unusedSimpArgs false

/-- n times: the square of four alike. -/
def stepsN (most : Nat) : Nat → Nat → List Nd → Nat × Nat × List Nd
  | 0, x, ns => (x, 0, ns)
  | n + 1, x, ns => if (makeN ns most ⟨x, x, x, x⟩).2.1 = 0 then stepsN most n (makeN ns most ⟨x, x, x, x⟩).1 (makeN ns most ⟨x, x, x, x⟩).2.2 else (0, (makeN ns most ⟨x, x, x, x⟩).2.1, (makeN ns most ⟨x, x, x, x⟩).2.2)
/-- Empty: the number, the error's number, the squares then. -/
def emptyN (ns : List Nd) (most : Nat) (l : Int) : Nat × Nat × List Nd := if 0 ≤ l ∧ l ≤ 62 then stepsN most l.toNat 0 ns else (0, 1, ns)
theorem makeN_lt {ns : List Nd} {most : Nat} {k : K4} (h : 0 < ns.length) (hm : ns.length ≤ most) : (makeN ns most k).1 ≤ most := by
  unfold makeN
  split
  · split
    · rename_i i hf
      obtain ⟨_, nd, hn, _⟩ := findN_some hf
      have := (List.getElem?_eq_some_iff.1 hn).1
      show i ≤ most
      omega
    · split
      · exact Nat.zero_le _
      · exact hm
  · exact Nat.zero_le _
/-- All that a store's walk asks: it lies so, its table finds, its squares are in order. -/
structure Sok (base : Nat) (w : World) (S N T : Nat) (ns : List Nd) (tb : List Nat) (most : Nat) : Prop where
  lies : SM base w S N T ns tb most
  tab : TabOk hK ns tb
  ok : StOk ns
section
variable {base : Nat} {w w' : World} {S N T : Nat} {ns : List Nd} {tb : List Nat} {most : Nat} {k : K4}
theorem Sok.below (h : Sok base w S N T ns tb most) (b : Below w.heap.size w w') : Sok base w' S N T ns tb most := ⟨h.lies.below b, h.tab, h.ok⟩
theorem make_any (h : Sok base w S N T ns tb most) (hk : k32 k) :
    Calls Try.prog 31 #[.pointer (some ⟨S, 0, none⟩), kAgg k] w fun e w' => ∃ N' tb', e = .returned (.tuple #[.int .u32 ((makeN ns most k).1 : Nat), errV (makeN ns most k).2.1]) ∧ Sok base w' S N' T (makeN ns most k).2.2 tb' most ∧ tb'.length = tb.length ∧ Sto S N T w N' w' :=
  (make_gen (hf := hK) (fun k => by unfold hK; rfl) h.lies h.tab h.ok hk).mono fun e w' h => by
    obtain ⟨N', tb', h1, h2, h3, h4, h5, h6⟩ := h
    exact ⟨N', tb', h1, ⟨h2, h3, h4⟩, h5, h6⟩
theorem Sok.two (h : Sok base w S N T ns tb most) : 2 ≤ ns.length ∧ ns.length ≤ most ∧ most ≤ 2097152 := by
  have := h.lies.lt
  have := h.ok.two
  omega
set_option maxRecDepth 20000 in
set_option maxHeartbeats 2000000 in
theorem empty_in (h : Sok base w S N T ns tb most) (l : Nat) (hl : l ≤ 62) :
    Calls Try.prog 32 #[.pointer (some ⟨S, 0, none⟩), .int .i64 l] w fun e w' => ∃ N' tb', e = .returned (.tuple #[.int .u32 ((stepsN most l 0 ns).1 : Nat), errV (stepsN most l 0 ns).2.1]) ∧ Sok base w' S N' T (stepsN most l 0 ns).2.2 tb' most ∧ tb'.length = tb.length ∧ Sto S N T w N' w' := by
  have H := Lib.hid h
  have hd1 : decide ((l : Int) < 0) = false := decide_eq_false (by omega)
  have hd2 : decide ((62 : Int) < (l : Int)) = false := decide_eq_false (by omega)
  clear h
  go_enter Try.func32, Try.ntmps32
  go_wp2_with fail
  go_loopw [6, 21] (fun v i wr => ∃ (j x N1 : Nat) (ns1 : List Nd) (tb1 : List Nat), j ≤ l ∧ i = .int .i64 j ∧ v = .int .u32 x ∧ Hid (x ≤ most) ∧ Hid (stepsN most l 0 ns = stepsN most (l - j) x ns1) ∧ Hid (Sok base wr S N1 T ns1 tb1 most) ∧ Hid (tb1.length = tb.length) ∧ Hid (Sto S N T w N1 wr)) (fun _ i _ => l - (intOf i).toNat)
  case atStart => exact ⟨0, 0, N, ns, tb, by omega, rfl, rfl, Lib.hid (Nat.zero_le _), Lib.hid rfl, H, Lib.hid rfl, Lib.hid .refl⟩
  case round =>
    obtain ⟨j, x, N1, ns1, tb1, hj, rfl, rfl, hx, hst, hs, htl, hto⟩ := hrel
    by_cases hlt : j < l
    · have hd : decide ((j : Int) < (l : Int)) = true := decide_eq_true (by omega)
      have h2 := hs.out.two
      have h4 : x < 4294967296 := by have := hx.out; omega
      have hmk := make_any hs.out (k := ⟨x, x, x, x⟩) ⟨h4, h4, h4, h4⟩
      clear h4
      have hstep : stepsN most (l - j) x ns1 = if (makeN ns1 most ⟨x, x, x, x⟩).2.1 = 0 then stepsN most (l - (j + 1)) (makeN ns1 most ⟨x, x, x, x⟩).1 (makeN ns1 most ⟨x, x, x, x⟩).2.2 else (0, (makeN ns1 most ⟨x, x, x, x⟩).2.1, (makeN ns1 most ⟨x, x, x, x⟩).2.2) := by
        rw [show l - j = (l - (j + 1)) + 1 by omega]; rfl
      have hyl := Lib.hid (makeN_lt (k := ⟨x, x, x, x⟩) (show 0 < ns1.length by omega) h2.2.1)
      unfold kAgg at hmk
      generalize makeN ns1 most ⟨x, x, x, x⟩ = r at *
      obtain ⟨y, er, ns2⟩ := r
      have hnn := fun w => neq_nil_nil (P := Try.prog) w (ti := 27) Try.underlying27
      by_cases he : er = 0
      · subst he
        have HST := Lib.hid (hst.out.trans (hstep.trans (if_pos rfl)))
        dsimp only at hmk
        rw [show errV 0 = Value.nilIface from rfl] at hmk
        have HMK := Lib.hid hmk
        clear hmk hstep h2
        go_wp2_with ((go_at_call 31); (with_reducible refine (HMK.out).mono ?_); rintro e w' ⟨N2, tb2, rfl, s2, t2, o2⟩; have S2 := Lib.hid s2; have T2 := Lib.hid (t2.trans htl.out); have O2 := Lib.hid (hto.out.trans o2); clear s2 t2 o2)
        exact ⟨⟨j + 1, y, N2, ns2, tb2, by omega, rfl, rfl, hyl, HST, S2, T2, O2⟩, by simp only [intOf]; omega⟩
      · have e1 : errV er = .iface 60 (.int .i64 er) := if_neg he
        have HST := Lib.hid (hst.out.trans (hstep.trans (if_neg he)))
        dsimp only at hmk
        rw [e1] at hmk
        have HMK := Lib.hid hmk
        have HE := Lib.hid e1
        have hni := fun w => neq_iface_nil (P := Try.prog) w (ti := 27) (ta := 60) (.int .i64 er) Try.underlying27
        clear hmk hstep h2 e1 he
        go_wp2_with ((go_at_call 31); (with_reducible refine (HMK.out).mono ?_); rintro e w' ⟨N2, tb2, rfl, s2, t2, o2⟩; have S2 := Lib.hid s2; have T2 := Lib.hid (t2.trans htl.out); have O2 := Lib.hid (hto.out.trans o2); clear s2 t2 o2)
        refine bodyPost_ret (by simp [results, Try.results32, go_sem]; rfl) rfl ?_
        refine ⟨N2, tb2, ?_⟩
        rw [HST.out]
        exact ⟨by rw [HE.out]; rfl, S2.out, T2.out, O2.out⟩
    · obtain rfl : j = l := by omega
      rw [Nat.sub_self] at hst
      go_wp2_with fail
      refine bodyPost_ret (by simp [results, Try.results32, go_sem]; rfl) rfl ?_
      refine ⟨N1, tb1, ?_⟩
      rw [hst.out]
      exact ⟨rfl, hs.out, htl.out, hto.out⟩
theorem empty_out {l : Int} (hl : ¬ (0 ≤ (l : Int) ∧ l ≤ 62)) : Calls Try.prog 32 #[.pointer (some ⟨S, 0, none⟩), .int .i64 l] w fun e w' => e = .returned (.tuple #[.int .u32 0, .iface 60 (.int .i64 1)]) ∧ w = w' := by
  by_cases h0 : l < 0
  · have hd1 : decide ((l : Int) < 0) = true := decide_eq_true h0
    clear hl
    go_enter Try.func32, Try.ntmps32
    go_wp2_with ((go_at_call 61); (with_reducible refine (of_num 1 _ rfl).mono ?_); rintro e w' ⟨rfl, rfl⟩)
    refine bodyPost_ret (by simp [results, Try.results32, go_sem]; rfl) rfl ?_
    exact ⟨rfl, rfl⟩
  · have hd1 : decide ((l : Int) < 0) = false := decide_eq_false h0
    have hd2 : decide ((62 : Int) < (l : Int)) = true := decide_eq_true (by omega)
    clear hl
    go_enter Try.func32, Try.ntmps32
    go_wp2_with ((go_at_call 61); (with_reducible refine (of_num 1 _ rfl).mono ?_); rintro e w' ⟨rfl, rfl⟩)
    refine bodyPost_ret (by simp [results, Try.results32, go_sem]; rfl) rfl ?_
    exact ⟨rfl, rfl⟩
theorem empty_any (h : Sok base w S N T ns tb most) (l : Int) :
    Calls Try.prog 32 #[.pointer (some ⟨S, 0, none⟩), .int .i64 l] w fun e w' => ∃ N' tb', e = .returned (.tuple #[.int .u32 ((emptyN ns most l).1 : Nat), errV (emptyN ns most l).2.1]) ∧ Sok base w' S N' T (emptyN ns most l).2.2 tb' most ∧ tb'.length = tb.length ∧ Sto S N T w N' w' := by
  by_cases hl : 0 ≤ l ∧ l ≤ 62
  · have e : emptyN ns most l = stepsN most l.toNat 0 ns := if_pos hl
    rw [e]
    have := empty_in h l.toNat (by omega)
    rw [show ((l.toNat : Nat) : Int) = l by omega] at this
    exact this
  · have e : emptyN ns most l = (0, 1, ns) := if_neg hl
    rw [e]
    exact (empty_out hl).mono fun e w' ⟨h1, h2⟩ => ⟨N, tb, h1, h2 ▸ h, rfl, h2 ▸ .refl⟩
end
end Go.Proofs.Ytjiliiclebdbfaa

/- Numbers as bytes: the reference's. -/
import Derived.Test.YtmjdlofkjjofcaaProg
import Derived.Test.YtmjdlofkjjofcaaKit
import Derived.Test.YtmjdlofkjjofcaaKitb
import Derived.Test.YtmjdlofkjjofcaaBytes
import Derived.Test.YtmjdlofkjjofcaaInts
import Derived.Test.YtmjdlofkjjofcaaApp
import Derived.Test.YtmjdlofkjjofcaaAppSet
import Derived.Test.YtmjdlofkjjofcaaAppS
import Derived.Test.YtmjdlofkjjofcaaSeal
import Derived.Test.YtmjdlofkjjofcaaPrefixV
import Derived.Test.YtmjdlofkjjofcaaPrefix
import Derived.Test.YtmjdlofkjjofcaaReaderM
import Derived.Test.YtmjdlofkjjofcaaRefSz
import Derived.Deep.QuietTactic
import Derived.BigQuiet
namespace Go.Proofs.Ytmjdlofkjjofcaa
open Go.RowKit
set_option linter.unusedVariables false
set_option linter.unusedSimpArgs false

theorem refFold_any (n : Int) (h : -9223372036854775808 ≤ n ∧ n ≤ 9223372036854775807) (w : World) :
    Calls Try.prog 41 #[.int .i64 n] w fun e w' => e = .returned (.int .u64 (foldI n)) ∧ w = w' := by
  by_cases hn : 0 ≤ n
  · have hv := Lib.hid (show IntKind.u64.wrap (2 * IntKind.u64.wrap n) = (foldI n : Int) by rw [u64w, u64w]; unfold foldI; rw [if_pos hn]; omega)
    clear h
    go_enter Try.func41, Try.ntmps41
    go_wp2_with fail
    go_ret
    exact ⟨ret_int hv.out, rfl⟩
  · have hv := Lib.hid (show IntKind.u64.wrap (IntKind.u64.wrap (2 * IntKind.u64.wrap (wrap64 (-wrap64 (n + 1)))) + 1) = (foldI n : Int) by
      rw [w64 (n := n + 1) (by omega) (by omega), w64 (n := -(n + 1)) (by omega) (by omega), u64w, u64w, u64w]
      unfold foldI
      rw [if_neg hn]
      omega)
    have hn' : ¬ 0 ≤ n := hn
    clear h hn
    go_enter Try.func41, Try.ntmps41
    go_wp2_with fail
    go_ret
    exact ⟨ret_int hv.out, rfl⟩
theorem row_len' {w : World} {base : Nat} {e : TypeId} {A : Option Addr} {n c : Nat} {l : List UInt8} (h : Row w base e (.slice A n c) l) : n = l.length := by
  obtain ⟨A', c', h1, _⟩ := h.shape
  injection h1
theorem row_one (W : World) (u : UInt8) (v : Int) (hv : v = u.toNat) (T : TypeId) : Row (W.alloc (.cells #[.int .u8 v] T)) W.heap.size T (.slice (some ⟨W.heap.size, 0, none⟩) 1 1) [u] := by
  subst hv
  exact ⟨rfl, Or.inr ⟨W.heap.size, 1, _, rfl, Nat.le_refl _, heap_alloc_new W _, Nat.le_refl _, by simp only [maxLen]; omega, rfl, rfl⟩⟩
theorem head_step (i : Nat) (hi : i < 8) : (256 - 2 ^ (8 - i)) / 2 + 128 = 256 - 2 ^ (8 - (i + 1)) := by
  have cs : i = 0 ∨ i = 1 ∨ i = 2 ∨ i = 3 ∨ i = 4 ∨ i = 5 ∨ i = 6 ∨ i = 7 := by omega
  rcases cs with rfl | rfl | rfl | rfl | rfl | rfl | rfl | rfl <;> rfl
theorem enc_be (n : Nat) (hk : sizeU n ≠ 9) : (be (sizeU n) n).set 0 (headU (sizeU n) n) = encU n := by
  have h := sizeU_le n
  unfold encU
  obtain ⟨k, hk'⟩ : ∃ k, sizeU n = k + 1 := ⟨sizeU n - 1, by omega⟩
  rw [hk']
  rfl
theorem enc_be9 (n : Nat) (hk : sizeU n = 9) : (be 9 n).set 0 255 = encU n := by
  unfold encU
  rw [hk]
  rfl
theorem head_val (n k : Nat) (h1 : 1 ≤ k) (h8 : k ≤ 8) : ((((UInt8.ofNat (n / 256 ^ (k - 1))).toNat : Int) + ((256 - 2 ^ (8 - (k - 1)) : Nat) : Int) % 256) % 256) = ((headU k n).toNat : Int) := by
  unfold headU
  rw [if_neg (by omega), u8_of, u8_of, show 8 - (k - 1) = 9 - k by omega]
  omega
set_option maxHeartbeats 2000000 in
set_option maxRecDepth 20000 in
theorem refNumber_any (n : Nat) (hn : n < 18446744073709551616) (w : World) :
    Calls Try.prog 37 #[.int .u64 n] w fun e w' => ∃ A c, e = .returned (.slice A (encU n).length c) ∧ Bs w' w'.heap.size A (encU n) ∧ Below w.heap.size w w' := by
  have HZ := Lib.hid (refSize_any n hn w)
  obtain ⟨k, hk⟩ : ∃ k, sizeU n = k := ⟨_, rfl⟩
  have hk19 := sizeU_le n
  have HK := Lib.hid hk
  rw [hk] at hk19 HZ
  have HN := Lib.hid hn
  obtain ⟨k1, k9⟩ := hk19
  clear hn hk
  go_enter Try.func37, Try.ntmps37
  go_wp2_with ((go_at_call 79); (with_reducible refine (HZ.out).mono ?_); rintro e w' ⟨rfl, rfl⟩)
  go_loopw [4, 5, 6] (fun v4 v5 v6 wr => ∃ (i R : Nat) (A' : Option Addr) (n' c' : Nat), i ≤ k ∧ v4 = .slice A' n' c' ∧ v5 = .int .u64 R ∧ v6 = .int .i64 i ∧ Hid (R = n / 256 ^ i) ∧ Hid (Row wr w.heap.size 5 (.slice A' n' c') (be i n)) ∧ Hid (Below w.heap.size w wr)) (fun _ _ v6 _ => k - (intOf v6).toNat)
  case atStart => exact ⟨0, n, none, 0, 0, Nat.zero_le _, rfl, rfl, rfl, Lib.hid (by simp), Lib.hid (Row.nil _ _ _), Lib.hid (Below.refl _ _)⟩
  case round =>
    obtain ⟨i, R, A', n', c', hi, rfl, rfl, rfl, hR, hS, hB⟩ := hrel
    by_cases hlt : i < k
    · have hi' : (i : Int) < (k : Int) := by omega
      have hbe := Lib.hid (show be (i + 1) n = [UInt8.ofNat R] ++ be i n by rw [hR.out]; rfl)
      have hlen := Lib.hid (be_length i n)
      have hlen1 := Lib.hid (be_length (i + 1) n)
      have hRn := Lib.hid (show R / 256 = n / 256 ^ (i + 1) by rw [hR.out, Nat.div_div_eq_div_mul, Nat.pow_succ])
      have HM := Lib.hid (show k - (i + 1) < k - i by omega)
      have HI := Lib.hid (show i + 1 ≤ k by omega)
      have hnl := Lib.hid (row_len' hS.out)
      have hwj := w64 (n := (i : Int) + 1) (by omega) (by omega)
      have hmod := u8_of R
      have K9 := Lib.hid k9
      have HQ := Lib.hid (show IntKind.u64.wrap ((R : Int) / 256) = ((R / 256 : Nat) : Int) by
        have h1 := HN.out
        have h2 : R ≤ n := by rw [hR.out]; exact Nat.div_le_self _ _
        rw [u64w]
        omega)
      generalize hL1 : be (i + 1) n = L1 at *
      have HL1 := Lib.hid hL1
      clear hL1
      generalize be i n = L0 at *
      clear hlt hi k1 k9
      go_wp2_with ((with_reducible refine at_dst (N := 22) rfl ?_); refine app_bytes2 rfl (.tmp 20) (.tmp 21) 39 rfl rfl (by kernel_rfl) [UInt8.ofNat R] L1 rfl ((row_one _ (UInt8.ofNat R) _ ?xv _).low hB.out.size) rfl (hnl.out) (bs_at (Row.bs' hS.out) ((Below.refl _ _).alloc (Nat.le_refl _) _)) hbe.out ?xm ?xb ?_; (case xv => exact hmod.symm); (case xm => have := hlen1.out; have := HI.out; have := K9.out; omega); (case xb => simp only [World.size_alloc]; exact Nat.le_succ_of_le hB.out.size); intro A4 c4 w4 r4 b4 _)
      exact ⟨⟨i + 1, R / 256, A4, _, c4, HI.out, rfl, by first | rfl | rw [HQ.out], by rw [hwj]; rfl, hRn, Lib.hid (by rw [HL1.out]; exact r4), Lib.hid ((hB.out.alloc hB.out.size _).trans b4)⟩, by have := HM.out; rw [hwj]; simp only [intOf]; clear hwj hmod; omega⟩
    · obtain rfl : i = k := by omega
      have HS := hS
      have hnl := row_len' hS.out
      rw [be_length] at hnl
      replace hnl := hnl.symm
      subst hnl
      obtain ⟨g, cur, rfl, -, hg, -⟩ := hS.out.block (by rw [be_length]; omega)
      have hfz := hS.out.free 0
      have hset := Lib.hid fun m => hS.out.set (q := 0) (by rw [be_length]; omega) m
      have hc0 := hS.out.cell (q := 0) (by rw [be_length]; omega)
      have hbv := Lib.hid (show (be i n).getD 0 0 = UInt8.ofNat (n / 256 ^ (i - 1)) by
        obtain ⟨j, rfl⟩ : ∃ j, i = j + 1 := ⟨i - 1, by omega⟩
        rfl)
      rw [hbv.out] at hc0
      have hBset := Lib.hid fun v => hB.out.setCell (p := ⟨g, 0, none⟩) hg v
      have HK2 := Lib.hid (And.intro k1 k9)
      have HK9 := HK
      by_cases h9 : i = 9
      · subst h9
        have he := Lib.hid (enc_be9 n HK.out)
        clear hlt HK hbv
        go_wp2_with fail
        go_ret
        refine ⟨some ⟨g, 0, none⟩, c', ?_, ?_, hBset.out _⟩
        · rw [encU_length]; exact (by rw [HK9.out]; rfl)
        · have := hset.out 255
          rw [he.out] at this
          exact Row.bs' this
      · have h9' : ¬ (i : Int) = 9 := by omega
        have hv := Lib.hid (head_val n i (by omega) (by omega))
        have hw1 : wrap64 ((i : Int) - 1) = (i : Int) - 1 := w64 (by omega) (by omega)
        have he := Lib.hid (show (be i n).set 0 (headU i n) = encU n by have := enc_be n (by rw [HK.out]; exact h9); rw [HK.out] at this; exact this)
        have hel := Lib.hid (show (encU n).length = i by rw [encU_length]; exact HK.out)
        clear hlt HK hbv h9 hi k1 k9
        go_wp2_with fail
        go_loop [7, 8] (fun v7 v8 => ∃ q H : Nat, q ≤ i - 1 ∧ v7 = .int .i64 H ∧ v8 = .int .i64 q ∧ Hid (H = 256 - 2 ^ (8 - q))) (fun _ v8 => i - 1 - (intOf v8).toNat)
        case atStart => exact ⟨0, 0, by omega, rfl, rfl, Lib.hid rfl⟩
        case round =>
          obtain ⟨q, H, hq, rfl, rfl, hH⟩ := hrel
          by_cases hql : q < i - 1
          · have h1 : (q : Int) < (i : Int) - 1 := by have := HK2.out; omega
            have hH' := Lib.hid (show H / 2 + 128 = 256 - 2 ^ (8 - (q + 1)) by rw [hH.out]; exact head_step q (by have := HK2.out; omega))
            have hHb : H ≤ 256 := by rw [hH.out]; exact Nat.sub_le _ _
            have E := Lib.hid (show wrap64 (wrap64 ((H : Int) / 2) + 128) = ((H / 2 + 128 : Nat) : Int) by rw [w64 (n := (H : Int) / 2) (by omega) (by omega), w64 (by omega) (by omega)]; omega)
            have E3 := Lib.hid (show wrap64 ((q : Int) + 1) = ((q + 1 : Nat) : Int) by rw [w64 (by have := HK2.out; omega) (by have := HK2.out; omega)]; rfl)
            have HM := Lib.hid (show q + 1 ≤ i - 1 ∧ i - 1 - (q + 1) < i - 1 - q by omega)
            clear hq hql hHb
            go_wp2_with fail
            exact ⟨⟨q + 1, H / 2 + 128, HM.out.1, by rw [E.out], by rw [E3.out], hH'⟩, by rw [E3.out]; exact HM.out.2⟩
          · obtain rfl : q = i - 1 := by omega
            have h1 : ¬ ((i - 1 : Nat) : Int) < (i : Int) - 1 := by have := HK2.out; omega
            have HV := Lib.hid (show (((UInt8.ofNat (n / 256 ^ (i - 1))).toNat : Int) + (H : Int)) % 256 = ((headU i n).toNat : Int) by have := hv.out; rw [← hH.out] at this; omega)
            have hi0 : 0 < i := HK2.out.1
            clear hq hql hv hH
            generalize UInt8.ofNat (n / 256 ^ (i - 1)) = X at *
            go_wp2_with fail
            go_ret
            have hrow := hset.out (headU i n)
            rw [he.out] at hrow
            rw [HV.out]
            exact ⟨some ⟨g, 0, none⟩, ⟨c', by rw [hel.out]; rfl⟩, Row.bs' hrow, hBset.out _⟩
end Go.Proofs.Ytmjdlofkjjofcaa

/- Tiles as numbers: the plain law. -/
import Derived.Lib.BitFns
import Derived.Test.YtmjdlofkjjofcaaPrefixV
namespace Go.Proofs.Ytmjdlofkjjofcaa

/-- The number by which a row is told, behind another one. -/
def rowN (v last : Nat) : Nat := if Lib.bitLen (v ^^^ last) < Lib.bitLen v then 4 * (v ^^^ last) + 2 else 4 * v + 1
/-- A tile's numbers, behind so many rows that are as the last one. -/
def numsT : Nat → Nat → List Nat → List Nat
  | same, _, [] => if 0 < same then [4 * same] else []
  | same, last, v :: r => if v = last then numsT (same + 1) last r else (if 0 < same then [4 * same] else []) ++ rowN v last :: numsT 0 v r
/-- How many rows from here on are as the last one. -/
def runT (last : Nat) : List Nat → Nat
  | [] => 0
  | v :: r => if v = last then runT last r + 1 else 0
theorem runT_le (last : Nat) (l : List Nat) : runT last l ≤ l.length := by
  induction l with
  | nil => simp [runT]
  | cons v r ih => unfold runT; split <;> simp <;> omega
theorem nums_run (last : Nat) (l : List Nat) : ∀ s, numsT s last l = (if 0 < s + runT last l then [4 * (s + runT last l)] else []) ++ numsT 0 last (l.drop (runT last l)) := by
  induction l with
  | nil => intro s; by_cases h : 0 < s <;> simp [numsT, runT, h]
  | cons v r ih =>
    intro s
    by_cases h : v = last
    · subst h
      have e : runT v (v :: r) = runT v r + 1 := by simp [runT]
      rw [e, List.drop_succ_cons]
      have e2 : numsT s v (v :: r) = numsT (s + 1) v r := by simp [numsT]
      rw [e2, ih (s + 1), show s + 1 + runT v r = s + (runT v r + 1) by omega]
    · have e : runT last (v :: r) = 0 := by simp [runT, h]
      rw [e, List.drop_zero, Nat.add_zero]
      simp [numsT, h]
/-- A run's number comes first. -/
theorem nums_pos (last : Nat) (l : List Nat) (h : 0 < runT last l) : numsT 0 last l = 4 * runT last l :: numsT 0 last (l.drop (runT last l)) := by
  rw [nums_run last l 0, Nat.zero_add, if_pos h]
  rfl
/-- No run: a row's. -/
theorem nums_row (last v : Nat) (r : List Nat) (h : runT last (v :: r) = 0) : v ≠ last ∧ numsT 0 last (v :: r) = rowN v last :: numsT 0 v r := by
  have hv : v ≠ last := by
    intro e
    subst e
    simp [runT] at h
  refine ⟨hv, ?_⟩
  simp [numsT, hv]
/-- Behind a run no row is as the last one. -/
theorem run_drop (last : Nat) (l : List Nat) : runT last (l.drop (runT last l)) = 0 := by
  induction l with
  | nil => simp [runT]
  | cons v r ih =>
    by_cases h : v = last
    · have e : runT last (v :: r) = runT last r + 1 := by simp [runT, h]
      rw [e, List.drop_succ_cons]
      exact ih
    · have e : runT last (v :: r) = 0 := by simp [runT, h]
      rw [e, List.drop_zero, e]
theorem run_take (last : Nat) (l : List Nat) : l.take (runT last l) = List.replicate (runT last l) last := by
  induction l with
  | nil => simp [runT]
  | cons v r ih =>
    by_cases h : v = last
    · have e : runT last (v :: r) = runT last r + 1 := by simp [runT, h]
      rw [e, List.take_succ_cons, List.replicate_succ, ih, h]
    · have e : runT last (v :: r) = 0 := by simp [runT, h]
      rw [e]; rfl
theorem run_more (last : Nat) (l : List Nat) (k : Nat) (hk : k < l.length) (h : l.take k = List.replicate k last) : (k < runT last l ↔ l.getD k 0 = last) := by
  induction l generalizing k with
  | nil => simp at hk
  | cons v r ih =>
    cases k with
    | zero =>
      by_cases hv : v = last
      · simp [runT, hv]
      · simp [runT, hv]
    | succ k =>
      rw [List.take_succ_cons, List.replicate_succ] at h
      injection h with h1 h2
      have e : runT last (v :: r) = runT last r + 1 := by simp [runT, h1]
      rw [e, List.getD_cons_succ]
      have := ih k (by simpa using hk) h2
      omega
theorem xor_lt16 {a b : Nat} (ha : a < 65536) (hb : b < 65536) : a ^^^ b < 65536 := Nat.xor_lt_two_pow (n := 16) ha hb
theorem rowN_lt {v last : Nat} (hv : v < 65536) (hl : last < 65536) : rowN v last < 262144 := by
  unfold rowN
  have := xor_lt16 hv hl
  split <;> omega
/-- What a number tells behind a row: the rows, and whether a run may come next; of 16 rows y were there. -/
def stepT (y last : Nat) (fresh : Bool) (n : Nat) : Option (List Nat × Nat × Bool) :=
  if n % 4 = 0 then (if n / 4 = 0 ∨ n / 4 > 16 - y ∨ fresh = false then none else some (List.replicate (n / 4) last, last, false))
  else
    let v := if n % 4 = 2 then (n / 4) ^^^ last else n / 4
    if v = last ∨ rowN v last ≠ n then none else some ([v], v, true)
inductive OutT where
  | ok (rows : List Nat) (at_ : Nat)
  | read (e at_ : Nat)
  | row (y at_ : Nat)
/-- The tile that comes next in bytes. -/
def getT (l : List UInt8) : Nat → Nat → List Nat → Nat → Bool → OutT
  | 0, at_, rows, _, _ => .ok rows at_
  | f + 1, at_, rows, last, fresh =>
    if 16 ≤ rows.length then .ok rows at_
    else match decU (l.drop at_) with
      | .cut => .read 2 at_
      | .form => .read 3 at_
      | .ok n k => if 262143 < n then .read 5 at_ else match stepT rows.length last fresh n with
        | none => .row rows.length (at_ + k)
        | some (add, last', fresh') => getT l f (at_ + k) (rows ++ add) last' fresh'
theorem xor_xor (a b : Nat) : (a ^^^ b) ^^^ b = a := by rw [Nat.xor_assoc, Nat.xor_self, Nat.xor_zero]
theorem step_row (y v last : Nat) (fresh : Bool) (hv : v ≠ last) : stepT y last fresh (rowN v last) = some ([v], v, true) := by
  unfold stepT
  have hr : rowN v last = rowN v last := rfl
  by_cases h : Lib.bitLen (v ^^^ last) < Lib.bitLen v
  · have e : rowN v last = 4 * (v ^^^ last) + 2 := by unfold rowN; rw [if_pos h]
    have e1 : rowN v last % 4 = 2 := by omega
    have e2 : rowN v last / 4 = v ^^^ last := by omega
    rw [if_neg (by omega)]
    simp only [e1, e2, if_true, xor_xor]
    rw [if_neg (by simp [hv])]
  · have e : rowN v last = 4 * v + 1 := by unfold rowN; rw [if_neg h]
    have e1 : rowN v last % 4 = 1 := by omega
    have e2 : rowN v last / 4 = v := by omega
    rw [if_neg (by omega)]
    simp only [e1, e2]
    rw [if_neg (show ¬ (1 = 2) by omega)]
    rw [if_neg (by simp [hv])]
/-- A tile's bytes, got again. -/
theorem get_nums (rest pre : List UInt8) : ∀ (f : Nat) (todo rows : List Nat) (last : Nat) (fresh : Bool), todo.length ≤ f → rows.length + todo.length = 16 → last < 65536 → (∀ v ∈ todo, v < 65536) → (fresh = true ∨ runT last todo = 0) →
    ∀ (l front : List UInt8), l = front ++ ((numsT 0 last todo).flatMap encU ++ rest) → getT l f front.length rows last fresh = .ok (rows ++ todo) (front ++ (numsT 0 last todo).flatMap encU).length
  | 0, todo, rows, last, fresh, hf, _, _, _, _, l, front, hl => by
    obtain rfl : todo = [] := List.eq_nil_of_length_eq_zero (by omega)
    simp [getT, numsT]
  | f + 1, todo, rows, last, fresh, hf, h16, hla, hto, hfr, l, front, hl => by
    unfold getT
    cases todo with
    | nil =>
      rw [if_pos (by simp at h16; omega)]
      simp [numsT]
    | cons v r =>
      rw [if_neg (by simp at h16; omega)]
      by_cases hrun : runT last (v :: r) = 0
      · obtain ⟨hv, hn⟩ := nums_row last v r hrun
        have hv16 : v < 65536 := hto v (by simp)
        have hrl := rowN_lt hv16 hla
        rw [hn] at hl ⊢
        rw [List.flatMap_cons] at hl ⊢
        have hd : decU (l.drop front.length) = .ok (rowN v last) (sizeU (rowN v last)) := by
          rw [hl, List.drop_left, List.append_assoc]
          exact dec_enc _ (by omega) _
        rw [hd]
        simp only
        rw [if_neg (by omega), step_row _ _ _ _ hv]
        simp only
        have := get_nums rest pre f r (rows ++ [v]) v true (by simp at hf; omega) (by simp at h16 ⊢; omega) hv16 (fun x hx => hto x (by simp [hx])) (.inl rfl) l (front ++ encU (rowN v last)) (by rw [hl]; simp)
        rw [List.length_append, encU_length] at this
        rw [this]
        simp
      · have hp : 0 < runT last (v :: r) := by omega
        have hle := runT_le last (v :: r)
        have hn := nums_pos last (v :: r) hp
        have ht := run_take last (v :: r)
        have hdr := run_drop last (v :: r)
        have hfresh : fresh = true := by rcases hfr with h | h; exact h; omega
        subst hfresh
        generalize runT last (v :: r) = k at *
        rw [hn] at hl ⊢
        rw [List.flatMap_cons] at hl ⊢
        have hk16 : k ≤ 16 - rows.length := by omega
        have hd : decU (l.drop front.length) = .ok (4 * k) (sizeU (4 * k)) := by
          rw [hl, List.drop_left, List.append_assoc]
          exact dec_enc _ (by omega) _
        rw [hd]
        simp only
        rw [if_neg (by omega)]
        have hs : stepT rows.length last true (4 * k) = some (List.replicate k last, last, false) := by
          unfold stepT
          rw [if_pos (by omega), show 4 * k / 4 = k by omega, if_neg (by simp; omega)]
        rw [hs]
        simp only
        have := get_nums rest pre f ((v :: r).drop k) (rows ++ List.replicate k last) last false (by simp only [List.length_drop]; omega) (by simp only [List.length_append, List.length_replicate, List.length_drop]; omega) hla
          (fun x hx => hto x (List.mem_of_mem_drop hx)) (.inr hdr) l (front ++ encU (4 * k)) (by rw [hl]; simp)
        rw [List.length_append, encU_length] at this
        rw [this]
        congr 1
        · rw [List.append_assoc, ← ht, List.take_append_drop]
        · simp
/-- What was got has just these bytes. -/
theorem nums_get (l : List UInt8) : ∀ (f at_ : Nat) (rows : List Nat) (last : Nat) (fresh : Bool) (out : List Nat) (to_ : Nat), getT l f at_ rows last fresh = .ok out to_ → rows.length ≤ 16 → 16 ≤ rows.length + f → at_ ≤ l.length → last < 65536 → (∀ v ∈ rows, v < 65536) →
    ∃ add, out = rows ++ add ∧ out.length = 16 ∧ (∀ v ∈ out, v < 65536) ∧ at_ ≤ to_ ∧ to_ ≤ l.length ∧ (fresh = false → runT last add = 0) ∧ (l.drop at_).take (to_ - at_) = (numsT 0 last add).flatMap encU
  | 0, at_, rows, last, fresh, out, to_, h, h16, hf, hat, hla, hro => by
    injection h with h1 h2
    subst h1 h2
    exact ⟨[], by simp, by omega, hro, Nat.le_refl _, hat, fun _ => rfl, by simp [numsT]⟩
  | f + 1, at_, rows, last, fresh, out, to_, h, h16, hf, hat, hla, hro => by
    unfold getT at h
    by_cases hl : 16 ≤ rows.length
    · rw [if_pos hl] at h
      injection h with h1 h2
      subst h1 h2
      exact ⟨[], by simp, by omega, hro, Nat.le_refl _, hat, fun _ => rfl, by simp [numsT]⟩
    · rw [if_neg hl] at h
      cases hd : decU (l.drop at_) with
      | cut => rw [hd] at h; cases h
      | form => rw [hd] at h; cases h
      | ok n k =>
        rw [hd] at h
        simp only at h
        by_cases hn : 262143 < n
        · rw [if_pos hn] at h; cases h
        · rw [if_neg hn] at h
          obtain ⟨e1, e2, e3, e4, e5⟩ := enc_dec hd
          rw [List.length_drop] at e5
          cases hs : stepT rows.length last fresh n with
          | none => rw [hs] at h; cases h
          | some q =>
            obtain ⟨add, last', fresh'⟩ := q
            rw [hs] at h
            simp only at h
            have glue : ∀ to_ (X : List UInt8), at_ + k ≤ to_ → (l.drop (at_ + k)).take (to_ - (at_ + k)) = X → (l.drop at_).take (to_ - at_) = encU n ++ X := by
              intro to_ X ht hx
              rw [← e1, ← hx, ← List.drop_drop, show to_ - at_ = k + (to_ - (at_ + k)) by omega, List.take_add]
            unfold stepT at hs
            by_cases h4 : n % 4 = 0
            · rw [if_pos h4] at hs
              split at hs
              · cases hs
              · rename_i hc
                injection hs with hs
                injection hs with hs1 hs2
                injection hs2 with hs2 hs3
                subst hs1 hs2 hs3
                have hc1 : ¬ n / 4 = 0 := fun e => hc (.inl e)
                have hc2 : ¬ n / 4 > 16 - rows.length := fun e => hc (.inr (.inl e))
                have hc3 : fresh = true := by cases fresh with | true => rfl | false => exact absurd (.inr (.inr rfl)) hc
                obtain ⟨ad, g1, g2, g3, g4, g5, g6, g7⟩ := nums_get l f (at_ + k) _ last false out to_ h (by simp; omega) (by simp; omega) (by omega) hla (by
                  intro v hv
                  rw [List.mem_append] at hv
                  rcases hv with hv | hv
                  · exact hro v hv
                  · rw [List.mem_replicate] at hv; rw [hv.2]; exact hla)
                have hrun : runT last (List.replicate (n / 4) last ++ ad) = n / 4 := by
                  have h0 := g6 rfl
                  generalize n / 4 = m at *
                  clear hc hc1 hc2 g1 h g2 g7
                  induction m with
                  | zero => simpa using h0
                  | succ m ih => rw [List.replicate_succ, List.cons_append]; simp [runT, ih]
                refine ⟨List.replicate (n / 4) last ++ ad, by rw [g1, List.append_assoc], g2, g3, by omega, g5, (fun e => by rw [hc3] at e; cases e), ?_⟩
                have hp := nums_pos last (List.replicate (n / 4) last ++ ad) (by omega)
                rw [hrun] at hp
                rw [hp, List.flatMap_cons, show 4 * (n / 4) = n by omega]
                have hdrop : (List.replicate (n / 4) last ++ ad).drop (n / 4) = ad := by
                  have := List.drop_left (l₁ := List.replicate (n / 4) last) (l₂ := ad)
                  rwa [List.length_replicate] at this
                rw [hdrop]
                exact glue _ _ g4 g7
            · rw [if_neg h4] at hs
              simp only at hs
              obtain ⟨v, hv⟩ : ∃ v, v = (if n % 4 = 2 then (n / 4) ^^^ last else n / 4) := ⟨_, rfl⟩
              rw [← hv] at hs
              split at hs
              · cases hs
              · rename_i hc
                injection hs with hs
                injection hs with hs1 hs2
                injection hs2 with hs2 hs3
                subst hs1 hs2 hs3
                have hc1 : v ≠ last := fun e => hc (.inl e)
                have hc2 : rowN v last = n := by
                  by_cases e : rowN v last = n
                  · exact e
                  · exact absurd (.inr e) hc
                have hv16 : v < 65536 := by
                  rw [hv]
                  split
                  · exact xor_lt16 (by omega) hla
                  · omega
                obtain ⟨ad, g1, g2, g3, g4, g5, g6, g7⟩ := nums_get l f (at_ + k) _ v true out to_ h (by simp; omega) (by simp; omega) (by omega) hv16 (by
                  intro x hx
                  rw [List.mem_append] at hx
                  rcases hx with hx | hx
                  · exact hro x hx
                  · simp at hx; rw [hx]; exact hv16)
                refine ⟨v :: ad, by rw [g1]; simp, g2, g3, by omega, g5, (fun _ => by simp [runT, hc1]), ?_⟩
                have hp := nums_row last v ad (by simp [runT, hc1])
                rw [hp.2, List.flatMap_cons, hc2]
                exact glue _ _ g4 g7
end Go.Proofs.Ytmjdlofkjjofcaa

/- How many cells of a square are alive: the plain law. -/
import Derived.Test.YtjiliiclebdbfaaQuadZ
namespace Go.Proofs.Ytjiliiclebdbfaa
set_option linter.unusedVariables false

/-- Living cells of a square of level l, all counted. -/
def cntN (ns : List Nd) : Nat → Nat → Nat
  | 0, x => if x = 1 then 1 else 0
  | l + 1, x => cntN ns l (kid (kidsOf ns x) 0) + cntN ns l (kid (kidsOf ns x) 1) + cntN ns l (kid (kidsOf ns x) 2) + cntN ns l (kid (kidsOf ns x) 3)
section
variable {ns ns' : List Nd} {most x : Nat}
theorem alive_cnt (s : StOk ns) : ∀ {l x : Nat}, lvlN ns x = l → aliveOf ns x = min (cntN ns l x) maxU := by
  intro l
  induction l with
  | zero =>
    intro x h
    rcases lvl0 s h with rfl | rfl
    · unfold aliveOf; rw [s.dead]; rfl
    · unfold aliveOf; rw [s.alive]; rfl
  | succ l ih =>
    intro x h
    obtain ⟨h2, hlt, hk⟩ := lvl_kids s h
    have hg := List.getElem?_eq_getElem hlt
    have hc := s.count x ns[x] h2 hg
    have e : aliveOf ns x = ns[x].alive := by unfold aliveOf; rw [hg]
    have e2 : kidsOf ns x = ns[x].k := by unfold kidsOf; rw [hg]
    have a := ih (hk 0).1
    have b := ih (hk 1).1
    have c := ih (hk 2).1
    have d := ih (hk 3).1
    rw [e, hc]
    show min (aliveOf ns (kid ns[x].k 0) + aliveOf ns (kid ns[x].k 1) + aliveOf ns (kid ns[x].k 2) + aliveOf ns (kid ns[x].k 3)) maxU = min (cntN ns l (kid (kidsOf ns x) 0) + cntN ns l (kid (kidsOf ns x) 1) + cntN ns l (kid (kidsOf ns x) 2) + cntN ns l (kid (kidsOf ns x) 3)) maxU
    rw [← e2, a, b, c, d]
    omega
theorem Ext.cnt (h : Ext ns ns') (s : StOk ns) : ∀ {l x : Nat}, lvlN ns x = l → cntN ns' l x = cntN ns l x := by
  intro l
  induction l with
  | zero => intro x _; rfl
  | succ l ih =>
    intro x hx
    obtain ⟨_, hlt, hk⟩ := lvl_kids s hx
    show cntN ns' l _ + cntN ns' l _ + cntN ns' l _ + cntN ns' l _ = cntN ns l _ + cntN ns l _ + cntN ns l _ + cntN ns l _
    rw [h.kids hlt, ih (hk 0).1, ih (hk 1).1, ih (hk 2).1, ih (hk 3).1]
theorem make_cnt (s : StOk ns) {k : K4} {l : Nat} (hk : ∀ i, lvlN ns (kid k i) = l) (h : (makeN ns most k).2.1 = 0) : cntN (makeN ns most k).2.2 (l + 1) (makeN ns most k).1 = cntN ns l (kid k 0) + cntN ns l (kid k 1) + cntN ns l (kid k 2) + cntN ns l (kid k 3) := by
  have m := made_of s h
  show cntN _ l _ + cntN _ l _ + cntN _ l _ + cntN _ l _ = _
  rw [m.kids, m.ext.cnt s (hk 0), m.ext.cnt s (hk 1), m.ext.cnt s (hk 2), m.ext.cnt s (hk 3)]
theorem sum_set (f : Nat → Nat) (k : K4) (q y : Nat) (hq : q < 4) : f (kid (setK k q y) 0) + f (kid (setK k q y) 1) + f (kid (setK k q y) 2) + f (kid (setK k q y) 3) + f (kid k q) = f (kid k 0) + f (kid k 1) + f (kid k 2) + f (kid k 3) + f y := by
  match q, hq with
  | 0, _ => simp only [setK, kid]; omega
  | 1, _ => simp only [setK, kid]; omega
  | 2, _ => simp only [setK, kid]; omega
  | 3, _ => simp only [setK, kid]; omega
theorem set_cnt (on : Bool) : ∀ {l x px py : Nat} {ns : List Nd}, StOk ns → lvlN ns x = l → px < 2 ^ l → py < 2 ^ l → (setN most on l x px py ns).2.1 = 0 →
    cntN (setN most on l x px py ns).2.2 l (setN most on l x px py ns).1 + (if cellN ns l x px py then 1 else 0) = cntN ns l x + (if on then 1 else 0) := by
  intro l
  induction l with
  | zero =>
    intro x px py ns s hx _ _ _
    rcases lvl0 s hx with rfl | rfl <;> cases on <;> rfl
  | succ l ih =>
    intro x px py ns s hx hpx hpy h0
    obtain ⟨hx2, hxl, hk⟩ := lvl_kids s hx
    obtain ⟨ex, ey, mx, my⟩ := quar_split l px py hpx hpy
    have hq := quar_lt l px py
    have d := set_done (most := most) on s (hk (quar l px py)).1 mx my
    have c := ih (x := kid (kidsOf ns x) (quar l px py)) s (hk _).1 mx my
    unfold setN at h0 ⊢
    generalize setN most on l (kid (kidsOf ns x) (quar l px py)) (px % 2 ^ l) (py % 2 ^ l) ns = r at *
    by_cases h : r.2.1 = 0
    · rw [if_pos h] at h0 ⊢
      obtain ⟨hlv, _⟩ := d.yes h
      have hk2 : ∀ i, lvlN r.2.2 (kid (setK (kidsOf ns x) (quar l px py) r.1) i) = l := kid_cases (fun y => lvlN r.2.2 y = l) _ (fun i hi => by
        rw [kid_set _ _ _ _ hq hi]
        split
        · exact hlv
        · rw [d.ext.lvl (by have := (hk i).2; omega)]
          exact (hk i).1)
      rw [make_cnt d.ok hk2 h0]
      have e := sum_set (cntN r.2.2 l) (kidsOf ns x) (quar l px py) r.1 hq
      have c' := c h
      have k0 := d.ext.cnt s (hk 0).1
      have k1 := d.ext.cnt s (hk 1).1
      have k2 := d.ext.cnt s (hk 2).1
      have k3 := d.ext.cnt s (hk 3).1
      have kq := d.ext.cnt s (hk (quar l px py)).1
      have hc : cellN ns (l + 1) x px py = cellN ns l (kid (kidsOf ns x) (quar l px py)) (px % 2 ^ l) (py % 2 ^ l) := rfl
      rw [hc]
      show _ = cntN ns l (kid (kidsOf ns x) 0) + cntN ns l (kid (kidsOf ns x) 1) + cntN ns l (kid (kidsOf ns x) 2) + cntN ns l (kid (kidsOf ns x) 3) + _
      omega
    · rw [if_neg h] at h0
      exact absurd h0 h
theorem steps_cnt : ∀ {n j x : Nat} {ns : List Nd}, StOk ns → lvlN ns x = j → cntN ns j x = 0 → j + n ≤ 62 → (stepsN most n x ns).2.1 = 0 → cntN (stepsN most n x ns).2.2 (j + n) (stepsN most n x ns).1 = 0 := by
  intro n
  induction n with
  | zero => intro j x ns s hx hc _ _; exact hc
  | succ n ih =>
    intro j x ns s hx hc hj h0
    have hk : ∀ i, lvlN ns (kid ⟨x, x, x, x⟩ i) = j := fun i => by rw [kid_four]; exact hx
    have d := make_done (most := most) (k := ⟨x, x, x, x⟩) s (show j < 62 by omega) hk
    have mc := make_cnt (most := most) s hk
    unfold stepsN at h0 ⊢
    generalize makeN ns most ⟨x, x, x, x⟩ = r at *
    by_cases h : r.2.1 = 0
    · rw [if_pos h] at h0 ⊢
      have := ih (j := j + 1) d.ok (d.yes h).1 (by rw [mc h, kid_four, kid_four, kid_four, kid_four, hc]) (by omega) h0
      rw [show j + (n + 1) = j + 1 + n by omega]
      exact this
    · rw [if_neg h] at h0
      exact absurd h0 h
theorem empty_cnt (s : StOk ns) {l : Nat} (hl : l ≤ 62) (h0 : (emptyN ns most l).2.1 = 0) : cntN (emptyN ns most l).2.2 l (emptyN ns most l).1 = 0 := by
  have e : emptyN ns most l = stepsN most l 0 ns := by unfold emptyN; rw [if_pos ⟨by omega, by omega⟩]; rfl
  rw [e] at h0 ⊢
  have hx : lvlN ns 0 = 0 := by unfold lvlN; rw [s.dead]; rfl
  have := steps_cnt (n := l) (j := 0) (x := 0) s hx rfl (by omega) h0
  rw [Nat.zero_add] at this
  exact this
theorem exGo_cnt {kk : K4} {o l : Nat} : ∀ (n i : Nat) (out : K4) (ns : List Nd), i + n = 4 → l < 61 → ExIn ns l kk o → cntN ns l o = 0 →
    (∀ j, j < i → lvlN ns (kid out j) = (l : Int) + 1 ∧ cntN ns (l + 1) (kid out j) = cntN ns l (kid kk j)) → (exGo most kk o n i out ns).2.1 = 0 →
    cntN (exGo most kk o n i out ns).2.2 (l + 2) (exGo most kk o n i out ns).1 = cntN ns l (kid kk 0) + cntN ns l (kid kk 1) + cntN ns l (kid kk 2) + cntN ns l (kid kk 3) := by
  intro n
  induction n with
  | zero =>
    intro i out ns hi hl h ho hout h0
    obtain rfl : i = 4 := by omega
    have hk : ∀ i, lvlN ns (kid out i) = (l + 1 : Nat) := kid_cases (fun y => lvlN ns y = (l + 1 : Nat)) out (fun i hi => by rw [(hout i hi).1]; omega)
    have := make_cnt (most := most) h.ok hk h0
    rw [(hout 0 (by omega)).2, (hout 1 (by omega)).2, (hout 2 (by omega)).2, (hout 3 (by omega)).2] at this
    exact this
  | succ n ih =>
    intro i out ns hi hl h ho hout h0
    have hf := h.four (show i < 4 by omega)
    have d := make_done (most := most) (k := setK ⟨o, o, o, o⟩ (3 - i) (kid kk i)) h.ok (show l < 62 by omega) hf
    have mc := make_cnt (most := most) h.ok hf
    unfold exGo at h0 ⊢
    have hs := sum_set (cntN ns l) ⟨o, o, o, o⟩ (3 - i) (kid kk i) (by omega)
    rw [kid_four, kid_four, kid_four, kid_four, kid_four, ho] at hs
    generalize makeN ns most (setK ⟨o, o, o, o⟩ (3 - i) (kid kk i)) = r at *
    by_cases hr : r.2.1 = 0
    · rw [if_pos hr] at h0 ⊢
      obtain ⟨hlv, _⟩ := d.yes hr
      have hkk := fun j => d.ext.cnt h.ok (h.kids j)
      have := ih (i + 1) (setK out i r.1) r.2.2 (by omega) hl (h.ext d.ext d.ok) (by rw [d.ext.cnt h.ok h.emp]; exact ho) (fun j hj => by
        rw [kid_set _ _ _ _ (show i < 4 by omega) (show j < 4 by omega)]
        split
        · rename_i e
          subst e
          exact ⟨by rw [hlv]; omega, by rw [mc hr, hkk]; omega⟩
        · obtain ⟨a, b⟩ := hout j (by omega)
          have e := d.ext.lvl (lvlN_lt (show 0 ≤ lvlN ns (kid out j) by rw [a]; omega))
          exact ⟨e.trans a, by rw [d.ext.cnt h.ok (show lvlN ns (kid out j) = (l + 1 : Nat) by rw [a]; omega), b, hkk]⟩) h0
      rw [hkk, hkk, hkk, hkk] at this
      exact this
    · rw [if_neg hr] at h0
      exact absurd h0 hr
/-- The living cells of a plane, counted. -/
def cntX (ns : List Nd) (x : Nat) : Nat := cntN ns (lvlN ns x).toNat x
theorem cntX_at {l : Nat} (h : lvlN ns x = (l : Int)) : cntX ns x = cntN ns l x := by unfold cntX; rw [h]; rfl
theorem alive_cntX (s : StOk ns) (h : 0 ≤ lvlN ns x) : aliveOf ns x = min (cntX ns x) maxU := alive_cnt s (by omega)
theorem expand_cnt (s : StOk ns) (h1 : 1 ≤ lvlN ns x) (h2 : lvlN ns x < 62) (h0 : (expandN ns most x).2.1 = 0) : cntX (expandN ns most x).2.2 (expandN ns most x).1 = cntX ns x := by
  obtain ⟨_, _, _, ok, _⟩ := expand_planeX (most := most) s h1 h2
  obtain ⟨hlv, _⟩ := ok h0
  have hl : lvlN ns x = (((lvlN ns x).toNat - 1 : Nat) : Int) + 1 := by omega
  have hk := lvl_kids s hl
  rw [cntX_at (l := (lvlN ns x).toNat - 1 + 2) (by rw [hlv]; omega), cntX_at (ns := ns) (x := x) (l := (lvlN ns x).toNat - 1 + 1) (by omega)]
  generalize (lvlN ns x).toNat - 1 = l at *
  have e := empty_done (most := most) s (show l ≤ 62 by omega)
  have ec := empty_cnt (most := most) s (show l ≤ 62 by omega)
  unfold expandN at h0 ⊢
  rw [if_pos ⟨h1, h2⟩, hl, show ((l : Int) + 1 - 1) = l by omega] at h0 ⊢
  generalize emptyN ns most l = r at *
  by_cases hr : r.2.1 = 0
  · rw [if_pos hr] at h0 ⊢
    obtain ⟨hlr, hc⟩ := e.yes hr
    have hin : ExIn r.2.2 l (kidsOf ns x) r.1 := ⟨e.ok, fun i => by rw [e.ext.lvl (by have := (hk.2.2 i).2; omega)]; exact (hk.2.2 i).1, hlr, hc⟩
    rw [exGo_cnt 4 0 ⟨0, 0, 0, 0⟩ r.2.2 rfl (by omega) hin (ec hr) (fun j hj => by omega) h0]
    show _ = cntN ns l (kid (kidsOf ns x) 0) + cntN ns l (kid (kidsOf ns x) 1) + cntN ns l (kid (kidsOf ns x) 2) + cntN ns l (kid (kidsOf ns x) 3)
    rw [e.ext.cnt s (hk.2.2 0).1, e.ext.cnt s (hk.2.2 1).1, e.ext.cnt s (hk.2.2 2).1, e.ext.cnt s (hk.2.2 3).1]
  · rw [if_neg hr] at h0
    exact absurd h0 hr
theorem reach_cnt : ∀ {n x : Nat} {ns : List Nd} {most : Nat} {X Y : Int}, StOk ns → 3 ≤ lvlN ns x → (insB X && insB Y) = true → 62 < lvlN ns x + n → (reachGo most X Y n x ns).2.1 = 0 →
    cntX (reachGo most X Y n x ns).2.2 (reachGo most X Y n x ns).1 = cntX ns x := by
  intro n
  induction n with
  | zero => intro x ns most X Y s h3 hp hn h0; have := lvl_le s x; omega
  | succ n ih =>
    intro x ns most X Y s h3 hp hn h0
    unfold reachGo at h0 ⊢
    cases hb : hasN ns x X Y with
    | true => simp only [if_true]
    | false =>
      have hlv : lvlN ns x < 62 := by
        apply Int.not_le.1
        intro h62
        have := lvl_le s x
        rw [has_top (by omega) hp] at hb
        cases hb
      rw [hb] at h0
      obtain ⟨e, s', len, ok, no⟩ := expand_planeX (most := most) s (show 1 ≤ lvlN ns x by omega) hlv
      have ec := expand_cnt (most := most) s (show 1 ≤ lvlN ns x by omega) hlv
      generalize expandN ns most x = r at *
      simp only [Bool.false_eq_true, if_false] at h0 ⊢
      by_cases hr : r.2.1 = 0
      · rw [if_pos hr] at h0 ⊢
        have hl := (ok hr).1
        rw [ih (x := r.1) s' (by rw [hl]; omega) hp (by rw [hl]; omega) h0, ec hr]
      · rw [if_neg hr] at h0
        exact absurd h0 hr
theorem setPl_cnt {X Y : Int} (on : Bool) (s : StOk ns) (h3 : 3 ≤ lvlN ns x) (hp : (insB X && insB Y) = true) (h0 : (setPl ns most x X Y on).2.1 = 0) :
    cntX (setPl ns most x X Y on).2.2 (setPl ns most x X Y on).1 + (if planeX ns x X Y then 1 else 0) = cntX ns x + (if on then 1 else 0) := by
  obtain ⟨e, s', ok, no⟩ := reach_done (most := most) (n := 64) (x := x) (X := X) (Y := Y) s h3 hp (by omega)
  have rc := reach_cnt (most := most) (n := 64) (x := x) (X := X) (Y := Y) s h3 hp (by omega)
  have rp := reach_plane (n := 64) (x := x) (most := most) (X := X) (Y := Y) (L1 := 62) s h3 (by have := has_top (ns := ns) (x := x) (X := X) (Y := Y); unfold hasL; unfold insB at hp; simp only [Bool.and_eq_true, decide_eq_true_eq] at hp ⊢; have e : halfN 62 = 2305843009213693952 := rfl; rw [e]; omega) (lvl_le s x) (by omega) (by omega)
  unfold setPl at h0 ⊢
  generalize reachGo most X Y 64 x ns = r at *
  by_cases hr : r.2.1 = 0
  · rw [if_pos hr] at h0 ⊢
    obtain ⟨r3, rh⟩ := ok hr
    have p4 := (rp.2 hr).2.2.2
    have r62 := lvl_le s' r.1
    have hl : lvlN r.2.2 r.1 = (((lvlN r.2.2 r.1).toNat - 1 : Nat) : Int) + 1 := by omega
    have hlt := has_lt hl rh
    have e1 : (lvlN r.2.2 r.1).toNat - 1 + 1 = (lvlN r.2.2 r.1).toNat := by omega
    rw [e1] at hlt
    have hlv : lvlN r.2.2 r.1 = ((lvlN r.2.2 r.1).toNat : Nat) := by omega
    have d := set_done (most := most) on s' hlv hlt.1 hlt.2
    have c := set_cnt (most := most) on s' hlv hlt.1 hlt.2 h0
    have ql := (d.yes h0).1
    rw [cntX_at (l := (lvlN r.2.2 r.1).toNat) ql]
    have ep : planeX ns x X Y = cellN r.2.2 (lvlN r.2.2 r.1).toNat r.1 (X + halfN (lvlN r.2.2 r.1)).toNat (Y + halfN (lvlN r.2.2 r.1)).toNat := by
      rw [← p4]
      unfold planeX planeN
      rw [rh, Bool.true_and]
    rw [ep, c, ← rc hr]
    rfl
  · rw [if_neg hr] at h0
    exact absurd h0 hr
end
end Go.Proofs.Ytjiliiclebdbfaa

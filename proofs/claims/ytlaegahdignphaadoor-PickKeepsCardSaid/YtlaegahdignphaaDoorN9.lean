/- Counts behind a step that was picked, plainly. -/
import Derived.Test.YtlaegahdignphaaDoorN7
import Derived.Test.YtlaegahdignphaaDoorN2
namespace Go.Proofs.YtlaegahdignphaaDoor.N9
open Go.RowKit Go.Shelf Go.Proofs.YtlaegahdignphaaDoorW.PrintWords Go.Proofs.YtlaegahdignphaaDoorW.PrintLast Go.Proofs.YtlaegahdignphaaDoorW.PrintMore Q1 Q2 L1 L3 S1 M1 M2 M3 M4 M5 M6 M7 M8 M9 N1 N2 N3 N7 SL SG
set_option linter.unusedVariables false
set_option linter.unusedSimpArgs false

theorem withN_val (n l h : Int) : withN n l h = 0 ∨ withN n l h = 1 ∨ withN n l h = -1 := by
  unfold withN
  split
  · simp
  · split <;> simp
theorem many_le : ∀ h : Nat, h < 10 → 2 ≤ h → ∀ k : Nat, k < h + 1 → manyN (k : Int) (h : Int) ≤ 7 * (h : Int) * ((2 ^ k : Nat) : Int) ∧ (2 < h → (h : Int) * ((2 ^ k : Nat) : Int) ≤ fewN (k : Int) (h : Int)) := by decide +kernel
theorem win_bounds {l : List Int} (hcp : Caps l) {f k : Nat} (hk : k ≤ hN l) (h : withN (sumW l f (pw k)) (k : Int) (hN l : Int) = 0) : sumW l f (pw k) ≤ 7 * (pw k : Nat) ∧ (2 < hN l → ((pw k : Nat) : Int) ≤ sumW l f (pw k)) := by
  obtain ⟨h1, h2⟩ := withN_bounds h
  obtain ⟨h3, h4⟩ := many_le (hN l) (by have := hcp.h9; omega) hcp.h2 k (by omega)
  have h9 := hcp.h9
  have h22 := hcp.h2
  change _ ≤ 7 * (hN l : Int) * ((pw k : Nat) : Int) at h3
  generalize sumW l f (pw k) = x at *
  unfold pw at *
  generalize 2 ^ k = P at *
  generalize manyN (k : Int) (hN l : Int) = M at *
  generalize fewN (k : Int) (hN l : Int) = F at *
  rcases (show hN l = 2 ∨ hN l = 3 ∨ hN l = 4 ∨ hN l = 5 ∨ hN l = 6 ∨ hN l = 7 ∨ hN l = 8 ∨ hN l = 9 by omega) with e | e | e | e | e | e | e | e <;> rw [e] at h1 h2 h3 h4 <;> (constructor <;> (try intro hh) <;> (try have h5 := h4 (by omega)) <;> omega)
theorem root_grow {l : List Int} (hcp : Caps l) (h : withN l.sum (hN l) (hN l) = 1) : 5 * (l.length : Int) < l.sum := by
  have hm : ∀ h : Nat, h < 10 → 2 ≤ h → manyN (h : Int) (h : Int) = 5 * (h : Int) * ((2 ^ h : Nat) : Int) := by decide +kernel
  have e := hm (hN l) (by have := hcp.h9; omega) hcp.h2
  unfold withN at h
  rw [e] at h
  have hl := hcp.len
  have h9 := hcp.h9
  have h22 := hcp.h2
  rw [← hl] at h
  have hb : (hN l : Int) * l.sum > 5 * (hN l : Int) * (l.length : Int) := by
    by_cases hc : (hN l : Int) * l.sum > 5 * (hN l : Int) * (l.length : Int)
    · exact hc
    · rw [if_neg hc] at h
      split at h <;> omega
  generalize l.sum = x at *
  generalize l.length = n at *
  clear h e hl hm
  rcases (show hN l = 2 ∨ hN l = 3 ∨ hN l = 4 ∨ hN l = 5 ∨ hN l = 6 ∨ hN l = 7 ∨ hN l = 8 ∨ hN l = 9 by omega) with e | e | e | e | e | e | e | e <;> rw [e] at hb <;> omega
theorem root_shrink {l : List Int} (hcp : Caps l) (h0 : 0 ≤ l.sum) (h : withN l.sum (hN l) (hN l) < 0) : 2 < hN l ∧ l.sum < 2 * (l.length : Int) := by
  have hm : ∀ h : Nat, h < 10 → 2 ≤ h → fewN (h : Int) (h : Int) = if h = 2 then 0 else 2 * (h : Int) * ((2 ^ h : Nat) : Int) := by decide +kernel
  have e := hm (hN l) (by have := hcp.h9; omega) hcp.h2
  have hl := hcp.len
  have h9 := hcp.h9
  have h22 := hcp.h2
  have hb : (hN l : Int) * l.sum < fewN (hN l) (hN l) := by
    unfold withN at h
    split at h
    · omega
    · split at h
      · assumption
      · omega
  rw [e] at hb
  by_cases h2 : hN l = 2
  · rw [if_pos h2, h2] at hb
    omega
  · rw [if_neg h2, ← hl] at hb
    generalize l.sum = x at *
    generalize l.length = n at *
    clear h e hl hm
    rcases (show hN l = 3 ∨ hN l = 4 ∨ hN l = 5 ∨ hN l = 6 ∨ hN l = 7 ∨ hN l = 8 ∨ hN l = 9 by omega) with e | e | e | e | e | e | e <;> rw [e] at hb <;> omega
/-- The counts behind the step that is picked. -/
def nxt (l : List Int) (s : Nat) : List Int := match lvl l s with
  | some k => spr l (wF s k) (pw k)
  | none => if withN l.sum (hN l) (hN l) < 0 then shrL l.sum.toNat (l.length / 2) else shrL l.sum.toNat (2 * l.length)
structure Nx (l m : List Int) (s : Nat) (p : Int × Int × Int × Int × Int) (f g : Nat) : Prop where
  e2 : p.2.1 = f
  e3 : p.2.2.1 = g
  e4 : p.2.2.2.1 = 8 * (m.length : Int)
  h1 : 1 ≤ g
  hin : f + g ≤ m.length
  hl : m.length ≤ 512
  cap : capB (8 * (m.length : Int)) = true
  sum : m.sum = l.sum
  good : goodL m
  even : ∃ q : Nat, q ≤ 8 ∧ ∀ j, f ≤ j → j < f + g → (q : Int) ≤ m.getD j 0 ∧ m.getD j 0 ≤ q + 1
  hi : ∀ j, f ≤ j → j < f + g → m.getD j 0 ≤ 7
  lo : 4 < m.length → (∀ i, i < l.length → i ≠ s → 1 ≤ l.getD i 0) → ∀ j, f ≤ j → j < f + g → 1 ≤ m.getD j 0
  kind : (p.1 = 1 ∧ m.length = l.length ∧ f ≤ s ∧ s < f + g ∧ m.take f = l.take f ∧ m.drop (f + g) = l.drop (f + g)) ∨ (p.1 = 2 ∧ f = 0 ∧ g = m.length ∧ m.length = 2 * l.length) ∨ (p.1 = 3 ∧ f = 0 ∧ g = m.length ∧ 2 * m.length = l.length)
  lo2 : p.1 = 2 → ∀ j, f ≤ j → j < f + g → 1 ≤ m.getD j 0
theorem good_shrL {n s : Nat} (h0 : 0 < s) (h : n ≤ 8 * s) : goodL (shrL n s) := good_iff.2 fun x hx => by
  obtain ⟨k, _, rfl⟩ := List.mem_map.1 hx
  have := shr_hi h0 h k
  omega
theorem sum_parts (l : List Int) (f g : Nat) : (l.take f).sum + sumW l f g + (l.drop (f + g)).sum = l.sum := by
  have h1 : l.sum = (l.take (f + g)).sum + (l.drop (f + g)).sum := by rw [← List.sum_append, List.take_append_drop]
  rw [h1, List.take_add, List.sum_append]
  rfl
theorem spr_take {l : List Int} {f g : Nat} (h : f + g ≤ l.length) : (spr l f g).take f = l.take f := by
  unfold spr
  have e : (l.take f).length = f := by rw [List.length_take]; omega
  rw [List.append_assoc, List.take_append_of_le_length (by omega), List.take_of_length_le (by omega)]
theorem spr_drop {l : List Int} {f g : Nat} (h : f + g ≤ l.length) : (spr l f g).drop (f + g) = l.drop (f + g) := by
  unfold spr
  have e : (l.take f ++ shrL (sumW l f g).toNat g).length = f + g := by rw [List.length_append, List.length_take, shrL_len]; omega
  rw [List.drop_append_of_le_length (by omega), List.drop_of_length_le (by omega), List.nil_append]
theorem spr_get {l : List Int} {f g j : Nat} (h : f + g ≤ l.length) (h1 : f ≤ j) (h2 : j < f + g) : (spr l f g).getD j 0 = shr (sumW l f g).toNat g (j - f) := by
  unfold spr
  have e : (l.take f).length = f := by rw [List.length_take]; omega
  rw [List.getD_eq_getElem?_getD, List.append_assoc, List.getElem?_append_right (by omega), e, List.getElem?_append_left (by rw [shrL_len]; omega), ← List.getD_eq_getElem?_getD, shrL_get (by omega)]
theorem cap_pow : ∀ h : Nat, h < 10 → 2 ≤ h → capB (8 * ((2 ^ h : Nat) : Int)) = true := by decide +kernel
theorem sum_lo : ∀ (l : List Int) (s : Nat), (∀ x ∈ l, 0 ≤ x) → (∀ i, i < l.length → i ≠ s → 1 ≤ l.getD i 0) → (l.length : Int) - 1 ≤ l.sum
  | [], s, _, _ => by simp
  | x :: l, 0, h0, h => by
    have ih : ∀ (m : List Int), (∀ i, i < m.length → 1 ≤ m.getD i 0) → (m.length : Int) ≤ m.sum := by
      intro m
      induction m with
      | nil => intro _; simp
      | cons y m ih =>
        intro hm
        have h1 := hm 0 (by simp)
        have h2 := ih fun i hi => by have := hm (i + 1) (by simpa using hi); simpa using this
        simp only [List.sum_cons, List.length_cons, List.getD_cons_zero] at *
        omega
    have h2 := ih l fun i hi => by have := h (i + 1) (by simpa using hi) (by omega); simpa using this
    have h3 := h0 x List.mem_cons_self
    simp only [List.sum_cons, List.length_cons]
    omega
  | x :: l, s + 1, h0, h => by
    have h1 := h 0 (by simp) (by omega)
    have h2 := sum_lo l s (fun y hy => h0 y (List.mem_cons_of_mem _ hy)) fun i hi hs => by
      have := h (i + 1) (by simpa using hi) (by omega)
      simpa using this
    simp only [List.sum_cons, List.length_cons, List.getD_cons_zero] at *
    omega
theorem nxt_win {l : List Int} {s k : Nat} (hg : goodL l) (hcp : Caps l) (hc : capB (8 * (l.length : Int)) = true) (hs : s < l.length) (hk : lvl l s = some k) : Nx l (spr l (wF s k) (pw k)) s (pickN l s) (wF s k) (pw k) := by
  have hl := hcp.le
  obtain ⟨hkh, hok, _⟩ := lvl_is hk
  have hin := wF_in hcp hs hkh
  have hlen := spr_len hin
  have hp1 : 1 ≤ pw k := Nat.one_le_two_pow
  have hw := wF_has s k
  obtain ⟨hb1, hb2⟩ := win_bounds hcp hkh (by unfold okW at hok; exact beq_iff_eq.1 hok)
  have hsm := (sumW_bound hg (by omega) (wF s k) (pw k)).1
  have hpk := pick_win hk
  have hlo2 : 4 < l.length → 2 < hN l := fun h4 => by
    rcases Nat.lt_or_ge 2 (hN l) with h | h
    · exact h
    · have : hN l = 2 := by have := hcp.h2; omega
      have := hcp.len
      rw [show hN l = 2 by omega] at this
      omega
  have hget := fun j => spr_get (l := l) (f := wF s k) (g := pw k) (j := j) hin
  have hsum : (spr l (wF s k) (pw k)).sum = l.sum := by
    have := sum_parts l (wF s k) (pw k)
    unfold spr
    rw [List.sum_append, List.sum_append, shrL_sum (by omega)]
    omega
  have htk := spr_take hin
  have hdr := spr_drop hin
  have hlast : spr l (wF s k) (pw k) = l.take (wF s k) ++ shrL (sumW l (wF s k) (pw k)).toNat (pw k) ++ l.drop (wF s k + pw k) := rfl
  generalize wF s k = f at *
  generalize pw k = p at *
  have hm7 : ∀ j, f ≤ j → j < f + p → (spr l f p).getD j 0 ≤ 7 := fun j h1 h2 => by
    rw [hget j h1 h2]
    have := shr_hi (n := (sumW l f p).toNat) (s := p) (q := 7) (by omega) (by omega) (j - f)
    omega
  refine ⟨by rw [hpk], by rw [hpk], by rw [hpk, hlen], hp1, by rw [hlen]; exact hin, by rw [hlen]; exact hl, by rw [hlen]; exact hc, hsum, ?_, ?_, hm7, ?_, .inl ⟨by rw [hpk], hlen, hw.1, hw.2, htk, hdr⟩, fun h => by rw [hpk] at h; exact absurd (show (1 : Int) = 2 from h) (by decide)⟩
  · rw [hlast]
    refine good_iff.2 fun x hx => ?_
    rcases List.mem_append.1 hx with hx | hx
    · rcases List.mem_append.1 hx with hx | hx
      · exact good_iff.1 hg x (List.mem_of_mem_take hx)
      · exact good_iff.1 (good_shrL (n := (sumW l f p).toNat) (s := p) (by omega) (by omega)) x hx
    · exact good_iff.1 hg x (List.mem_of_mem_drop hx)
  · have hq : (sumW l f p).toNat / p ≤ 7 := by
      have : (sumW l f p).toNat / p ≤ (7 * p) / p := Nat.div_le_div_right (by omega)
      rwa [Nat.mul_div_cancel _ (by omega)] at this
    refine ⟨(sumW l f p).toNat / p, by omega, fun j h1 h2 => ?_⟩
    rw [hget j h1 h2]
    have := shr_even (n := (sumW l f p).toNat) (s := p) (by omega) (j - f)
    omega
  · intro h4 _ j h1 h2
    rw [hlen] at h4
    rw [hget j h1 h2]
    have h5 := hb2 (hlo2 h4)
    have := shr_lo (n := (sumW l f p).toNat) (s := p) (q := 1) (by omega) (by omega) (j - f)
    omega
theorem nx_spread {l : List Int} {s n g : Nat} {p : Int × Int × Int × Int × Int} (hg : 1 ≤ g) (hl : g ≤ 512) (hc : capB (8 * (g : Int)) = true) (hn : l.sum = n) (h7 : n ≤ 7 * g) (e2 : p.2.1 = 0) (e3 : p.2.2.1 = g) (e4 : p.2.2.2.1 = 8 * (g : Int))
    (hlo : 4 < g → (∀ i, i < l.length → i ≠ s → 1 ≤ l.getD i 0) → g ≤ n) (hlo2 : p.1 = 2 → g ≤ n) (hk : (p.1 = 2 ∧ g = 2 * l.length) ∨ (p.1 = 3 ∧ 2 * g = l.length)) : Nx l (shrL n g) s p 0 g := by
  have hlen := shrL_len n g
  have hget : ∀ j, j < 0 + g → (shrL n g).getD j 0 = shr n g j := fun j hj => shrL_get (by omega)
  refine ⟨by rw [e2]; rfl, e3, by rw [e4, hlen], hg, by rw [hlen]; omega, by rw [hlen]; exact hl, by rw [hlen]; exact hc, by rw [shrL_sum (by omega), hn], good_shrL (by omega) (by omega), ?_, ?_, ?_, ?_, ?_⟩
  · have hq : n / g ≤ 7 := by
      have : n / g ≤ (7 * g) / g := Nat.div_le_div_right (by omega)
      rwa [Nat.mul_div_cancel _ (by omega)] at this
    refine ⟨n / g, by omega, fun j h1 h2 => ?_⟩
    rw [hget j h2]
    have := shr_even (n := n) (s := g) (by omega) j
    omega
  · intro j h1 h2
    rw [hget j h2]
    have := shr_hi (n := n) (s := g) (q := 7) (by omega) (by omega) j
    omega
  · intro h4 hs j h1 h2
    rw [hlen] at h4
    rw [hget j h2]
    have h5 := hlo h4 hs
    have := shr_lo (n := n) (s := g) (q := 1) (by omega) (by omega) j
    omega
  · rcases hk with ⟨h1, h2⟩ | ⟨h1, h2⟩
    · exact .inr (.inl ⟨h1, rfl, hlen.symm, by rw [hlen]; exact h2⟩)
    · exact .inr (.inr ⟨h1, rfl, hlen.symm, by rw [hlen]; exact h2⟩)
  · intro h1 j h3 h2
    rw [hget j h2]
    have h5 := hlo2 h1
    have := shr_lo (n := n) (s := g) (q := 1) (by omega) (by omega) j
    omega
theorem winOk_of {l : List Int} (hcp : Caps l) {s k : Nat} (hs : s < l.length) (hk : k ≤ hN l) : winOkB l.length (wF s k : Nat) (pw k : Nat) = true := by
  classical
  unfold winOkB
  refine decide_eq_true ⟨wF s k, pw k, rfl, rfl, ?_, wF_in hcp hs hk, ?_⟩
  · have : ∀ k, k < 10 → pw k ∈ ([1, 2, 4, 8, 16, 32, 64, 128, 256, 512] : List Nat) := by decide
    exact this k (by have := hcp.h9; omega)
  · rw [wF_eq]
    exact Nat.mul_mod_right _ _
/-- After, of the step that is picked. -/
theorem after_next {w : World} {A : Option Addr} {c : Nat} {l : List Int} (hr : Kd.C (Kd.int .i64) w A l.length l) (hlc : l.length ≤ c) {s : Nat} (hz : wrg l s = 0) (h5 : (pickN l s).2.2.2.2 = 0) :
    ∃ m f g, Nx l m s (pickN l s) f g ∧ Calls Tryd.prog 40 #[.slice A l.length c, .agg #[.int .i64 (pickN l s).1, .int .i64 (pickN l s).2.1, .int .i64 (pickN l s).2.2.1, .int .i64 (pickN l s).2.2.2.1]] w fun e w' => ∃ A' c', e = .returned (.tuple #[.slice A' m.length c', .int .i64 0]) ∧ Sep w w' [S1.Own (.slice A' m.length c') m] := by
  obtain ⟨h0, hc, hg, hcp, t, ht, hs⟩ := wrg_zero hz
  obtain rfl : s = t := by omega
  have hl := hcp.le
  have h9 := hcp.h9
  have h22 := hcp.h2
  have hsum0 := good_sum hg
  cases hk : lvl l s with
  | some k =>
    have hN := nxt_win hg hcp hc hs hk
    have hin := wF_in hcp hs (lvl_is hk).1
    refine ⟨_, _, _, hN, ?_⟩
    rw [pick_win hk, spr_len hin]
    exact after_win hr hlc h0 hg hl (winOk_of hcp hs (lvl_is hk).1) Nat.one_le_two_pow hin
  | none =>
    have hx := okW_root hcp hs (lvl_not hk _ (Nat.le_refl _))
    by_cases h1 : withN l.sum (hN l) (hN l) < 0
    · have hp : pickN l s = ((3 : Int), (0 : Int), ((l.length / 2 : Nat) : Int), 4 * (l.length : Int), (0 : Int)) := by unfold pickN; rw [hk]; dsimp only; rw [if_pos h1]
      obtain ⟨hh, hlt⟩ := root_shrink hcp hsum0.1 h1
      have he : l.length = 2 * 2 ^ (hN l - 1) := by rw [hcp.len, ← Nat.pow_succ']; congr 1; omega
      have hc2 := cap_pow (hN l - 1) (by omega) (by omega)
      have h4 : 2 ^ 2 ≤ 2 ^ (hN l - 1) := Nat.pow_le_pow_right (by omega) (by omega)
      have hd : l.length / 2 = 2 ^ (hN l - 1) := by omega
      rw [hp]
      rw [hd]
      generalize 2 ^ (hN l - 1) = m at *
      have hcm : capB (4 * (l.length : Int)) = true := by
        rw [show 4 * (l.length : Int) = 8 * (m : Int) by omega]; exact hc2
      refine ⟨shrL l.sum.toNat m, 0, m, nx_spread (by omega) (by omega) hc2 (by omega) (by omega) rfl rfl (by show 4 * (l.length : Int) = _; omega) (fun _ hh => ?_) (fun h => absurd (show (3 : Int) = 2 from h) (by decide)) (.inr ⟨rfl, he.symm⟩), ?_⟩
      · have := sum_lo l s (fun x hx => (good_iff.1 hg x hx).1) hh
        omega
      · rw [shrL_len]
        exact after_shrink hr hlc h0 hg hl he (by omega) hcm (by omega)
    · by_cases h2 : l.length = 512
      · exfalso
        unfold pickN at h5
        rw [hk] at h5
        dsimp only at h5
        rw [if_neg h1, if_pos h2] at h5
        exact absurd h5 (by decide)
      · have hp : pickN l s = ((2 : Int), (0 : Int), 2 * (l.length : Int), 16 * (l.length : Int), (0 : Int)) := by unfold pickN; rw [hk]; dsimp only; rw [if_neg h1, if_neg h2]
        have hgr := root_grow hcp (by rcases withN_val l.sum (hN l) (hN l) with h | h | h <;> omega)
        have hh9 : hN l < 9 := by
          rcases Nat.lt_or_ge (hN l) 9 with h | h
          · exact h
          · exact absurd ((h9_iff hcp).1 (by omega)) h2
        have h256 : l.length ≤ 256 := by rw [hcp.len]; exact Nat.pow_le_pow_right (i := hN l) (j := 8) (by omega) (by omega)
        have hc2 := cap_pow (hN l + 1) (by omega) (by omega)
        have he : 2 ^ (hN l + 1) = 2 * l.length := by rw [hcp.len, Nat.pow_succ']
        rw [he] at hc2
        have hpos : 4 ≤ l.length := by rw [hcp.len]; exact Nat.pow_le_pow_right (n := 2) (i := 2) (by omega) hcp.h2
        have hcm : capB (16 * (l.length : Int)) = true := by
          rw [show 16 * (l.length : Int) = 8 * ((2 * l.length : Nat) : Int) by omega]; exact hc2
        rw [hp]
        refine ⟨shrL l.sum.toNat (2 * l.length), 0, 2 * l.length, nx_spread (by omega) (by omega) hc2 (by omega) (by omega) rfl (by show 2 * (l.length : Int) = _; omega) (by show 16 * (l.length : Int) = _; omega) (fun _ _ => by omega) (fun _ => by omega) (.inl ⟨rfl, rfl⟩), ?_⟩
        rw [shrL_len]
        exact after_grow hr hlc h0 hg h256 (by omega) hcm
end Go.Proofs.YtlaegahdignphaaDoor.N9

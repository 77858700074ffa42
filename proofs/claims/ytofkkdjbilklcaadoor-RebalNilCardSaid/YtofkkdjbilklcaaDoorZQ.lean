/- Items stand behind moves that pass no element; what a slot is that becomes free. Plain, but for At. -/
import Derived.Test.YtofkkdjbilklcaaDoorZB
import Derived.Test.YtofkkdjbilklcaaDoorCL
namespace Go.Proofs.YtofkkdjbilklcaaDoor.ZQ
open Go.RowKit Go.Shelf Go.Proofs.YtofkkdjbilklcaaDoorW.PrintWords Go.Proofs.YtofkkdjbilklcaaDoorW.PrintLast Go.Proofs.YtofkkdjbilklcaaDoorW.PrintMore G1 G0 Q1 G2 G3 G4 G5 G6 G7 G8 G9 G10 S1 Y1 Y3 Y2 Z0 Z1 Z2 Z3 Z4 ZR ZM ZP CL
set_option linter.unusedVariables false
set_option linter.unusedSimpArgs false
/-- The items of some slots on end. -/
def seg (f : Nat → Bool) (xs : List Int) : Nat → Nat → List Int
  | _, 0 => []
  | a, d + 1 => (if f a then [xs.getD a 0] else []) ++ seg f xs (a + 1) d
theorem seg_add (f : Nat → Bool) (xs : List Int) : ∀ d a e, seg f xs a (d + e) = seg f xs a d ++ seg f xs (a + d) e := by
  intro d
  induction d with
  | zero => intro a e; rw [Nat.zero_add, Nat.add_zero]; rfl
  | succ d ih =>
    intro a e
    rw [show d + 1 + e = (d + e) + 1 by omega]
    simp only [seg]
    rw [ih (a + 1) e, List.append_assoc, show a + 1 + d = a + (d + 1) by omega]
theorem seg_one (f : Nat → Bool) (xs : List Int) (a : Nat) : seg f xs a 1 = if f a then [xs.getD a 0] else [] := by
  simp only [seg, List.append_nil]
theorem seg_congr {f g : Nat → Bool} {xs ys : List Int} : ∀ d a, (∀ q, a ≤ q → q < a + d → f q = g q ∧ xs.getD q 0 = ys.getD q 0) → seg f xs a d = seg g ys a d := by
  intro d
  induction d with
  | zero => intro a h; rfl
  | succ d ih =>
    intro a h
    simp only [seg]
    rw [ih (a + 1) (fun q h1 h2 => h q (by omega) (by omega)), (h a (by omega) (by omega)).1, (h a (by omega) (by omega)).2]
theorem seg_none {f : Nat → Bool} {xs : List Int} : ∀ d a, (∀ q, a ≤ q → q < a + d → f q = false) → seg f xs a d = [] := by
  intro d
  induction d with
  | zero => intro a h; rfl
  | succ d ih =>
    intro a h
    simp only [seg]
    rw [ih (a + 1) (fun q h1 h2 => h q (by omega) (by omega)), h a (by omega) (by omega)]
    rfl
theorem vals_seg (f : Nat → Bool) (xs : List Int) : ∀ n, vals (ons f xs n) = seg f xs 0 n := by
  intro n
  induction n with
  | zero => rfl
  | succ n ih =>
    rw [seg_add f xs n 0 1, ← ih, seg_one, Nat.zero_add, ons_succ]
    unfold vals
    rw [List.map_append]
    split <;> rfl

/-- A move that passes no element keeps the items. -/
theorem valid_items {n : Nat} {g : Gap} {x : Int} {k m : Nat} (h : Valid n g x k m) (hl : n ≤ g.xs.length) : vals (ons (moveS n g (k : Int) (m : Int)).on (moveS n g (k : Int) (m : Int)).xs n) = vals (ons g.on g.xs n) := by
  have hk := h.hi
  have hm := h.hj
  have hne := h.ne
  rw [vals_seg, vals_seg]
  have u1 : ∀ q, q ≠ k → q ≠ m → (moveS n g (k : Int) (m : Int)).on q = g.on q ∧ (moveS n g (k : Int) (m : Int)).xs.getD q 0 = g.xs.getD q 0 := by
    intro q h1 h2
    rw [h.on_at, h.xs_at hl, if_neg h2, if_neg h1, if_neg h2, if_neg h1]
    exact ⟨rfl, rfl⟩
  have u2 : (moveS n g (k : Int) (m : Int)).on k = false := by rw [h.on_at, if_neg hne, if_pos rfl]
  have u3 : (moveS n g (k : Int) (m : Int)).on m = true := by rw [h.on_at, if_pos rfl]
  have u4 : (moveS n g (k : Int) (m : Int)).xs.getD m 0 = g.xs.getD k 0 := by rw [h.xs_at hl, if_pos rfl, h.val]
  have hf := h.on
  have hf2 := h.off
  have hfl : ∀ q, min k m + 1 ≤ q → q < min k m + 1 + (max k m - (min k m + 1)) → g.on q = false := fun q h1 h2 => h.clear q (by omega)
  generalize moveS n g (k : Int) (m : Int) = g2 at *
  have hn : n = min k m + (1 + ((max k m - (min k m + 1)) + (1 + (n - (max k m + 1))))) := by omega
  rw [hn, seg_add, seg_add, seg_add, seg_add]
  rw [seg_add g.on, seg_add g.on, seg_add g.on, seg_add g.on, seg_one, seg_one, seg_one, seg_one]
  simp only [Nat.zero_add]
  rw [show min k m + 1 + (max k m - (min k m + 1)) = max k m by omega]
  rw [seg_congr (min k m) 0 (fun q h1 h2 => u1 q (by omega) (by omega)), seg_congr (n - (max k m + 1)) (max k m + 1) (fun q h1 h2 => u1 q (by omega) (by omega))]
  rw [seg_none (f := g.on) _ (min k m + 1) (fun q h1 h2 => hfl q h1 h2), seg_none (max k m - (min k m + 1)) (min k m + 1) (fun q h1 h2 => by rw [(u1 q (by omega) (by omega)).1]; exact hfl q h1 h2)]
  by_cases hlt : k < m
  · rw [show min k m = k by omega, show max k m = m by omega, u2, u3, u4, hf, hf2]
    simp
  · rw [show min k m = m by omega, show max k m = k by omega, u2, u3, u4, hf, hf2]
    simp
theorem pack_items {n b : Nat} {g : Gap} (hl : n ≤ g.xs.length) : ∀ j, b + j ≤ n → vals (ons (packP n b g j).g.on (packP n b g j).g.xs n) = vals (ons g.on g.xs n)
  | 0, _ => rfl
  | j + 1, hj => by
    have ih := pack_items hl (b := b) j (by omega)
    have hi := pack_inv hl (b := b) j (by omega)
    unfold packP
    dsimp only
    generalize packP n b g j = r at *
    split
    · rename_i ho
      split
      · exact ih
      · rename_i hc
        exact (valid_items (pack_valid hi (by omega) ho hc) (by rw [hi.len]; exact hl)).trans ih
    · exact ih
theorem even_items {n b e c : Nat} {g0 : Gap} {ps : List Int} {r0 : EV} (hp : Plc n b e c ps) (h0 : EvInv n b e c g0 r0.g ps 0 r0) : ∀ d, d ≤ c → vals (ons (evenP n b c ps r0 d).g.on (evenP n b c ps r0 d).g.xs n) = vals (ons r0.g.on r0.g.xs n)
  | 0, _ => rfl
  | d + 1, hd => by
    have ih := even_items hp h0 d (by omega)
    have hi := even_inv hp h0 d (by omega)
    unfold evenP
    dsimp only
    generalize evenP n b c ps r0 d = r at *
    obtain ⟨q, hq, h1, h2⟩ := hp.nat (show c - 1 - d < c by omega)
    rw [hq]
    split
    · exact ih
    · rename_i hc
      exact (valid_items (even_valid hp hi (by omega) hq (by omega)) hi.len).trans ih
theorem leftR_items {n f k : Nat} {g : Gap} (hl : n ≤ g.xs.length) (hk : 8 * f + 8 * k ≤ n) : vals (ons (leftR n f k g).g.on (leftR n f k g).g.xs n) = vals (ons g.on g.xs n) := pack_items (b := 8 * f) hl (8 * k) hk
/-- What a window is that is spread. -/
theorem evenR_inv {n f k : Nat} {g : Gap} (hl : n ≤ g.xs.length) (hk : 8 * f + 8 * k ≤ n) (h1 : 1 ≤ k) : EvInv n (8 * f) (8 * f + 8 * k) (packP n (8 * f) g (8 * k)).c g (packP n (8 * f) g (8 * k)).g (plK (packP n (8 * f) g (8 * k)).c k f k) (packP n (8 * f) g (8 * k)).c (evenR n f k g) ∧ vals (ons (evenR n f k g).g.on (evenR n f k g).g.xs n) = vals (ons g.on g.xs n) := by
  have hinv := pack_inv (b := 8 * f) hl (8 * k) hk
  have hEV := ev_start (qs := plK (packP n (8 * f) g (8 * k)).c k f k) (pack_win hinv hl)
  have hPL := plc_of (n := n) (f := f) h1 hinv.le hk
  exact ⟨even_inv (r0 := ⟨(packP n (8 * f) g (8 * k)).g, (packP n (8 * f) g (8 * k)).ms⟩) hPL hEV _ (Nat.le_refl _), (even_items (r0 := ⟨(packP n (8 * f) g (8 * k)).g, (packP n (8 * f) g (8 * k)).ms⟩) hPL hEV _ (Nat.le_refl _)).trans (pack_items (b := 8 * f) hl (8 * k) hk)⟩
theorem shiftR_items {n i a : Nat} {g : Gap} (hl : n ≤ g.xs.length) (hi : i < n) (hf : g.on i = false) (ho : ∀ k, a ≤ k → k < i → g.on k = true) : ∀ d, d + a ≤ i → vals (ons (shiftR n i ⟨g, []⟩ d).g.on (shiftR n i ⟨g, []⟩ d).g.xs n) = vals (ons g.on g.xs n)
  | 0, _ => rfl
  | d + 1, hd => by
    have ih := shiftR_items hl hi hf ho d (by omega)
    have hv := shiftR_valid hl hi hf ho hd
    have h2 := (shiftR_inv hl hi hf ho d (by omega)).2.1
    unfold shiftR
    dsimp only
    exact (valid_items hv h2).trans ih
theorem shiftL_items {n i z : Nat} {g : Gap} (hl : n ≤ g.xs.length) (hz : z < n) (hf : g.on i = false) (ho : ∀ k, i < k → k ≤ z → g.on k = true) : ∀ d, i + d ≤ z → vals (ons (shiftL n i ⟨g, []⟩ d).g.on (shiftL n i ⟨g, []⟩ d).g.xs n) = vals (ons g.on g.xs n)
  | 0, _ => rfl
  | d + 1, hd => by
    have ih := shiftL_items hl hz hf ho d (by omega)
    have hv := shiftL_valid hl hz hf ho (show i + d + 1 ≤ z by omega)
    have h2 := (shiftL_inv hl hz hf ho d (by omega)).2.1
    unfold shiftL
    dsimp only
    exact (valid_items hv h2).trans ih
/-- Where all of a segment is occupied. -/
theorem openR_full {n sg : Nat} {bh : Int} {g : Gap} (h1 : bh = -1 ∨ (8 * (sg : Int) ≤ bh ∧ bh < 8 * (sg : Int) + 8 ∧ g.on bh.toNat = true)) (hall : ∀ i, 8 * sg ≤ i → i < 8 * sg + 8 → g.on i = true) : openR n sg bh g = ⟨0, 16, ⟨g, []⟩⟩ := by
  have hnx : 8 * sg ≤ nextN (8 * sg) bh ∧ nextN (8 * sg) bh ≤ 8 * sg + 8 := by unfold nextN; split <;> omega
  unfold openR
  rw [if_neg (by omega), if_neg (by
    rintro ⟨h2, h3⟩
    rcases h1 with h1 | ⟨_, _, h1⟩
    · exact h2 h1
    · rw [h1] at h3; cases h3)]
  unfold openN
  have u : upF g.on (nextN (8 * sg) bh) (8 * sg + 8 - nextN (8 * sg) bh) = none := by
    cases hu : upF g.on (nextN (8 * sg) bh) (8 * sg + 8 - nextN (8 * sg) bh) with
    | none => rfl
    | some i =>
      obtain ⟨a1, a2, a3, _⟩ := upF_some hu
      rw [hall i (by omega) (by omega)] at a3
      cases a3
  have d : downF g.on (8 * sg) (nextN (8 * sg) bh - 8 * sg) = none := by
    cases hu : downF g.on (8 * sg) (nextN (8 * sg) bh - 8 * sg) with
    | none => rfl
    | some i =>
      obtain ⟨a1, a2, a3, _⟩ := downF_some hu
      rw [hall i (by omega) (by omega)] at a3
      cases a3
  rw [u]
  dsimp only
  rw [d]
/-- What Open does where a slot is free. -/
structure Opened (n sg : Nat) (bh : Int) (g : Gap) (E : OP) (k : Nat) : Prop where
  ek : E.k = (k : Int)
  ee : E.e = 0
  lo : 8 * sg ≤ k
  hi : k < 8 * sg + 8
  free : E.r.g.on k = false
  items : vals (ons E.r.g.on E.r.g.xs n) = vals (ons g.on g.xs n)
  order : ∀ i, 8 * sg ≤ i → i < 8 * sg + 8 → E.r.g.on i = true → (i < k ↔ bh ≠ -1 ∧ E.r.g.xs.getD i 0 ≤ g.xs.getD bh.toNat 0)
  rest : ∀ i, i < 8 * sg ∨ 8 * sg + 8 ≤ i → E.r.g.on i = g.on i ∧ E.r.g.xs.getD i 0 = g.xs.getD i 0
theorem openR_ok {n sg : Nat} {bh : Int} {g : Gap} (hl : n ≤ g.xs.length) (hw : 8 * sg + 8 ≤ n) (h1 : bh = -1 ∨ (8 * (sg : Int) ≤ bh ∧ bh < 8 * (sg : Int) + 8 ∧ g.on bh.toNat = true))
    (rise : ∀ i j, i < j → j < n → g.on i = true → g.on j = true → g.xs.getD i 0 < g.xs.getD j 0) (hfr : ∃ i, 8 * sg ≤ i ∧ i < 8 * sg + 8 ∧ g.on i = false) : ∃ k, Opened n sg bh g (openR n sg bh g) k := by
  have hnx : 8 * sg ≤ nextN (8 * sg) bh ∧ nextN (8 * sg) bh ≤ 8 * sg + 8 ∧ (bh = -1 → nextN (8 * sg) bh = 8 * sg) ∧ (bh ≠ -1 → nextN (8 * sg) bh = bh.toNat + 1) := by unfold nextN; split <;> omega
  have hon : bh ≠ -1 → g.on bh.toNat = true := fun h => by
    rcases h1 with h1 | h1
    · exact absurd h1 h
    · exact h1.2.2
  unfold openR
  rw [if_neg (by omega), if_neg (by
    rintro ⟨h2, h3⟩
    rw [hon h2] at h3; cases h3)]
  unfold openN
  generalize nextN (8 * sg) bh = next at *
  obtain ⟨x1, x2, x3, x4⟩ := hnx
  have less : ∀ i, bh ≠ -1 → i ≤ bh.toNat → g.on i = true → g.xs.getD i 0 ≤ g.xs.getD bh.toNat 0 := fun i hb h2 h3 => by
    by_cases e : i = bh.toNat
    · rw [e]; exact Int.le_refl _
    · exact Int.le_of_lt (rise i _ (by omega) (by omega) h3 (hon hb))
  have more : ∀ i, bh ≠ -1 → bh.toNat < i → i < n → g.on i = true → g.xs.getD bh.toNat 0 < g.xs.getD i 0 := fun i hb h2 h4 h3 => rise _ i h2 h4 (hon hb) h3
  cases hu : upF g.on next (8 * sg + 8 - next) with
  | some i =>
    obtain ⟨a1, a2, a3, a4⟩ := upF_some hu
    dsimp only
    obtain ⟨b1, b2, b3, b4, b5⟩ := shiftR_inv hl (show i < n by omega) a3 a4 (i - next) (by omega)
    have bi := shiftR_items hl (show i < n by omega) a3 a4 (i - next) (by omega)
    generalize shiftR n i ⟨g, []⟩ (i - next) = r at *
    rw [show i - (i - next) = next by omega] at b3 b4 b5
    refine ⟨next, rfl, rfl, x1, by omega, b3, bi, fun q h2 h3 h4 => ?_, fun q h2 => b4 q (by omega)⟩
    by_cases c1 : q < next
    · obtain ⟨d1, d2⟩ := b4 q (.inl c1)
      show q < next ↔ bh ≠ -1 ∧ r.g.xs.getD q 0 ≤ _
      rw [d2]
      have hb : bh ≠ -1 := fun e => by have := x3 e; omega
      exact ⟨fun _ => ⟨hb, less q hb (by have := x4 hb; omega) (d1 ▸ h4)⟩, fun _ => c1⟩
    · have c2 : q ≠ next := fun e => by
        have h4 : r.g.on q = true := h4
        rw [e, b3] at h4; cases h4
      show q < next ↔ bh ≠ -1 ∧ r.g.xs.getD q 0 ≤ _
      refine ⟨fun h => absurd h c1, fun ⟨hb, h5⟩ => ?_⟩
      exfalso
      have hx := x4 hb
      by_cases c3 : q ≤ i
      · obtain ⟨d1, d2⟩ := b5 q (by omega) c3
        rw [d2] at h5
        have := more (q - 1) hb (by omega) (by omega) (a4 _ (by omega) (by omega))
        omega
      · obtain ⟨d1, d2⟩ := b4 q (.inr (by omega))
        rw [d2] at h5
        have := more q hb (by omega) (by omega) (d1 ▸ h4)
        omega
  | none =>
    have un := upF_none hu
    dsimp only
    cases hd : downF g.on (8 * sg) (next - 8 * sg) with
    | none =>
      exfalso
      have dn := downF_none hd
      obtain ⟨i, i1, i2, i3⟩ := hfr
      by_cases c : next ≤ i
      · rw [un i c (by omega)] at i3; cases i3
      · rw [dn i i1 (by omega)] at i3; cases i3
    | some i =>
      obtain ⟨a1, a2, a3, a4⟩ := downF_some hd
      dsimp only
      have hb : bh ≠ -1 := fun e => by have := x3 e; omega
      have hx := x4 hb
      have hne : i ≠ bh.toNat := fun e => by rw [e, hon hb] at a3; cases a3
      obtain ⟨b, rfl⟩ := Int.eq_ofNat_of_zero_le (show 0 ≤ bh by omega)
      rw [Int.toNat_natCast] at *
      have a5 : ∀ k, i < k → k ≤ b → g.on k = true := fun k k1 k2 => a4 k k1 (by omega)
      obtain ⟨b1, b2, b3, b4, b5⟩ := shiftL_inv hl (show b < n by omega) a3 a5 (b - i) (by omega)
      have bi := shiftL_items hl (show b < n by omega) a3 a5 (b - i) (by omega)
      generalize shiftL n i ⟨g, []⟩ (b - i) = r at *
      rw [show i + (b - i) = b by omega] at b3 b4 b5
      refine ⟨b, rfl, rfl, by omega, by omega, b3, bi, fun q h2 h3 h4 => ?_, fun q h2 => b4 q (by omega)⟩
      rw [Int.toNat_natCast]
      show q < b ↔ (b : Int) ≠ -1 ∧ r.g.xs.getD q 0 ≤ _
      by_cases c1 : q < b
      · refine ⟨fun _ => ⟨hb, ?_⟩, fun _ => c1⟩
        by_cases c2 : i ≤ q
        · rw [(b5 q c2 c1).2]
          exact less (q + 1) hb (by omega) (a5 _ (by omega) (by omega))
        · obtain ⟨d1, d2⟩ := b4 q (.inl (by omega))
          rw [d2]
          exact less q hb (by omega) (d1 ▸ h4)
      · refine ⟨fun h => absurd h c1, fun ⟨_, h5⟩ => ?_⟩
        exfalso
        have c2 : q ≠ b := fun e => by
          have h4 : r.g.on q = true := h4
          rw [e, b3] at h4; cases h4
        obtain ⟨d1, d2⟩ := b4 q (.inr (by omega))
        rw [d2] at h5
        have := more q hb (by omega) (by omega) (d1 ▸ h4)
        omega
/-- Counts of some slots on end. -/
theorem cnt_all {f : Nat → Bool} {a : Nat} : ∀ d, cntF f (a + d) ≤ cntF f a + d ∧ (cntF f (a + d) = cntF f a + d → ∀ i, a ≤ i → i < a + d → f i = true) ∧ ((∀ i, a ≤ i → i < a + d → f i = true) → cntF f (a + d) = cntF f a + d)
  | 0 => ⟨Nat.le_refl _, fun _ i h1 h2 => by omega, fun _ => rfl⟩
  | d + 1 => by
    obtain ⟨h1, h2, h3⟩ := cnt_all (f := f) (a := a) d
    have e : cntF f (a + (d + 1)) = cntF f (a + d) + (if f (a + d) then 1 else 0) := rfl
    cases hf : f (a + d) with
    | true =>
      rw [hf, if_pos rfl] at e
      refine ⟨by omega, fun h i k1 k2 => ?_, fun h => ?_⟩
      · by_cases c : i = a + d
        · rw [c]; exact hf
        · exact h2 (by omega) i k1 (by omega)
      · have := h3 fun i k1 k2 => h i k1 (by omega)
        omega
    | false =>
      rw [hf, if_neg (by decide)] at e
      refine ⟨by omega, fun h => by omega, fun h => ?_⟩
      have := h (a + d) (by omega) (by omega)
      rw [hf] at this; cases this
/-- What a slot tells. -/
def atB (n : Nat) (s : Gap) (i : Int) : Bool := inR n i && s.on i.toNat
def atV (n : Nat) (s : Gap) (i : Int) : Int := if atB n s i then s.xs.getD i.toNat 0 else 0
theorem at_nat {n : Nat} {g : Gap} {i : Nat} (hi : i < n) : atB n g (i : Int) = g.on i ∧ atV n g (i : Int) = if g.on i then g.xs.getD i 0 else 0 := by
  have h1 : inR n (i : Int) = true := decide_eq_true (by omega)
  have h2 : atB n g (i : Int) = g.on i := by unfold atB; rw [h1, Int.toNat_natCast, Bool.true_and]
  exact ⟨h2, by unfold atV; rw [h2, Int.toNat_natCast]⟩
theorem opened_order {n sg : Nat} {bh : Int} {g : Gap} {E : OP} {k : Nat} (h : Opened n sg bh g E k) (hw8 : 8 * sg + 8 ≤ n) (hb : bh = -1 ∨ (8 * (sg : Int) ≤ bh ∧ bh < 8 * (sg : Int) + 8 ∧ g.on bh.toNat = true)) {i : Int} (h1 : 8 * (sg : Int) ≤ i) (h2 : i < 8 * (sg : Int) + 8) (hon : atB n E.r.g i = true) : i < (k : Int) ↔ bh ≠ -1 ∧ atV n E.r.g i ≤ atV n g bh := by
  obtain ⟨j, rfl⟩ := Int.eq_ofNat_of_zero_le (show 0 ≤ i by omega)
  obtain ⟨a1, a2⟩ := at_nat (n := n) (g := E.r.g) (i := j) (by omega)
  rw [a1] at hon
  rw [a2, if_pos hon]
  have ho := h.order j (by omega) (by omega) hon
  rcases hb with rfl | ⟨b1, b2, b3⟩
  · constructor
    · intro h3
      exact absurd rfl ((ho.1 (by omega)).1)
    · intro h3
      exact absurd rfl h3.1
  · obtain ⟨b, rfl⟩ := Int.eq_ofNat_of_zero_le (show 0 ≤ bh by omega)
    rw [Int.toNat_natCast] at b3 ho
    rw [(at_nat (n := n) (g := g) (i := b) (by omega)).2, if_pos b3]
    constructor
    · intro h3; exact ho.1 (by omega)
    · intro h3; have := ho.2 h3; omega
theorem opened_rest {n sg : Nat} {bh : Int} {g : Gap} {E : OP} {k : Nat} (h : Opened n sg bh g E k) {i : Nat} (hi : i < n) (h1 : i < 8 * sg ∨ 8 * sg + 8 ≤ i) : atB n E.r.g (i : Int) = atB n g (i : Int) ∧ atV n E.r.g (i : Int) = atV n g (i : Int) := by
  obtain ⟨a1, a2⟩ := at_nat (n := n) (g := E.r.g) (i := i) hi
  obtain ⟨b1, b2⟩ := at_nat (n := n) (g := g) (i := i) hi
  obtain ⟨c1, c2⟩ := h.rest i h1
  rw [a1, a2, b1, b2, c1, c2]
  exact ⟨rfl, rfl⟩
theorem same_atB {n : Nat} {g g2 : Gap} (h : Same n g g2) (i : Int) : atB n g2 i = atB n g i := by unfold atB; rw [h.on]
theorem same_atV {n : Nat} {g g2 : Gap} (h : Same n g g2) (i : Int) : atV n g2 i = atV n g i := by
  unfold atV
  rw [same_atB h]
  cases hb : atB n g i with
  | false => rfl
  | true =>
    have h1 : inR n i = true := by unfold atB at hb; exact (Bool.and_eq_true_iff.1 hb).1
    have h2 := of_decide_eq_true h1
    rw [if_pos rfl, if_pos rfl]
    exact h.xs _ (by omega)
theorem at_gap {w : World} {p sb ob wb n : Nat} {s : Gap} (h : Is w p sb ob wb n s) (i : Int) : Calls Tryd.prog 32 #[.pointer (some ⟨p, 0, none⟩), .int .i64 i] w fun e w' => e = .returned (.tuple #[.int .i64 (atV n s i), .bool (atB n s i)]) ∧ w = w' := by
  obtain ⟨vs, h⟩ := h
  unfold atV
  by_cases hi : 0 ≤ i ∧ i < n
  · obtain ⟨k, rfl⟩ := Int.eq_ofNat_of_zero_le hi.1
    cases hf : s.on k with
    | true =>
      have e : atB n s (k : Int) = true := by unfold atB inR; rw [decide_eq_true hi, Int.toNat_natCast, hf]; rfl
      rw [e, if_pos rfl, Int.toNat_natCast]
      exact at_on h (by omega) hf
    | false =>
      have e : atB n s (k : Int) = false := by unfold atB inR; rw [decide_eq_true hi, Int.toNat_natCast, hf]; rfl
      rw [e, if_neg (by decide)]
      exact at_off h (.inr (.inr (by rw [Int.toNat_natCast]; exact hf)))
  · have e : atB n s i = false := by unfold atB inR; rw [decide_eq_false hi]; rfl
    rw [e, if_neg (by decide)]
    exact at_off h (by omega)
theorem G7_len (s : Int) (l : List Int) : (G7 s l).xs.length = nOf s := (mk7_is (n := nOf s) (f := onF (nOf s) l l.length) (nOf s) (Nat.le_refl _)).1
section
variable {σ : Type} {T : σ → List Mv → List Ob} {w0 w : World} {n p sb ob wb : Nat} {g : Gap} {tv : Value} {st : σ} {L : List Ob}
theorem open_any (hTl : Tell7 w0 n g tv T) (hS : Sep w0 w (T st [] ++ (S1.Arr p sb ob wb n g :: L))) (hl : n ≤ g.xs.length) {sg : Nat} (hw : winB n (sg : Int) 1 = true) (bh : Int) :
    Calls Tryd.prog 17 #[.pointer (some ⟨p, 0, none⟩), .int .i64 (sg : Int), .int .i64 bh, tv] w fun e w' => e = .returned (.tuple #[.int .i64 (openR n sg bh g).k, .int .i64 (openR n sg bh g).e]) ∧ ∃ s', Sep w0 w' (T s' (openR n sg bh g).r.ms ++ (S1.Arr p sb ob wb n (openR n sg bh g).r.g :: L)) := by
  by_cases hbad : bh ≠ -1 ∧ (bh < 8 * (sg : Int) ∨ 8 * (sg : Int) + 8 ≤ bh)
  · exact open_arg hS hw hbad (tell_val hTl)
  · by_cases h1 : bh = -1
    · subst h1
      exact open_first hTl hS hl hw
    · obtain ⟨bn, rfl⟩ := Int.eq_ofNat_of_zero_le (show 0 ≤ bh by omega)
      cases hf : g.on bn with
      | false => exact open_none hS hw (by omega) (by omega) hf (tell_val hTl)
      | true => exact open_behind hTl hS hl hw (by omega) (by omega) hf
end
theorem win_nat {n : Nat} {a k : Int} (hw : winB n a k = true) : ∃ f m : Nat, a = (f : Int) ∧ k = (m : Int) ∧ 1 ≤ m ∧ 8 * f + 8 * m ≤ n ∧ f + m ≤ 512 := by
  obtain ⟨h1, h2, h3, h4, h5⟩ := of_decide_eq_true hw
  obtain ⟨f, rfl⟩ := Int.eq_ofNat_of_zero_le h3
  obtain ⟨m, rfl⟩ := Int.eq_ofNat_of_zero_le (show 0 ≤ k by omega)
  exact ⟨f, m, rfl, rfl, by omega, by omega, by omega⟩
theorem wf_le {x : Int} (h : (Lit.int .i64 x).wf = true) : -9223372036854775808 ≤ x ∧ x ≤ 9223372036854775807 := by
  simp [Lit.wf, IntKind.min, IntKind.max, IntKind.signed, IntKind.bits] at h
  omega
/-- Elements of the array that is made rise. -/
theorem G7_rise (s : Int) (l : List Int) : ∀ i j, i < j → j < nOf s → (G7 s l).on i = true → (G7 s l).on j = true → (G7 s l).xs.getD i 0 < (G7 s l).xs.getD j 0 := by
  obtain ⟨h1, h2, h3, h4⟩ := mk7_is (n := nOf s) (f := onF (nOf s) l l.length) (nOf s) (Nat.le_refl _)
  intro i j hij hj hi2 hj2
  have fi := ((h3 i).1 hi2).2
  have fj := ((h3 j).1 hj2).2
  unfold G7
  rw [h4 i (by omega) fi, h4 j hj fj]
  have e : cntF (onF (nOf s) l l.length) (j + 1) = cntF (onF (nOf s) l l.length) j + 1 := by
    show cntF _ j + _ = _
    rw [fj]; rfl
  have := cntF_mono (onF (nOf s) l l.length) (show i + 1 ≤ j by omega)
  omega
end Go.Proofs.YtofkkdjbilklcaaDoor.ZQ

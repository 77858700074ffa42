/- Several texts as one (cat.py): Z0 Z1 Z2 Z3 Z4 ZR ZM ZP. -/
import Derived.Test.YtofkkdjbilklcaaDoorY2
import Derived.Test.YtofkkdjbilklcaaDoorSC
import Derived.Test.YtofkkdjbilklcaaDoorSN
import Derived.Maps.AppendAt
import Derived.StillTailTactics
import Derived.Deep.Slices
/- Moves of elements of an array with gaps, plain: packed, spread, a slot opened. -/
namespace Go.Proofs.YtofkkdjbilklcaaDoor.Z0
open Go.RowKit Go.Shelf Go.Proofs.YtofkkdjbilklcaaDoorW.PrintWords Go.Proofs.YtofkkdjbilklcaaDoorW.PrintLast Go.Proofs.YtofkkdjbilklcaaDoorW.PrintMore G1 G0 Q1 G2 G3 G4 G5 G6 G7 G8 G9 G10 S1 Y1 Y3 Y2
set_option linter.unusedVariables false
set_option linter.unusedSimpArgs false

/-- An element's move. -/
structure Mv where
  x : Int
  f : Int
  t : Int
def runM (n : Nat) (g : Gap) (ms : List Mv) : Gap := ms.foldl (fun g m => moveS n g m.f m.t) g
theorem runM_snoc (n : Nat) (g : Gap) (ms : List Mv) (m : Mv) : runM n g (ms ++ [m]) = moveS n (runM n g ms) m.f m.t := by simp [runM]
/-- A move of an element to a free slot, with no element between. -/
structure Valid (n : Nat) (g : Gap) (x : Int) (i j : Nat) : Prop where
  hi : i < n
  hj : j < n
  on : g.on i = true
  off : g.on j = false
  val : g.xs.getD i 0 = x
  clear : ∀ k, (i < k ∧ k < j) ∨ (j < k ∧ k < i) → g.on k = false
theorem Valid.ne {n : Nat} {g : Gap} {x : Int} {i j : Nat} (h : Valid n g x i j) : i ≠ j := fun e => by
  have h1 := h.on
  have h2 := h.off
  rw [e, h2] at h1
  cases h1
theorem Valid.r {n : Nat} {g : Gap} {x : Int} {i j : Nat} (h : Valid n g x i j) : moveR n g (i : Int) (j : Int) = 0 := by
  have h1 : inR n (i : Int) = true := decide_eq_true (by have := h.hi; omega)
  have h2 : inR n (j : Int) = true := decide_eq_true (by have := h.hj; omega)
  unfold moveR
  rw [h1, h2, Bool.and_self, if_pos rfl, Int.toNat_natCast, Int.toNat_natCast, h.on, if_pos rfl, h.off]
  rfl
theorem Valid.s {n : Nat} {g : Gap} {x : Int} {i j : Nat} (h : Valid n g x i j) : moveS n g (i : Int) (j : Int) = ⟨upd (upd g.on i false) j true, (g.xs.set i 0).set j x⟩ := by
  unfold moveS
  rw [h.r, if_pos rfl, Int.toNat_natCast, Int.toNat_natCast, h.val]
theorem Valid.on_at {n : Nat} {g : Gap} {x : Int} {i j : Nat} (h : Valid n g x i j) (k : Nat) : (moveS n g (i : Int) (j : Int)).on k = (if k = j then true else if k = i then false else g.on k) := by
  rw [h.s]; rfl
theorem Valid.xs_at {n : Nat} {g : Gap} {x : Int} {i j : Nat} (h : Valid n g x i j) (hl : n ≤ g.xs.length) (k : Nat) : (moveS n g (i : Int) (j : Int)).xs.getD k 0 = (if k = j then x else if k = i then 0 else g.xs.getD k 0) := by
  rw [h.s]
  have hj := h.hj
  have hi := h.hi
  simp only [List.getD_eq_getElem?_getD]
  by_cases e1 : k = j
  · subst e1
    rw [if_pos rfl, List.getElem?_set_self (by simp; omega)]; rfl
  · rw [if_neg e1, List.getElem?_set_ne (fun c => e1 c.symm)]
    by_cases e2 : k = i
    · subst e2
      rw [if_pos rfl, List.getElem?_set_self (by omega)]; rfl
    · rw [if_neg e2, List.getElem?_set_ne (fun c => e2 c.symm)]
theorem Valid.len {n : Nat} {g : Gap} {x : Int} {i j : Nat} (h : Valid n g x i j) : (moveS n g (i : Int) (j : Int)).xs.length = g.xs.length := by rw [h.s]; simp

/-! Packing. -/
structure PK where
  g : Gap
  c : Nat
  ms : List Mv
def packP (n b : Nat) (g : Gap) : Nat → PK
  | 0 => ⟨g, 0, []⟩
  | j + 1 =>
    let r := packP n b g j
    if r.g.on (b + j) then
      (if r.c = j then ⟨r.g, r.c + 1, r.ms⟩ else ⟨moveS n r.g ((b + j : Nat) : Int) ((b + r.c : Nat) : Int), r.c + 1, r.ms ++ [⟨r.g.xs.getD (b + j) 0, (b + j : Nat), (b + r.c : Nat)⟩]⟩)
    else r
structure PkInv (n b : Nat) (g : Gap) (j : Nat) (r : PK) : Prop where
  le : r.c ≤ j
  run : runM n g r.ms = r.g
  len : r.g.xs.length = g.xs.length
  packed : ∀ t, t < r.c → r.g.on (b + t) = true
  free : ∀ t, r.c ≤ t → t < j → r.g.on (b + t) = false
  rest : ∀ k, b + j ≤ k → r.g.on k = g.on k ∧ r.g.xs.getD k 0 = g.xs.getD k 0
  ahead : ∀ k, k < b → r.g.on k = g.on k ∧ r.g.xs.getD k 0 = g.xs.getD k 0
  few : r.ms.length ≤ r.c
theorem pack_valid {n b j : Nat} {g : Gap} {r : PK} (h : PkInv n b g j r) (hb : b + j < n) (ho : r.g.on (b + j) = true) (hc : r.c ≠ j) : Valid n r.g (r.g.xs.getD (b + j) 0) (b + j) (b + r.c) := by
  have := h.le
  refine ⟨hb, by omega, ho, h.free r.c (Nat.le_refl _) (by omega), rfl, fun k hk => ?_⟩
  have e : k = b + (k - b) := by omega
  rw [e]
  exact h.free (k - b) (by omega) (by omega)
theorem pack_inv {n b : Nat} {g : Gap} (hl : n ≤ g.xs.length) : ∀ j, b + j ≤ n → PkInv n b g j (packP n b g j)
  | 0, _ => ⟨Nat.le_refl _, rfl, rfl, fun t h => by simp [packP] at h, fun t _ h => by omega, fun k _ => ⟨rfl, rfl⟩, fun k _ => ⟨rfl, rfl⟩, Nat.le_refl _⟩
  | j + 1, hj => by
    have ih := pack_inv hl (b := b) j (by omega)
    unfold packP
    dsimp only
    generalize packP n b g j = r at *
    have hle := ih.le
    split
    · rename_i ho
      split
      · rename_i hc
        refine ⟨by show r.c + 1 ≤ j + 1; omega, ih.run, ih.len, fun t ht => ?_, fun t h1 h2 => ?_, fun k hk => ih.rest k (by omega), ih.ahead, Nat.le_succ_of_le ih.few⟩
        · have ht : t < r.c + 1 := ht
          by_cases e : t = r.c
          · rw [e, hc]; exact ho
          · exact ih.packed t (by omega)
        · have h1 : r.c + 1 ≤ t := h1
          omega
      · rename_i hc
        have hv := pack_valid ih (by omega) ho hc
        refine ⟨by show r.c + 1 ≤ j + 1; omega, by rw [runM_snoc, ih.run], by rw [← ih.len]; exact hv.len, fun t ht => ?_, fun t h1 h2 => ?_, fun k hk => ?_, fun k hk => ?_, by show (r.ms ++ [_]).length ≤ r.c + 1; have := ih.few; simp; exact this⟩
        · have ht : t < r.c + 1 := ht
          show (moveS n r.g ((b + j : Nat) : Int) ((b + r.c : Nat) : Int)).on (b + t) = true
          rw [hv.on_at]
          by_cases e : t = r.c
          · rw [e, if_pos rfl]
          · rw [if_neg (by omega), if_neg (by omega)]
            exact ih.packed t (by omega)
        · have h1 : r.c + 1 ≤ t := h1
          show (moveS n r.g ((b + j : Nat) : Int) ((b + r.c : Nat) : Int)).on (b + t) = false
          rw [hv.on_at, if_neg (by omega)]
          by_cases e : t = j
          · rw [e, if_pos rfl]
          · rw [if_neg (by omega)]
            exact ih.free t (by omega) (by omega)
        · show (moveS n r.g ((b + j : Nat) : Int) ((b + r.c : Nat) : Int)).on k = _ ∧ (moveS n r.g ((b + j : Nat) : Int) ((b + r.c : Nat) : Int)).xs.getD k 0 = _
          rw [hv.on_at, hv.xs_at (by rw [ih.len]; exact hl), if_neg (by omega), if_neg (by omega), if_neg (by omega), if_neg (by omega)]
          exact ih.rest k (by omega)
        · show (moveS n r.g ((b + j : Nat) : Int) ((b + r.c : Nat) : Int)).on k = _ ∧ (moveS n r.g ((b + j : Nat) : Int) ((b + r.c : Nat) : Int)).xs.getD k 0 = _
          rw [hv.on_at, hv.xs_at (by rw [ih.len]; exact hl), if_neg (by omega), if_neg (by omega), if_neg (by omega), if_neg (by omega)]
          exact ih.ahead k hk
    · rename_i ho
      have ho : r.g.on (b + j) = false := by simpa using ho
      refine ⟨by omega, ih.run, ih.len, ih.packed, fun t h1 h2 => ?_, fun k hk => ih.rest k (by omega), ih.ahead, ih.few⟩
      by_cases e : t = j
      · rw [e]; exact ho
      · exact ih.free t h1 (by omega)
/-- Free slots are passed over. -/
theorem pack_skip {n b : Nat} {g : Gap} (hl : n ≤ g.xs.length) {a : Nat} : ∀ {d : Nat}, b + (a + d) ≤ n → (∀ k, b + a ≤ k → k < b + (a + d) → g.on k = false) → packP n b g (a + d) = packP n b g a
  | 0, _, _ => rfl
  | d + 1, hd, hf => by
    have ih := pack_skip hl (a := a) (d := d) (by omega) (fun k h1 h2 => hf k h1 (by omega))
    have inv := pack_inv (b := b) hl (a + d) (by omega)
    show (if (packP n b g (a + d)).g.on (b + (a + d)) then _ else packP n b g (a + d)) = _
    rw [(inv.rest (b + (a + d)) (Nat.le_refl _)).1, hf (b + (a + d)) (by omega) (by omega), if_neg Bool.false_ne_true, ih]

/-! Spreading: the last one first, each from where it is packed to its place. -/
structure EV where
  g : Gap
  ms : List Mv
def evenP (n b c : Nat) (ps : List Int) (r0 : EV) : Nat → EV
  | 0 => r0
  | d + 1 =>
    let r := evenP n b c ps r0 d
    let i := c - 1 - d
    if ((b + i : Nat) : Int) = ps.getD i 0 then r else ⟨moveS n r.g ((b + i : Nat) : Int) (ps.getD i 0), r.ms ++ [⟨r.g.xs.getD (b + i) 0, ((b + i : Nat) : Int), ps.getD i 0⟩]⟩
/-- Places in the window, that rise. -/
structure Plc (n b e c : Nat) (ps : List Int) : Prop where
  len : ps.length = c
  lo : ∀ i, i < c → ((b + i : Nat) : Int) ≤ ps.getD i 0
  hi : ∀ i, i < c → ps.getD i 0 < (e : Int)
  up : ∀ i j, i < j → j < c → ps.getD i 0 < ps.getD j 0
  top : e ≤ n
structure EvInv (n b e c : Nat) (g0 gp : Gap) (ps : List Int) (d : Nat) (r : EV) : Prop where
  run : runM n g0 r.ms = r.g
  len : n ≤ r.g.xs.length
  win : ∀ k, b ≤ k → k < e → (r.g.on k = true ↔ (k < b + (c - d) ∨ ∃ t, c - d ≤ t ∧ t < c ∧ ps.getD t 0 = (k : Int)))
  out : ∀ k, (k < b ∨ e ≤ k) → r.g.on k = gp.on k ∧ r.g.xs.getD k 0 = gp.xs.getD k 0
theorem Plc.nat {n b e c : Nat} {ps : List Int} (h : Plc n b e c ps) {i : Nat} (hi : i < c) : ∃ q : Nat, ps.getD i 0 = (q : Int) ∧ b + i ≤ q ∧ q < e := by
  have h1 := h.lo i hi
  have h2 := h.hi i hi
  obtain ⟨q, hq⟩ := Int.eq_ofNat_of_zero_le (show 0 ≤ ps.getD i 0 by omega)
  exact ⟨q, hq, by omega, by omega⟩
theorem even_valid {n b e c d : Nat} {g0 gp : Gap} {ps : List Int} {r : EV} (hp : Plc n b e c ps) (h : EvInv n b e c g0 gp ps d r) (hd : d < c) {q : Nat} (hq : ps.getD (c - 1 - d) 0 = (q : Int)) (hne : b + (c - 1 - d) ≠ q) : Valid n r.g (r.g.xs.getD (b + (c - 1 - d)) 0) (b + (c - 1 - d)) q := by
  obtain ⟨q', hq', h1, h2⟩ := hp.nat (show c - 1 - d < c by omega)
  obtain rfl : q' = q := by omega
  have ht := hp.top
  have off : ∀ k, b + (c - 1 - d) < k → k ≤ q' → r.g.on k = false := fun k k1 k2 => by
    cases hb : r.g.on k with
    | false => rfl
    | true =>
      rcases (h.win k (by omega) (by omega)).1 hb with h3 | ⟨t, h3, h4, h5⟩
      · omega
      · have := hp.up (c - 1 - d) t (by omega) h4
        omega
  refine ⟨by omega, by omega, (h.win _ (by omega) (by omega)).2 (.inl (by omega)), off q' (by omega) (Nat.le_refl _), rfl, fun k hk => off k (by omega) (by omega)⟩
theorem even_inv {n b e c : Nat} {g0 : Gap} {ps : List Int} {r0 : EV} (hp : Plc n b e c ps) (h0 : EvInv n b e c g0 r0.g ps 0 r0) : ∀ d, d ≤ c → EvInv n b e c g0 r0.g ps d (evenP n b c ps r0 d)
  | 0, _ => h0
  | d + 1, hd => by
    have ih := even_inv hp h0 d (by omega)
    unfold evenP
    dsimp only
    generalize evenP n b c ps r0 d = r at *
    obtain ⟨q, hq, h1, h2⟩ := hp.nat (show c - 1 - d < c by omega)
    rw [hq]
    have key : ∀ t, c - (d + 1) ≤ t ∧ t < c ↔ t = c - 1 - d ∨ (c - d ≤ t ∧ t < c) := fun t => by omega
    split
    · rename_i hc
      refine ⟨ih.run, ih.len, fun k k1 k2 => ?_, ih.out⟩
      rw [ih.win k k1 k2]
      constructor
      · rintro (h | ⟨t, h3, h4, h5⟩)
        · by_cases e1 : k = b + (c - 1 - d)
          · exact .inr ⟨c - 1 - d, by omega, by omega, by omega⟩
          · exact .inl (by omega)
        · exact .inr ⟨t, by omega, h4, h5⟩
      · rintro (h | ⟨t, h3, h4, h5⟩)
        · exact .inl (by omega)
        · by_cases e1 : t = c - 1 - d
          · subst e1; exact .inl (by omega)
          · exact .inr ⟨t, by omega, h4, h5⟩
    · rename_i hc
      have hv := even_valid hp ih (by omega) hq (by omega)
      refine ⟨by rw [runM_snoc, ih.run], by rw [hv.len]; exact ih.len, fun k k1 k2 => ?_, fun k hk => ?_⟩
      · rw [hv.on_at]
        by_cases e1 : k = q
        · rw [if_pos e1]
          exact ⟨fun _ => .inr ⟨c - 1 - d, by omega, by omega, by omega⟩, fun _ => rfl⟩
        · rw [if_neg e1]
          by_cases e2 : k = b + (c - 1 - d)
          · rw [if_pos e2]
            constructor
            · intro h; cases h
            · rintro (h | ⟨t, h3, h4, h5⟩)
              · omega
              · by_cases e3 : t = c - 1 - d
                · subst e3; omega
                · have := hp.up (c - 1 - d) t (by omega) h4
                  omega
          · rw [if_neg e2, ih.win k k1 k2]
            constructor
            · rintro (h | ⟨t, h3, h4, h5⟩)
              · exact .inl (by omega)
              · exact .inr ⟨t, by omega, h4, h5⟩
            · rintro (h | ⟨t, h3, h4, h5⟩)
              · exact .inl (by omega)
              · by_cases e3 : t = c - 1 - d
                · subst e3; omega
                · exact .inr ⟨t, by omega, h4, h5⟩
      · rw [hv.on_at, hv.xs_at ih.len, if_neg (by omega), if_neg (by omega), if_neg (by omega), if_neg (by omega)]
        exact ih.out k hk

/-! A slot opened: elements shifted by one. -/
def shiftR (n i : Nat) (r0 : EV) : Nat → EV
  | 0 => r0
  | d + 1 => let r := shiftR n i r0 d; ⟨moveS n r.g ((i - d - 1 : Nat) : Int) ((i - d : Nat) : Int), r.ms ++ [⟨r.g.xs.getD (i - d - 1) 0, ((i - d - 1 : Nat) : Int), ((i - d : Nat) : Int)⟩]⟩
def shiftL (n i : Nat) (r0 : EV) : Nat → EV
  | 0 => r0
  | d + 1 => let r := shiftL n i r0 d; ⟨moveS n r.g ((i + d + 1 : Nat) : Int) ((i + d : Nat) : Int), r.ms ++ [⟨r.g.xs.getD (i + d + 1) 0, ((i + d + 1 : Nat) : Int), ((i + d : Nat) : Int)⟩]⟩
theorem shiftR_inv {n i a : Nat} {g : Gap} (hl : n ≤ g.xs.length) (hi : i < n) (hf : g.on i = false) (ho : ∀ k, a ≤ k → k < i → g.on k = true) : ∀ d, d + a ≤ i →
    runM n g (shiftR n i ⟨g, []⟩ d).ms = (shiftR n i ⟨g, []⟩ d).g ∧ n ≤ (shiftR n i ⟨g, []⟩ d).g.xs.length ∧ (shiftR n i ⟨g, []⟩ d).g.on (i - d) = false ∧ (∀ k, k < i - d ∨ i < k → (shiftR n i ⟨g, []⟩ d).g.on k = g.on k ∧ (shiftR n i ⟨g, []⟩ d).g.xs.getD k 0 = g.xs.getD k 0) ∧
    (∀ k, i - d < k → k ≤ i → (shiftR n i ⟨g, []⟩ d).g.on k = true ∧ (shiftR n i ⟨g, []⟩ d).g.xs.getD k 0 = g.xs.getD (k - 1) 0)
  | 0, _ => ⟨rfl, hl, hf, fun k _ => ⟨rfl, rfl⟩, fun k h1 h2 => by omega⟩
  | d + 1, hd => by
    obtain ⟨a1, a2, a3, a4, a5⟩ := shiftR_inv hl hi hf ho d (by omega)
    unfold shiftR
    dsimp only
    generalize shiftR n i ⟨g, []⟩ d = r at *
    have hon : r.g.on (i - d - 1) = true := by rw [(a4 _ (.inl (by omega))).1]; exact ho _ (by omega) (by omega)
    have hv : Valid n r.g (r.g.xs.getD (i - d - 1) 0) (i - d - 1) (i - d) := ⟨by omega, by omega, hon, a3, rfl, fun k hk => by omega⟩
    have hx : r.g.xs.getD (i - d - 1) 0 = g.xs.getD (i - d - 1) 0 := (a4 _ (.inl (by omega))).2
    refine ⟨by rw [runM_snoc, a1], by rw [hv.len]; exact a2, ?_, fun k hk => ?_, fun k h1 h2 => ?_⟩
    · rw [hv.on_at, if_neg (by omega), if_pos (by omega)]
    · rw [hv.on_at, hv.xs_at a2, if_neg (by omega), if_neg (by omega), if_neg (by omega), if_neg (by omega)]
      exact a4 k (by omega)
    · rw [hv.on_at, hv.xs_at a2]
      by_cases e : k = i - d
      · rw [if_pos e, if_pos e, hx]
        exact ⟨rfl, by rw [e]⟩
      · rw [if_neg e, if_neg e, if_neg (by omega), if_neg (by omega)]
        exact a5 k (by omega) h2
theorem shiftR_valid {n i a d : Nat} {g : Gap} (hl : n ≤ g.xs.length) (hi : i < n) (hf : g.on i = false) (ho : ∀ k, a ≤ k → k < i → g.on k = true) (hd : d + 1 + a ≤ i) : Valid n (shiftR n i ⟨g, []⟩ d).g ((shiftR n i ⟨g, []⟩ d).g.xs.getD (i - d - 1) 0) (i - d - 1) (i - d) := by
  obtain ⟨a1, a2, a3, a4, a5⟩ := shiftR_inv hl hi hf ho d (by omega)
  exact ⟨by omega, by omega, by rw [(a4 _ (.inl (by omega))).1]; exact ho _ (by omega) (by omega), a3, rfl, fun k hk => by omega⟩
theorem shiftL_inv {n i z : Nat} {g : Gap} (hl : n ≤ g.xs.length) (hz : z < n) (hf : g.on i = false) (ho : ∀ k, i < k → k ≤ z → g.on k = true) : ∀ d, i + d ≤ z →
    runM n g (shiftL n i ⟨g, []⟩ d).ms = (shiftL n i ⟨g, []⟩ d).g ∧ n ≤ (shiftL n i ⟨g, []⟩ d).g.xs.length ∧ (shiftL n i ⟨g, []⟩ d).g.on (i + d) = false ∧ (∀ k, k < i ∨ i + d < k → (shiftL n i ⟨g, []⟩ d).g.on k = g.on k ∧ (shiftL n i ⟨g, []⟩ d).g.xs.getD k 0 = g.xs.getD k 0) ∧
    (∀ k, i ≤ k → k < i + d → (shiftL n i ⟨g, []⟩ d).g.on k = true ∧ (shiftL n i ⟨g, []⟩ d).g.xs.getD k 0 = g.xs.getD (k + 1) 0)
  | 0, _ => ⟨rfl, hl, hf, fun k _ => ⟨rfl, rfl⟩, fun k h1 h2 => by omega⟩
  | d + 1, hd => by
    obtain ⟨a1, a2, a3, a4, a5⟩ := shiftL_inv hl hz hf ho d (by omega)
    unfold shiftL
    dsimp only
    generalize shiftL n i ⟨g, []⟩ d = r at *
    have hon : r.g.on (i + d + 1) = true := by rw [(a4 _ (.inr (by omega))).1]; exact ho _ (by omega) (by omega)
    have hv : Valid n r.g (r.g.xs.getD (i + d + 1) 0) (i + d + 1) (i + d) := ⟨by omega, by omega, hon, a3, rfl, fun k hk => by omega⟩
    have hx : r.g.xs.getD (i + d + 1) 0 = g.xs.getD (i + d + 1) 0 := (a4 _ (.inr (by omega))).2
    refine ⟨by rw [runM_snoc, a1], by rw [hv.len]; exact a2, ?_, fun k hk => ?_, fun k h1 h2 => ?_⟩
    · rw [hv.on_at, if_neg (by omega), if_pos (by omega)]
    · rw [hv.on_at, hv.xs_at a2, if_neg (by omega), if_neg (by omega), if_neg (by omega), if_neg (by omega)]
      exact a4 k (by omega)
    · rw [hv.on_at, hv.xs_at a2]
      by_cases e : k = i + d
      · rw [if_pos e, if_pos e, hx]
        exact ⟨rfl, by rw [e]⟩
      · rw [if_neg e, if_neg e, if_neg (by omega), if_neg (by omega)]
        exact a5 k h1 (by omega)
theorem shiftL_valid {n i z d : Nat} {g : Gap} (hl : n ≤ g.xs.length) (hz : z < n) (hf : g.on i = false) (ho : ∀ k, i < k → k ≤ z → g.on k = true) (hd : i + d + 1 ≤ z) : Valid n (shiftL n i ⟨g, []⟩ d).g ((shiftL n i ⟨g, []⟩ d).g.xs.getD (i + d + 1) 0) (i + d + 1) (i + d) := by
  obtain ⟨a1, a2, a3, a4, a5⟩ := shiftL_inv hl hz hf ho d (by omega)
  exact ⟨by omega, by omega, by rw [(a4 _ (.inr (by omega))).1]; exact ho _ (by omega) (by omega), a3, rfl, fun k hk => by omega⟩
end Go.Proofs.YtofkkdjbilklcaaDoor.Z0
/- Windows of an array packed: the mover, walked. -/
namespace Go.Proofs.YtofkkdjbilklcaaDoor.Z1
open Go.RowKit Go.Shelf Go.Proofs.YtofkkdjbilklcaaDoorW.PrintWords Go.Proofs.YtofkkdjbilklcaaDoorW.PrintLast Go.Proofs.YtofkkdjbilklcaaDoorW.PrintMore G1 G0 Q1 G2 G3 G4 G5 G6 G7 G8 G9 G10 S1 Y1 Y3 Y2 Z0
set_option linter.unusedVariables false
set_option linter.unusedSimpArgs false
/-- A window in an array. -/
def winB (n : Nat) (f s : Int) : Bool := decide (1 ≤ s ∧ s ≤ 512 ∧ 0 ≤ f ∧ f ≤ 512 - s ∧ 8 * (f + s) ≤ n)
section
variable {w : World} {p sb ob wb n : Nat} {f : Nat → Bool} {xs : List Int} {vs : List Nat}
theorem check_yes (h : SlAt w p sb ob wb n f xs vs) {a s : Int} (hw : winB n a s = true) : Calls Tryd.prog 66 #[.pointer (some ⟨p, 0, none⟩), .int .i64 a, .int .i64 s] w fun e w' => e = .returned (.int .i64 0) ∧ w = w' := by
  obtain ⟨h1, h2, h3, h4, h5⟩ := of_decide_eq_true hw
  have q1 : ¬ s < 1 := by omega
  have q2 : ¬ 512 < s := by omega
  have q3 : ¬ a < 0 := by omega
  have q4 : ¬ 512 - s < a := by omega
  have q5 : ¬ (n : Int) < 8 * (a + s) := by omega
  have e1 : decide (s < 1) = false := decide_eq_false q1
  have e2 : decide (512 < s) = false := decide_eq_false q2
  have e3 : decide (a < 0) = false := decide_eq_false q3
  have e4 : decide (512 - s < a) = false := decide_eq_false q4
  have e5 : decide ((n : Int) < 8 * (a + s)) = false := decide_eq_false q5
  have c0 := h.c0
  have C := Aside0.mk (cap_any h)
  have hn := h.bits.high
  clear h
  go_enter Tryd.func66, Tryd.ntmps66
  go_wp2_with fail
  refine C.out.mono ?_
  rintro e w1 ⟨rfl, rfl⟩
  go_wp2
  go_ret
  exact ⟨rfl, rfl⟩
theorem check_no (h : SlAt w p sb ob wb n f xs vs) {a s : Int} (hw : winB n a s = false) : Calls Tryd.prog 66 #[.pointer (some ⟨p, 0, none⟩), .int .i64 a, .int .i64 s] w fun e w' => e = .returned (.int .i64 10) ∧ w = w' := by
  have hw := of_decide_eq_false hw
  have c0 := h.c0
  have C := Aside0.mk (cap_any h)
  have hn := h.bits.high
  clear h
  by_cases h1 : s < 1
  · have e1 : decide (s < 1) = true := decide_eq_true h1
    clear hw
    go_enter Tryd.func66, Tryd.ntmps66
    go_wp2
    go_ret
    exact ⟨rfl, rfl⟩
  · have e1 : decide (s < 1) = false := decide_eq_false h1
    by_cases h2 : 512 < s
    · have e2 : decide (512 < s) = true := decide_eq_true h2
      clear hw
      go_enter Tryd.func66, Tryd.ntmps66
      go_wp2
      go_ret
      exact ⟨rfl, rfl⟩
    · have e2 : decide (512 < s) = false := decide_eq_false h2
      by_cases h3 : a < 0
      · have e3 : decide (a < 0) = true := decide_eq_true h3
        clear hw
        go_enter Tryd.func66, Tryd.ntmps66
        go_wp2
        go_ret
        exact ⟨rfl, rfl⟩
      · have e3 : decide (a < 0) = false := decide_eq_false h3
        by_cases h4 : 512 - s < a
        · have e4 : decide (512 - s < a) = true := decide_eq_true h4
          clear hw
          go_enter Tryd.func66, Tryd.ntmps66
          go_wp2
          go_ret
          exact ⟨rfl, rfl⟩
        · have e4 : decide (512 - s < a) = false := decide_eq_false h4
          have h5 : (n : Int) < 8 * (a + s) := by omega
          have e5 : decide ((n : Int) < 8 * (a + s)) = true := decide_eq_true h5
          clear hw
          go_enter Tryd.func66, Tryd.ntmps66
          go_wp2_with fail
          refine C.out.mono ?_
          rintro e w1 ⟨rfl, rfl⟩
          go_wp2
          go_ret
          exact ⟨rfl, rfl⟩
end
theorem mover_any (p : Nat) (tv : Value) (htv : tv = .nilFunc ∨ ∃ ft fc, tv = .func (.func ft) #[] fc) (w : World) : Calls Tryd.prog 68 #[.pointer (some ⟨p, 0, none⟩), tv] w fun e w' => e = .returned (.tuple #[.func (.func 109) #[] #[.pointer (some ⟨w.heap.size, 0, none⟩), .pointer (some ⟨w.heap.size + 1 + 1, 0, none⟩), .pointer (some ⟨w.heap.size + 1, 0, none⟩)], .pointer (some ⟨w.heap.size + 1 + 1, 0, none⟩)]) ∧
    Sep w w' [S1.Blk w.heap.size #[.pointer (some ⟨p, 0, none⟩)] 25, S1.Blk (w.heap.size + 1) #[tv] 32, S1.Blk (w.heap.size + 1 + 1) #[.int .i64 0] 3] := by
  have HS := Aside0.mk ((((Sep.nil w).new_blk #[.pointer (some ⟨p, 0, none⟩)] 25).new_blk #[tv] 32).new_blk #[.int .i64 0] 3)
  simp only [World.size_alloc] at HS
  rcases htv with rfl | ⟨ft, fc, rfl⟩
  · go_enter Tryd.func68, Tryd.ntmps68
    go_wp2
    go_ret2
    exact ⟨rfl, HS.out⟩
  · go_enter Tryd.func68, Tryd.ntmps68
    go_wp2
    go_ret2
    exact ⟨rfl, HS.out⟩
/-- Who is told of moves: what it holds behind each. -/
structure Tell7 {σ : Type} (w0 : World) (n : Nat) (g0 : Gap) (tv : Value) (T : σ → List Mv → List Ob) : Prop where
  kind : (tv = .nilFunc ∧ ∀ s ms m, T s (ms ++ [m]) = T s ms) ∨
    ∃ ft fc, tv = .func (.func ft) #[] fc ∧ (∀ args w, (callFunc ft args).run Tryd.prog w = .ok (.enter ft args) w) ∧
      ∀ s ms (x : Int) (i j : Nat) W L, ms.length ≤ 1000000 → Valid n (runM n g0 ms) x i j → Sep w0 W (T s ms ++ L) → Calls Tryd.prog ft (#[.int .i64 x, .int .i64 (i : Int), .int .i64 (j : Int)] ++ fc) W fun e W' => e = .returned (.tuple #[]) ∧ ∃ s', Sep w0 W' (T s' (ms ++ [⟨x, (i : Int), (j : Int)⟩]) ++ L)
theorem run_neq (ft : FuncId) (fc : Array Value) (w : World) : (Go.binOp .neq 32 (.func (.func ft) #[] fc) .nilFunc).run Tryd.prog w = .ok (.bool true) w := by kernel_rfl
theorem run_neq0 (w : World) : (Go.binOp .neq 32 .nilFunc .nilFunc).run Tryd.prog w = .ok (.bool false) w := by kernel_rfl
abbrev mvF (z : Nat) : Value := .func (.func 109) #[] #[.pointer (some ⟨z, 0, none⟩), .pointer (some ⟨z + 1 + 1, 0, none⟩), .pointer (some ⟨z + 1, 0, none⟩)]
abbrev MB (z p : Nat) (tv : Value) (k : Nat) : List Ob := [S1.Blk z #[.pointer (some ⟨p, 0, none⟩)] 25, S1.Blk (z + 1) #[tv] 32, S1.Blk (z + 1 + 1) #[.int .i64 (k : Int)] 3]
section
variable {σ : Type} {T : σ → List Mv → List Ob} {w0 w : World} {n p sb ob wb z : Nat} {g g0 : Gap} {tv : Value} {s : σ} {ms : List Mv} {L : List Ob}
theorem mover1_same (i : Int) (z1 z2 z3 : Value) (w : World) : Calls Tryd.prog 109 #[.int .i64 i, .int .i64 i, z1, z2, z3] w fun e w' => e = .returned (.int .i64 0) ∧ w = w' := by
  have q : (i == i) = true := beq_self_eq_true i
  go_enter Tryd.func109, Tryd.ntmps109
  go_wp2
  go_ret
  exact ⟨rfl, rfl⟩
set_option maxHeartbeats 1000000 in
theorem mover1_move (hTl : Tell7 w0 n g0 tv T) (hS : Sep w0 w (T s ms ++ (S1.Arr p sb ob wb n g :: MB z p tv ms.length ++ L))) (hg : runM n g0 ms = g) {x : Int} {i j : Nat} (hv : Valid n g x i j) (hk : ms.length ≤ 1000000) :
    Calls Tryd.prog 109 #[.int .i64 (i : Int), .int .i64 (j : Int), .pointer (some ⟨z, 0, none⟩), .pointer (some ⟨z + 1 + 1, 0, none⟩), .pointer (some ⟨z + 1, 0, none⟩)] w fun e w' => e = .returned (.int .i64 0) ∧ ∃ s', Sep w0 w' (T s' (ms ++ [⟨x, (i : Int), (j : Int)⟩]) ++ (S1.Arr p sb ob wb n (moveS n g (i : Int) (j : Int)) :: MB z p tv (ms ++ [(⟨x, (i : Int), (j : Int)⟩ : Mv)]).length ++ L)) := by
  have q : ((i : Int) == (j : Int)) = false := beq_eq_false_iff_ne.2 (by have := hv.ne; omega)
  have HV := Aside0.mk hv
  have HS := Aside0.mk hS
  have HG := Aside0.mk hg
  obtain ⟨vs, hs⟩ := HS.out.right.arr 0 rfl
  have CA := at_on hs hv.hi hv.on
  rw [hv.val] at CA
  have CA := Aside0.mk CA
  have CM := move_any (HS.out.right.arr 0 rfl) (i : Int) (j : Int)
  rw [hv.r] at CM
  have CM := Aside0.mk CM
  have c1 : (_ : Option Value) = some (.pointer (some ⟨p, 0, none⟩)) := (blk_cell (HS.out.right.blk 1 rfl) 0).trans rfl
  have hlen : (ms ++ [(⟨x, (i : Int), (j : Int)⟩ : Mv)]).length = ms.length + 1 := by simp
  rw [hlen]
  have hk2 : ((ms.length : Nat) : Int) ≤ 1000000 := by omega
  have hk0 : (0 : Int) ≤ ((ms.length : Nat) : Int) := by omega
  clear hs vs hv hS hg hlen hk
  rcases hTl.kind with ⟨rfl, hT0⟩ | ⟨ft, fc, rfl, heg, hT⟩
  · have HT0 := Aside0.mk hT0
    have hfn := fun w => run_neq0 w
    clear hT0 hTl
    go_enter Tryd.func109, Tryd.ntmps109
    go_wp2_with fail
    refine CA.out.mono ?_
    clear CA
    rintro e w1 ⟨rfl, rfl⟩
    go_wp2_with fail
    refine CM.out.mono ?_
    clear CM
    rintro e w1 ⟨rfl, h4, h5⟩
    replace HS := Aside0.mk (HS.out.turn_arrR 0 rfl h5 h4)
    clear h4 h5 c1
    have c2 : (_ : Option Value) = some .nilFunc := (blk_cell (HS.out.right.blk 2 rfl) 0).trans rfl
    have c3 : (_ : Option Value) = some (.int .i64 (ms.length : Int)) := (blk_cell (HS.out.right.blk 3 rfl) 0).trans rfl
    have f3 := blk_frozen (HS.out.right.blk 3 rfl) 0
    have HS4 := Aside0.mk (HS.out.turn_blkR 3 rfl 0 (.int .i64 ((ms.length : Int) + 1)))
    have d2 : (_ : Option Value) = some .nilFunc := (blk_cell (HS4.out.right.blk 2 rfl) 0).trans rfl
    go_wp2
    go_ret
    refine ⟨rfl, s, ?_⟩
    rw [HT0.out]
    exact HS4.out
  · have HTT := Aside0.mk hT
    have hfn := fun w => run_neq ft fc w
    clear hT hTl
    go_enter Tryd.func109, Tryd.ntmps109
    go_wp2_with fail
    refine CA.out.mono ?_
    clear CA
    rintro e w1 ⟨rfl, rfl⟩
    go_wp2_with fail
    refine CM.out.mono ?_
    clear CM
    rintro e w1 ⟨rfl, h4, h5⟩
    replace HS := Aside0.mk (HS.out.turn_arrR 0 rfl h5 h4)
    clear h4 h5 c1
    have c2 : (_ : Option Value) = some (.func (.func ft) #[] fc) := (blk_cell (HS.out.right.blk 2 rfl) 0).trans rfl
    have c3 : (_ : Option Value) = some (.int .i64 (ms.length : Int)) := (blk_cell (HS.out.right.blk 3 rfl) 0).trans rfl
    have f3 := blk_frozen (HS.out.right.blk 3 rfl) 0
    have HS4 := Aside0.mk (HS.out.turn_blkR 3 rfl 0 (.int .i64 ((ms.length : Int) + 1)))
    have d2 : (_ : Option Value) = some (.func (.func ft) #[] fc) := (blk_cell (HS4.out.right.blk 2 rfl) 0).trans rfl
    have CT := Aside0.mk (HTT.out s ms x i j _ _ (by omega) (by rw [HG.out]; exact HV.out) HS4.out)
    go_wp2_with fail
    refine CT.out.mono ?_
    clear CT
    rintro e w2 ⟨rfl, s', h6⟩
    have HS5 := Aside0.mk h6
    clear h6
    go_wp2
    go_ret
    exact ⟨rfl, s', HS5.out⟩
end
end Go.Proofs.YtofkkdjbilklcaaDoor.Z1
/- Windows of an array packed and spread: walked. -/
namespace Go.Proofs.YtofkkdjbilklcaaDoor.Z2
open Go.RowKit Go.Shelf Go.Proofs.YtofkkdjbilklcaaDoorW.PrintWords Go.Proofs.YtofkkdjbilklcaaDoorW.PrintLast Go.Proofs.YtofkkdjbilklcaaDoorW.PrintMore G1 G0 Q1 G2 G3 G4 G5 G6 G7 G8 G9 G10 S1 Y1 Y3 Y2 Z0 Z1
set_option linter.unusedVariables false
set_option linter.unusedSimpArgs false
section
variable {σ : Type} {T : σ → List Mv → List Ob} {w0 w : World} {n p sb ob wb z : Nat} {g : Gap} {tv : Value} {s : σ} {L : List Ob}
set_option maxHeartbeats 2000000 in
theorem pack_any (hTl : Tell7 w0 n g tv T) (hT : Tb w0) (hS : Sep w0 w (T s [] ++ (S1.Arr p sb ob wb n g :: MB z p tv 0 ++ L))) (hl : n ≤ g.xs.length) {f k : Nat} (hk : 8 * f + 8 * k ≤ n) (hf : f + k ≤ 512) :
    Calls Tryd.prog 72 #[.pointer (some ⟨p, 0, none⟩), .int .i64 (f : Int), .int .i64 (k : Int), mvF z] w fun e w' => e = .returned (.tuple #[.int .i64 ((packP n (8 * f) g (8 * k)).c : Int), .int .i64 0]) ∧
      ∃ s', Sep w0 w' (T s' (packP n (8 * f) g (8 * k)).ms ++ (S1.Arr p sb ob wb n (packP n (8 * f) g (8 * k)).g :: MB z p tv (packP n (8 * f) g (8 * k)).ms.length ++ L)) := by
  have HT := Aside0.mk hT
  have HTl := Aside0.mk hTl
  have HL := Aside0.mk hl
  obtain ⟨b, hb⟩ : ∃ b, 8 * f = b := ⟨_, rfl⟩
  obtain ⟨N, hN⟩ : ∃ N, 8 * k = N := ⟨_, rfl⟩
  have HS : Aside0 (Sep w0 w (T s (packP n b g 0).ms ++ (S1.Arr p sb ob wb n (packP n b g 0).g :: MB z p tv (packP n b g 0).ms.length ++ L))) := ⟨hS⟩
  rw [hb, hN] at hk ⊢
  have eb : 8 * (f : Int) = (b : Int) := by omega
  have eN : 8 * (k : Int) = (N : Int) := by omega
  have hbN : b + N ≤ 4096 := by omega
  have HI := Aside0.mk (fun j (h : b + j ≤ n) => pack_inv (b := b) (g := g) hl j h)
  obtain ⟨vs, hs⟩ := HS.out.right.arr 0 rfl
  have C := Aside0.mk (snext_any hs (Kd.C_below HT.out HS.out.below) (b : Int))
  clear hs vs hT hTl hl hS hb hN hf
  go_enter Tryd.func72, Tryd.ntmps72
  go_wp2_with fail
  refine C.out.mono ?_
  clear C
  rintro e w1 ⟨rfl, hd⟩
  replace HS := Aside0.mk (HS.out.step hd.below)
  clear hd
  go_wp2
  go_loopg [12, 13] (N + 1) (fun kq v12 v13 W => ∃ (j : Nat) (s : σ), v12 = .int .i64 ((packP n b g j).c : Int) ∧ v13 = .int .i64 (nextI (packP n b g j).g.on n ((b + j : Nat) : Int)) ∧ j ≤ N ∧ Aside0 (N + 1 - j ≤ kq) ∧ Aside0 (Sep w0 W (T s (packP n b g j).ms ++ (S1.Arr p sb ob wb n (packP n b g j).g :: MB z p tv (packP n b g j).ms.length ++ L))))
  case atStart => exact ⟨0, s, rfl, by rw [Nat.add_zero], by omega, ⟨by omega⟩, HS⟩
  case round =>
    clear HS
    obtain ⟨j, s, rfl, rfl, hj, HQ, HS⟩ := hrel
    have inv := HI.out j (by omega)
    have HR := Aside0.mk inv.rest
    have hcj := inv.le
    clear inv
    rcases next_cases (packP n b g j).g.on n (b + j) (by omega) with ⟨e1, h2⟩ | ⟨t, e1, h2, h3, h4, h5⟩
    · rw [e1]
      have HE := Aside0.mk (pack_skip (b := b) HL.out (a := j) (d := N - j) (by omega) (fun k k1 k2 => by rw [← (HR.out k k1).1]; exact h2 k k1 (by omega)))
      rw [show j + (N - j) = N by omega] at HE
      clear e1 h2
      go_wp2
      go_ret2
      exact ⟨by rw [HE.out]; rfl, s, by rw [HE.out]; exact HS.out⟩
    · rw [e1]
      by_cases hte : t < b + N
      · have HE := pack_skip (b := b) HL.out (a := j) (d := t - b - j) (by omega) (fun k k1 k2 => by rw [← (HR.out k k1).1]; exact h5 k k1 (by omega))
        rw [show j + (t - b - j) = t - b by omega] at HE
        obtain ⟨u, hu⟩ : ∃ u, t - b = u := ⟨_, rfl⟩
        have hu2 : t = b + u := by omega
        rw [hu] at HE
        rw [← HE] at HS h4 ⊢
        have inv := HI.out u (by omega)
        have hcu := inv.le
        have hfew := inv.few
        have hst : packP n b g (u + 1) = (if (packP n b g u).c = u then ⟨(packP n b g u).g, (packP n b g u).c + 1, (packP n b g u).ms⟩ else ⟨moveS n (packP n b g u).g (t : Int) ((b : Int) + ((packP n b g u).c : Int)), (packP n b g u).c + 1, (packP n b g u).ms ++ [⟨(packP n b g u).g.xs.getD t 0, (t : Int), (b : Int) + ((packP n b g u).c : Int)⟩]⟩) := by
          rw [hu2] at h4 ⊢
          show (if (packP n b g u).g.on (b + u) then _ else _) = _
          rw [h4, if_pos rfl, Int.natCast_add, Int.natCast_add]
        have HST := Aside0.mk hst
        have q1 : (t : Int) < (b : Int) + (N : Int) := by omega
        have q2 : (0 : Int) ≤ (t : Int) := by omega
        have d1 : decide ((t : Int) < (b : Int) + (N : Int)) = true := decide_eq_true q1
        have d2 : decide ((0 : Int) ≤ (t : Int)) = true := decide_eq_true q2
        have HJ := Aside0.mk (show j ≤ u by omega)
        have HU := Aside0.mk (show u < N by omega)
        have HU2 := Aside0.mk hu2
        have HRUN := Aside0.mk inv.run
        by_cases hc : (packP n b g u).c = u
        · rw [if_pos hc] at HST
          have HCu := Aside0.mk hc
          have CM := Aside0.mk (mover1_same (t : Int) (.pointer (some ⟨z, 0, none⟩)) (.pointer (some ⟨z + 1 + 1, 0, none⟩)) (.pointer (some ⟨z + 1, 0, none⟩)) wr)
          obtain ⟨vs, hs⟩ := HS.out.right.arr 0 rfl
          have C := Aside0.mk (snext_any hs (Kd.C_below HT.out HS.out.below) ((t : Int) + 1))
          have eT : (b : Int) + ((packP n b g u).c : Int) = (t : Int) := by omega
          have hc3 : ((packP n b g u).c : Int) ≤ 4096 := by omega
          clear hs vs inv hst h4 hc e1 h2 h5 HE hu hu2 hcu hfew hcj
          generalize packP n b g u = r at *
          go_wp2_with fail
          refine CM.out.mono ?_
          clear CM
          rintro e w3 ⟨rfl, rfl⟩
          go_wp2_with fail
          refine C.out.mono ?_
          clear C
          rintro e w3 ⟨rfl, hd⟩
          replace HS := Aside0.mk (HS.out.step hd.below)
          clear hd
          go_wp2
          go_roundg (N - u)
          case measure => have := HQ.out; have := HJ.out; have := HU.out; omega
          case rel => exact ⟨u + 1, s, by rw [HST.out]; rfl, by rw [HST.out, show ((b + (u + 1) : Nat) : Int) = (t : Int) + 1 by have := HU2.out; omega], by have := HU.out; omega, ⟨by omega⟩, ⟨by rw [HST.out]; exact HS.out⟩⟩
        · rw [if_neg hc] at HST
          have hv : Valid n (packP n b g u).g ((packP n b g u).g.xs.getD t 0) t (b + (packP n b g u).c) := by
            have := pack_valid inv (by omega) (by rw [← hu2]; exact h4) hc
            rw [← hu2] at this
            exact this
          have CM := mover1_move (i := t) (j := b + (packP n b g u).c) HTl.out HS.out inv.run hv (by omega)
          rw [Int.natCast_add] at CM
          have CM := Aside0.mk CM
          have hc3 : ((packP n b g u).c : Int) ≤ 4096 := by omega
          have hc4 : (0 : Int) ≤ ((packP n b g u).c : Int) := by omega
          clear inv hst h4 hc e1 h2 h5 HE hu hu2 hcu hfew hcj hv
          generalize packP n b g u = r at *
          go_wp2_with fail
          refine CM.out.mono ?_
          clear CM HS
          rintro e w3 ⟨rfl, s', h6⟩
          have HS := Aside0.mk h6
          clear h6
          obtain ⟨vs, hs⟩ := HS.out.right.arr 0 rfl
          have C := Aside0.mk (snext_any hs (Kd.C_below HT.out HS.out.below) ((t : Int) + 1))
          clear hs vs
          go_wp2_with fail
          refine C.out.mono ?_
          clear C
          rintro e w4 ⟨rfl, hd⟩
          replace HS := Aside0.mk (HS.out.step hd.below)
          clear hd
          go_wp2
          go_roundg (N - u)
          case measure => have := HQ.out; have := HJ.out; have := HU.out; omega
          case rel => exact ⟨u + 1, s', by rw [HST.out]; rfl, by rw [HST.out, show ((b + (u + 1) : Nat) : Int) = (t : Int) + 1 by have := HU2.out; omega], by have := HU.out; omega, ⟨by omega⟩, ⟨by rw [HST.out]; exact HS.out⟩⟩
      · have HE := Aside0.mk (pack_skip (b := b) HL.out (a := j) (d := N - j) (by omega) (fun k k1 k2 => by rw [← (HR.out k k1).1]; exact h5 k k1 (by omega)))
        rw [show j + (N - j) = N by omega] at HE
        have q1 : ¬ (t : Int) < (b : Int) + (N : Int) := by omega
        have d1 : decide ((t : Int) < (b : Int) + (N : Int)) = false := decide_eq_false q1
        clear e1 h2 h5
        go_wp2
        go_ret2
        exact ⟨by rw [HE.out]; rfl, s, by rw [HE.out]; exact HS.out⟩
/-- Left, where there is no such window. -/
theorem left_no (hI : Is w p sb ob wb n g) {a k : Int} (hw : winB n a k = false) (tv : Value) (htv : tv = .nilFunc ∨ ∃ ft fc, tv = .func (.func ft) #[] fc) : Calls Tryd.prog 24 #[.pointer (some ⟨p, 0, none⟩), .int .i64 a, .int .i64 k, tv] w fun e w' => e = .returned (.tuple #[.int .i64 0, .int .i64 10]) ∧ w = w' := by
  obtain ⟨vs, hs⟩ := hI
  have C := Aside0.mk (check_no hs hw)
  clear hs hw
  rcases htv with rfl | ⟨ft, fc, rfl⟩
  · go_enter Tryd.func24, Tryd.ntmps24
    go_wp2_with fail
    refine C.out.mono ?_
    rintro e w1 ⟨rfl, rfl⟩
    go_wp2
    go_ret2
    exact ⟨rfl, rfl⟩
  · go_enter Tryd.func24, Tryd.ntmps24
    go_wp2_with fail
    refine C.out.mono ?_
    rintro e w1 ⟨rfl, rfl⟩
    go_wp2
    go_ret2
    exact ⟨rfl, rfl⟩
theorem even_no (hI : Is w p sb ob wb n g) {a k : Int} (hw : winB n a k = false) (tv : Value) (htv : tv = .nilFunc ∨ ∃ ft fc, tv = .func (.func ft) #[] fc) : Calls Tryd.prog 25 #[.pointer (some ⟨p, 0, none⟩), .int .i64 a, .int .i64 k, tv] w fun e w' => e = .returned (.tuple #[.int .i64 0, .int .i64 10]) ∧ w = w' := by
  obtain ⟨vs, hs⟩ := hI
  have C := Aside0.mk (check_no hs hw)
  clear hs hw
  rcases htv with rfl | ⟨ft, fc, rfl⟩
  · go_enter Tryd.func25, Tryd.ntmps25
    go_wp2_with fail
    refine C.out.mono ?_
    rintro e w1 ⟨rfl, rfl⟩
    go_wp2
    go_ret2
    exact ⟨rfl, rfl⟩
  · go_enter Tryd.func25, Tryd.ntmps25
    go_wp2_with fail
    refine C.out.mono ?_
    rintro e w1 ⟨rfl, rfl⟩
    go_wp2
    go_ret2
    exact ⟨rfl, rfl⟩
theorem tell_val {n : Nat} {g0 : Gap} {T : σ → List Mv → List Ob} (h : Tell7 w0 n g0 tv T) : tv = .nilFunc ∨ ∃ ft fc, tv = .func (.func ft) #[] fc := by
  rcases h.kind with ⟨h, _⟩ | ⟨ft, fc, h, _⟩
  · exact .inl h
  · exact .inr ⟨ft, fc, h⟩
/-- What Left makes: the moves, and the array. -/
def leftR (n : Nat) (f k : Nat) (g : Gap) : EV := let r := packP n (8 * f) g (8 * k); ⟨r.g, r.ms⟩
theorem left_any (hTl : Tell7 w0 n g tv T) (hT : Tb w0) (hS : Sep w0 w (T s [] ++ (S1.Arr p sb ob wb n g :: L))) (hl : n ≤ g.xs.length) {f k : Nat} (hk : 8 * f + 8 * k ≤ n) (hf : f + k ≤ 512) (h1 : 1 ≤ k) :
    Calls Tryd.prog 24 #[.pointer (some ⟨p, 0, none⟩), .int .i64 (f : Int), .int .i64 (k : Int), tv] w fun e w' => e = .returned (.tuple #[.int .i64 ((leftR n f k g).ms.length : Int), .int .i64 0]) ∧ ∃ s', Sep w0 w' (T s' (leftR n f k g).ms ++ (S1.Arr p sb ob wb n (leftR n f k g).g :: L)) := by
  have HT := Aside0.mk hT
  have HTl := Aside0.mk hTl
  have HL := Aside0.mk hl
  have HK := Aside0.mk hk
  have HF := Aside0.mk hf
  have HS := Aside0.mk hS
  obtain ⟨vs, hs⟩ := HS.out.right.arr 0 rfl
  have CC := Aside0.mk (check_yes hs (a := (f : Int)) (s := (k : Int)) (decide_eq_true (by omega)))
  have CM := Aside0.mk (mover_any p tv (tell_val hTl) w)
  unfold leftR
  dsimp only
  rcases (tell_val hTl) with rfl | ⟨ft, fc, rfl⟩
  · clear hs vs hT hTl hl hk hf hS h1
    go_enter Tryd.func24, Tryd.ntmps24
    go_wp2_with fail
    refine CC.out.mono ?_
    rintro e w1 ⟨rfl, rfl⟩
    go_wp2_with fail
    refine CM.out.mono ?_
    clear CC CM
    rintro e w1 ⟨rfl, hs1⟩
    replace HS := Aside0.mk (HS.out.append hs1)
    have CP := Aside0.mk (pack_any (z := w.heap.size) (p := p) (sb := sb) (ob := ob) (wb := wb) (L := L) (s := s) HTl.out HT.out (by
      have h : Sep w0 w1 ((T s [] ++ (S1.Arr p sb ob wb n g :: L)) ++ MB w.heap.size p _ 0) := HS.out
      rw [List.append_assoc] at h
      exact h.perm (List.Perm.append_left _ (List.Perm.cons _ List.perm_append_comm))) HL.out HK.out HF.out)
    clear hs1
    go_wp2_with fail
    refine CP.out.mono ?_
    clear CP HS
    rintro e w2 ⟨rfl, s', hs2⟩
    have HS := Aside0.mk hs2
    clear hs2
    have c3 : (_ : Option Value) = some (.int .i64 ((packP n (8 * f) g (8 * k)).ms.length : Int)) := (blk_cell (HS.out.right.blk 3 rfl) 0).trans rfl
    generalize hr : packP n (8 * f) g (8 * k) = r at *
    go_wp2
    go_ret2
    refine ⟨by rw [hr]; rfl, s', ?_⟩
    rw [hr]
    have h := HS.out
    exact h.sub (List.Sublist.append (List.Sublist.refl _) (List.Sublist.cons_cons _ (List.sublist_append_right _ _)))
  · clear hs vs hT hTl hl hk hf hS h1
    go_enter Tryd.func24, Tryd.ntmps24
    go_wp2_with fail
    refine CC.out.mono ?_
    rintro e w1 ⟨rfl, rfl⟩
    go_wp2_with fail
    refine CM.out.mono ?_
    clear CC CM
    rintro e w1 ⟨rfl, hs1⟩
    replace HS := Aside0.mk (HS.out.append hs1)
    have CP := Aside0.mk (pack_any (z := w.heap.size) (p := p) (sb := sb) (ob := ob) (wb := wb) (L := L) (s := s) HTl.out HT.out (by
      have h : Sep w0 w1 ((T s [] ++ (S1.Arr p sb ob wb n g :: L)) ++ MB w.heap.size p _ 0) := HS.out
      rw [List.append_assoc] at h
      exact h.perm (List.Perm.append_left _ (List.Perm.cons _ List.perm_append_comm))) HL.out HK.out HF.out)
    clear hs1
    go_wp2_with fail
    refine CP.out.mono ?_
    clear CP HS
    rintro e w2 ⟨rfl, s', hs2⟩
    have HS := Aside0.mk hs2
    clear hs2
    have c3 : (_ : Option Value) = some (.int .i64 ((packP n (8 * f) g (8 * k)).ms.length : Int)) := (blk_cell (HS.out.right.blk 3 rfl) 0).trans rfl
    generalize hr : packP n (8 * f) g (8 * k) = r at *
    go_wp2
    go_ret2
    refine ⟨by rw [hr]; rfl, s', ?_⟩
    rw [hr]
    have h := HS.out
    exact h.sub (List.Sublist.append (List.Sublist.refl _) (List.Sublist.cons_cons _ (List.sublist_append_right _ _)))
end
end Go.Proofs.YtofkkdjbilklcaaDoor.Z2
/- Windows of an array spread: walked. -/
namespace Go.Proofs.YtofkkdjbilklcaaDoor.Z3
open Go.RowKit Go.Shelf Go.Proofs.YtofkkdjbilklcaaDoorW.PrintWords Go.Proofs.YtofkkdjbilklcaaDoorW.PrintLast Go.Proofs.YtofkkdjbilklcaaDoorW.PrintMore G1 G0 Q1 G2 G3 G4 G5 G6 G7 G8 G9 G10 S1 Y1 Y3 Y2 Z0 Z1 Z2
set_option linter.unusedVariables false
set_option linter.unusedSimpArgs false
theorem even_few {n b c : Nat} {ps : List Int} {r0 : EV} : ∀ d, (evenP n b c ps r0 d).ms.length ≤ r0.ms.length + d
  | 0 => Nat.le_refl _
  | d + 1 => by
    have := even_few (n := n) (b := b) (c := c) (ps := ps) (r0 := r0) d
    unfold evenP
    dsimp only
    split
    · omega
    · simp only [List.length_append, List.length_cons, List.length_nil]; omega
/-- The places of a spread in a window. -/
theorem plc_of {n f k c : Nat} (h1 : 1 ≤ k) (hc : c ≤ 8 * k) (hn : 8 * f + 8 * k ≤ n) : Plc n (8 * f) (8 * f + 8 * k) c (plK c k f k) := by
  obtain ⟨a1, a2⟩ := plK_rise (f := f) h1 hc k
  have hl := pl_len (n := c) f h1
  have up : ∀ i j, i < j → j < c → (plK c k f k).getD i 0 < (plK c k f k).getD j 0 := fun i j hij hj => by
    rw [List.getD_eq_getElem?_getD, List.getD_eq_getElem?_getD, List.getElem?_eq_getElem (show i < _ by omega), List.getElem?_eq_getElem (show j < _ by omega)]
    exact List.pairwise_iff_getElem.1 a1 i j (by omega) (by omega) hij
  have bd : ∀ i, i < c → 8 * (f : Int) ≤ (plK c k f k).getD i 0 ∧ (plK c k f k).getD i 0 < 8 * ((f : Int) + k) := fun i hi => a2 _ (getD_mem (by omega))
  have lo : ∀ i, i < c → ((8 * f + i : Nat) : Int) ≤ (plK c k f k).getD i 0 := by
    intro i
    induction i with
    | zero => intro h; have := bd 0 h; omega
    | succ i ih => intro h; have := ih (by omega); have := up i (i + 1) (by omega) h; omega
  exact ⟨hl, lo, fun i hi => by have := bd i hi; omega, up, hn⟩
theorem pack_win {n b N : Nat} {g : Gap} {r : PK} (h : PkInv n b g N r) (hl : n ≤ g.xs.length) : EvInv n b (b + N) r.c g r.g ([] : List Int) 0 ⟨r.g, r.ms⟩ := by
  refine ⟨h.run, by show n ≤ r.g.xs.length; rw [h.len]; exact hl, fun k k1 k2 => ?_, fun k _ => ⟨rfl, rfl⟩⟩
  have e : k = b + (k - b) := by omega
  constructor
  · intro ho
    by_cases hc : k - b < r.c
    · exact .inl (by omega)
    · have := h.free (k - b) (by omega) (by omega)
      rw [← e] at this
      rw [this] at ho
      cases ho
  · rintro (hc | ⟨t, t1, t2, _⟩)
    · have := h.packed (k - b) (by omega)
      rw [← e] at this
      exact this
    · omega
theorem ev_start {n b e c : Nat} {g0 gp : Gap} {ps qs : List Int} {r : EV} (h : EvInv n b e c g0 gp ps 0 r) : EvInv n b e c g0 gp qs 0 r :=
  ⟨h.run, h.len, fun k k1 k2 => by
    rw [h.win k k1 k2]
    constructor
    · rintro (h | ⟨t, t1, t2, _⟩)
      · exact .inl h
      · omega
    · rintro (h | ⟨t, t1, t2, _⟩)
      · exact .inl h
      · omega, h.out⟩
/-- What Even makes: the moves, and the array. -/
def evenR (n f k : Nat) (g : Gap) : EV := let r := packP n (8 * f) g (8 * k); evenP n (8 * f) r.c (plK r.c k f k) ⟨r.g, r.ms⟩ r.c
section
variable {σ : Type} {T : σ → List Mv → List Ob} {w0 w : World} {n p sb ob wb z : Nat} {g : Gap} {tv : Value} {s : σ} {L : List Ob}
set_option maxHeartbeats 4000000 in
theorem even_any (hTl : Tell7 w0 n g tv T) (hT : Tb w0) (hS : Sep w0 w (T s [] ++ (S1.Arr p sb ob wb n g :: L))) (hl : n ≤ g.xs.length) {f k : Nat} (hk : 8 * f + 8 * k ≤ n) (hf : f + k ≤ 512) (h1 : 1 ≤ k) :
    Calls Tryd.prog 25 #[.pointer (some ⟨p, 0, none⟩), .int .i64 (f : Int), .int .i64 (k : Int), tv] w fun e w' => e = .returned (.tuple #[.int .i64 ((evenR n f k g).ms.length : Int), .int .i64 0]) ∧ ∃ s', Sep w0 w' (T s' (evenR n f k g).ms ++ (S1.Arr p sb ob wb n (evenR n f k g).g :: L)) := by
  have HT := Aside0.mk hT
  have HTl := Aside0.mk hTl
  have HL := Aside0.mk hl
  have HK := Aside0.mk hk
  have HF := Aside0.mk hf
  have HS := Aside0.mk hS
  obtain ⟨vs, hs⟩ := HS.out.right.arr 0 rfl
  have CC := Aside0.mk (check_yes hs (a := (f : Int)) (s := (k : Int)) (decide_eq_true (by omega)))
  have CM := Aside0.mk (mover_any p tv (tell_val hTl) w)
  rcases tell_val hTl with rfl | ⟨ft, fc, rfl⟩
  · clear hs vs hT hTl hl hk hf hS
    go_enter Tryd.func25, Tryd.ntmps25
    go_wp2_with fail
    refine CC.out.mono ?_
    rintro e w1 ⟨rfl, rfl⟩
    go_wp2_with fail
    refine CM.out.mono ?_
    clear CC CM
    rintro e w1 ⟨rfl, hs1⟩
    replace HS := Aside0.mk (HS.out.append hs1)
    have CP := Aside0.mk (pack_any (z := w.heap.size) (p := p) (sb := sb) (ob := ob) (wb := wb) (L := L) (s := s) HTl.out HT.out (by
      have h : Sep w0 w1 ((T s [] ++ (S1.Arr p sb ob wb n g :: L)) ++ MB w.heap.size p _ 0) := HS.out
      rw [List.append_assoc] at h
      exact h.perm (List.Perm.append_left _ (List.Perm.cons _ List.perm_append_comm))) HL.out HK.out HF.out)
    clear hs1
    go_wp2_with fail
    refine CP.out.mono ?_
    clear CP HS
    rintro e w2 ⟨rfl, s2, hs2⟩
    have HS := Aside0.mk hs2
    clear hs2
    have hinv := pack_inv (b := 8 * f) HL.out (8 * k) HK.out
    have hc := hinv.le
    have hfew := hinv.few
    have HEV := Aside0.mk (ev_start (qs := plK (packP n (8 * f) g (8 * k)).c k f k) (pack_win hinv HL.out))
    have HPL := Aside0.mk (plc_of (n := n) (f := f) h1 hc HK.out)
    clear hinv
    generalize hr : packP n (8 * f) g (8 * k) = r at *
    have HR := Aside0.mk hr
    clear hr
    obtain ⟨rg, c, ms⟩ := r
    dsimp only at HS HEV HPL hc hfew HR ⊢
    have CS := Aside0.mk (spl_any (n := c) (s := k) (f := f) h1 hc HF.out w2)
    have hc2 : c ≤ 4096 := by have := HF.out; omega
    obtain ⟨b, hb⟩ : ∃ b, 8 * f = b := ⟨_, rfl⟩
    have eb : 8 * (f : Int) = (b : Int) := by omega
    have hbn : b + 8 * k ≤ 4096 := by have := HF.out; omega
    rw [hb] at HEV HPL HR
    have HB := Aside0.mk hb
    have HCC := Aside0.mk hc
    have HFW := Aside0.mk hfew
    have H1 := Aside0.mk h1
    clear hb hc hfew h1
    go_wp2_with fail
    refine CS.out.mono ?_
    clear CS
    rintro e w3 ⟨A, cp, rfl, g1, g2, g3, hb3⟩
    have HS3 : Aside0 (Sep w0 w3 ((T s2 ms ++ (S1.Arr p sb ob wb n rg :: MB w.heap.size p _ ms.length ++ L)) ++ [S1.Own (.slice A c cp) (plK c k f k)])) := ⟨HS.out.append (own_conv hb3 g3 (by rw [HPL.out.len]))⟩
    clear HS g1 g2 g3 hb3
    generalize hps : plK c k f k = ps at *
    have HER : Aside0 (evenR n f k g = evenP n b c ps ⟨rg, ms⟩ c) := ⟨by
      unfold evenR
      rw [HB.out, HR.out]
      dsimp only
      rw [hps]⟩
    clear hps
    go_wp2
    go_loopg [16] (c + 1) (fun kq v16 W => ∃ (d : Nat) (s : σ), v16 = .int .i64 ((c : Int) - 1 - (d : Int)) ∧ d ≤ c ∧ Aside0 (c + 1 - d ≤ kq) ∧ Aside0 (Sep w0 W (T s (evenP n b c ps ⟨rg, ms⟩ d).ms ++ (S1.Arr p sb ob wb n (evenP n b c ps ⟨rg, ms⟩ d).g :: MB w.heap.size p _ (evenP n b c ps ⟨rg, ms⟩ d).ms.length ++ (L ++ [S1.Own (.slice A c cp) ps])))))
    case atStart =>
      refine ⟨0, s2, by go_num, by omega, ⟨by omega⟩, ⟨?_⟩⟩
      have h := HS3.out
      simp only [List.append_assoc, List.cons_append] at h ⊢
      exact h
    case round =>
      clear HS3
      obtain ⟨d, s, rfl, hd, HQ, HS⟩ := hrel
      by_cases hlt : d < c
      · obtain ⟨iN, hiN⟩ : ∃ iN, c - 1 - d = iN := ⟨_, rfl⟩
        have ei : (c : Int) - 1 - (d : Int) = (iN : Int) := by omega
        rw [ei]
        have inv := even_inv (r0 := ⟨rg, ms⟩) HPL.out HEV.out d hd
        obtain ⟨q, hq, hq1, hq2⟩ := HPL.out.nat (show iN < c by omega)
        have hst : evenP n b c ps ⟨rg, ms⟩ (d + 1) = (if ((b + iN : Nat) : Int) = (q : Int) then evenP n b c ps ⟨rg, ms⟩ d else ⟨moveS n (evenP n b c ps ⟨rg, ms⟩ d).g ((b + iN : Nat) : Int) (q : Int), (evenP n b c ps ⟨rg, ms⟩ d).ms ++ [⟨(evenP n b c ps ⟨rg, ms⟩ d).g.xs.getD (b + iN) 0, ((b + iN : Nat) : Int), (q : Int)⟩]⟩) := by rw [← hq, ← hiN]; rfl
        have few := even_few (n := n) (b := b) (c := c) (ps := ps) (r0 := ⟨rg, ms⟩) d
        have few2 : (evenP n b c ps ⟨rg, ms⟩ d).ms.length ≤ 10000 := by have := HFW.out; dsimp only at few; omega
        have hrow : Kd.C (Kd.int .i64) wr A c ps := by
          have h := HS.out.ok (S1.Own (.slice A c cp) ps) (by simp)
          obtain ⟨A', c', e', _, h2⟩ := G9.own_C h
          injection e' with e1 e2 e3
          subst e1
          rw [HPL.out.len] at h2
          exact h2
        obtain ⟨ad, e, hx⟩ := Kd.at_int hrow (iN : Int) (by omega) (by omega)
        cases e
        rw [Int.toNat_natCast, show rd ps (iN : Int) = ps.getD iN 0 from rfl, hq] at hx
        have hi4 : (iN : Int) ≤ 4096 := by omega
        have hlti : (iN : Int) < (c : Int) := by omega
        have HI := Aside0.mk (And.intro ei (And.intro hd hlt))
        by_cases hne : b + iN = q
        · rw [if_pos (by omega)] at hst
          have HST := Aside0.mk hst
          have CM := Aside0.mk (mover1_same (q : Int) (.pointer (some ⟨w.heap.size, 0, none⟩)) (.pointer (some ⟨w.heap.size + 1 + 1, 0, none⟩)) (.pointer (some ⟨w.heap.size + 1, 0, none⟩)) wr)
          have eT : (b : Int) + (iN : Int) = (q : Int) := by omega
          clear hst hrow inv hq hq1 hq2 few few2 hiN ei hne hlt hd
          go_wp2_with fail
          refine CM.out.mono ?_
          clear CM
          rintro e w5 ⟨rfl, rfl⟩
          go_wp2
          go_roundg (c - d)
          case measure => have := HQ.out; have := HI.out; omega
          case rel => exact ⟨d + 1, s, by congr 1; have := HI.out; omega, by have := HI.out; omega, ⟨by have := HI.out; omega⟩, ⟨by rw [HST.out]; exact HS.out⟩⟩
        · rw [if_neg (by omega)] at hst
          have HST := Aside0.mk hst
          have hv := even_valid HPL.out inv hlt (by rw [hiN]; exact hq) (by rw [hiN]; exact hne)
          rw [hiN] at hv
          have CM := mover1_move HTl.out HS.out inv.run hv (by omega)
          rw [Int.natCast_add] at CM
          rw [Int.natCast_add] at HST
          have CM := Aside0.mk CM
          clear hst hrow inv hq hq1 hq2 few few2 hiN ei hne hlt hd hv HS
          go_wp2_with fail
          refine CM.out.mono ?_
          clear CM
          rintro e w5 ⟨rfl, s', h6⟩
          have HS := Aside0.mk h6
          clear h6
          go_wp2
          go_roundg (c - d)
          case measure => have := HQ.out; have := HI.out; omega
          case rel => exact ⟨d + 1, s', by congr 1; have := HI.out; omega, by have := HI.out; omega, ⟨by have := HI.out; omega⟩, ⟨by rw [HST.out]; exact HS.out⟩⟩
      · obtain rfl : d = c := by omega
        rw [show (d : Int) - 1 - (d : Int) = -1 by omega]
        have c3 : (_ : Option Value) = some (.int .i64 ((evenP n b d ps ⟨rg, ms⟩ d).ms.length : Int)) := (blk_cell (HS.out.right.blk 3 rfl) 0).trans rfl
        go_wp2
        go_ret2
        refine ⟨by rw [HER.out]; rfl, s, ?_⟩
        rw [HER.out]
        exact HS.out.sub (List.Sublist.append (List.Sublist.refl _) (List.Sublist.cons_cons _ ((List.sublist_append_left _ _).trans (List.sublist_append_right _ _))))
  · clear hs vs hT hTl hl hk hf hS
    go_enter Tryd.func25, Tryd.ntmps25
    go_wp2_with fail
    refine CC.out.mono ?_
    rintro e w1 ⟨rfl, rfl⟩
    go_wp2_with fail
    refine CM.out.mono ?_
    clear CC CM
    rintro e w1 ⟨rfl, hs1⟩
    replace HS := Aside0.mk (HS.out.append hs1)
    have CP := Aside0.mk (pack_any (z := w.heap.size) (p := p) (sb := sb) (ob := ob) (wb := wb) (L := L) (s := s) HTl.out HT.out (by
      have h : Sep w0 w1 ((T s [] ++ (S1.Arr p sb ob wb n g :: L)) ++ MB w.heap.size p _ 0) := HS.out
      rw [List.append_assoc] at h
      exact h.perm (List.Perm.append_left _ (List.Perm.cons _ List.perm_append_comm))) HL.out HK.out HF.out)
    clear hs1
    go_wp2_with fail
    refine CP.out.mono ?_
    clear CP HS
    rintro e w2 ⟨rfl, s2, hs2⟩
    have HS := Aside0.mk hs2
    clear hs2
    have hinv := pack_inv (b := 8 * f) HL.out (8 * k) HK.out
    have hc := hinv.le
    have hfew := hinv.few
    have HEV := Aside0.mk (ev_start (qs := plK (packP n (8 * f) g (8 * k)).c k f k) (pack_win hinv HL.out))
    have HPL := Aside0.mk (plc_of (n := n) (f := f) h1 hc HK.out)
    clear hinv
    generalize hr : packP n (8 * f) g (8 * k) = r at *
    have HR := Aside0.mk hr
    clear hr
    obtain ⟨rg, c, ms⟩ := r
    dsimp only at HS HEV HPL hc hfew HR ⊢
    have CS := Aside0.mk (spl_any (n := c) (s := k) (f := f) h1 hc HF.out w2)
    have hc2 : c ≤ 4096 := by have := HF.out; omega
    obtain ⟨b, hb⟩ : ∃ b, 8 * f = b := ⟨_, rfl⟩
    have eb : 8 * (f : Int) = (b : Int) := by omega
    have hbn : b + 8 * k ≤ 4096 := by have := HF.out; omega
    rw [hb] at HEV HPL HR
    have HB := Aside0.mk hb
    have HCC := Aside0.mk hc
    have HFW := Aside0.mk hfew
    have H1 := Aside0.mk h1
    clear hb hc hfew h1
    go_wp2_with fail
    refine CS.out.mono ?_
    clear CS
    rintro e w3 ⟨A, cp, rfl, g1, g2, g3, hb3⟩
    have HS3 : Aside0 (Sep w0 w3 ((T s2 ms ++ (S1.Arr p sb ob wb n rg :: MB w.heap.size p _ ms.length ++ L)) ++ [S1.Own (.slice A c cp) (plK c k f k)])) := ⟨HS.out.append (own_conv hb3 g3 (by rw [HPL.out.len]))⟩
    clear HS g1 g2 g3 hb3
    generalize hps : plK c k f k = ps at *
    have HER : Aside0 (evenR n f k g = evenP n b c ps ⟨rg, ms⟩ c) := ⟨by
      unfold evenR
      rw [HB.out, HR.out]
      dsimp only
      rw [hps]⟩
    clear hps
    go_wp2
    go_loopg [16] (c + 1) (fun kq v16 W => ∃ (d : Nat) (s : σ), v16 = .int .i64 ((c : Int) - 1 - (d : Int)) ∧ d ≤ c ∧ Aside0 (c + 1 - d ≤ kq) ∧ Aside0 (Sep w0 W (T s (evenP n b c ps ⟨rg, ms⟩ d).ms ++ (S1.Arr p sb ob wb n (evenP n b c ps ⟨rg, ms⟩ d).g :: MB w.heap.size p _ (evenP n b c ps ⟨rg, ms⟩ d).ms.length ++ (L ++ [S1.Own (.slice A c cp) ps])))))
    case atStart =>
      refine ⟨0, s2, by go_num, by omega, ⟨by omega⟩, ⟨?_⟩⟩
      have h := HS3.out
      simp only [List.append_assoc, List.cons_append] at h ⊢
      exact h
    case round =>
      clear HS3
      obtain ⟨d, s, rfl, hd, HQ, HS⟩ := hrel
      by_cases hlt : d < c
      · obtain ⟨iN, hiN⟩ : ∃ iN, c - 1 - d = iN := ⟨_, rfl⟩
        have ei : (c : Int) - 1 - (d : Int) = (iN : Int) := by omega
        rw [ei]
        have inv := even_inv (r0 := ⟨rg, ms⟩) HPL.out HEV.out d hd
        obtain ⟨q, hq, hq1, hq2⟩ := HPL.out.nat (show iN < c by omega)
        have hst : evenP n b c ps ⟨rg, ms⟩ (d + 1) = (if ((b + iN : Nat) : Int) = (q : Int) then evenP n b c ps ⟨rg, ms⟩ d else ⟨moveS n (evenP n b c ps ⟨rg, ms⟩ d).g ((b + iN : Nat) : Int) (q : Int), (evenP n b c ps ⟨rg, ms⟩ d).ms ++ [⟨(evenP n b c ps ⟨rg, ms⟩ d).g.xs.getD (b + iN) 0, ((b + iN : Nat) : Int), (q : Int)⟩]⟩) := by rw [← hq, ← hiN]; rfl
        have few := even_few (n := n) (b := b) (c := c) (ps := ps) (r0 := ⟨rg, ms⟩) d
        have few2 : (evenP n b c ps ⟨rg, ms⟩ d).ms.length ≤ 10000 := by have := HFW.out; dsimp only at few; omega
        have hrow : Kd.C (Kd.int .i64) wr A c ps := by
          have h := HS.out.ok (S1.Own (.slice A c cp) ps) (by simp)
          obtain ⟨A', c', e', _, h2⟩ := G9.own_C h
          injection e' with e1 e2 e3
          subst e1
          rw [HPL.out.len] at h2
          exact h2
        obtain ⟨ad, e, hx⟩ := Kd.at_int hrow (iN : Int) (by omega) (by omega)
        cases e
        rw [Int.toNat_natCast, show rd ps (iN : Int) = ps.getD iN 0 from rfl, hq] at hx
        have hi4 : (iN : Int) ≤ 4096 := by omega
        have hlti : (iN : Int) < (c : Int) := by omega
        have HI := Aside0.mk (And.intro ei (And.intro hd hlt))
        by_cases hne : b + iN = q
        · rw [if_pos (by omega)] at hst
          have HST := Aside0.mk hst
          have CM := Aside0.mk (mover1_same (q : Int) (.pointer (some ⟨w.heap.size, 0, none⟩)) (.pointer (some ⟨w.heap.size + 1 + 1, 0, none⟩)) (.pointer (some ⟨w.heap.size + 1, 0, none⟩)) wr)
          have eT : (b : Int) + (iN : Int) = (q : Int) := by omega
          clear hst hrow inv hq hq1 hq2 few few2 hiN ei hne hlt hd
          go_wp2_with fail
          refine CM.out.mono ?_
          clear CM
          rintro e w5 ⟨rfl, rfl⟩
          go_wp2
          go_roundg (c - d)
          case measure => have := HQ.out; have := HI.out; omega
          case rel => exact ⟨d + 1, s, by congr 1; have := HI.out; omega, by have := HI.out; omega, ⟨by have := HI.out; omega⟩, ⟨by rw [HST.out]; exact HS.out⟩⟩
        · rw [if_neg (by omega)] at hst
          have HST := Aside0.mk hst
          have hv := even_valid HPL.out inv hlt (by rw [hiN]; exact hq) (by rw [hiN]; exact hne)
          rw [hiN] at hv
          have CM := mover1_move HTl.out HS.out inv.run hv (by omega)
          rw [Int.natCast_add] at CM
          rw [Int.natCast_add] at HST
          have CM := Aside0.mk CM
          clear hst hrow inv hq hq1 hq2 few few2 hiN ei hne hlt hd hv HS
          go_wp2_with fail
          refine CM.out.mono ?_
          clear CM
          rintro e w5 ⟨rfl, s', h6⟩
          have HS := Aside0.mk h6
          clear h6
          go_wp2
          go_roundg (c - d)
          case measure => have := HQ.out; have := HI.out; omega
          case rel => exact ⟨d + 1, s', by congr 1; have := HI.out; omega, by have := HI.out; omega, ⟨by have := HI.out; omega⟩, ⟨by rw [HST.out]; exact HS.out⟩⟩
      · obtain rfl : d = c := by omega
        rw [show (d : Int) - 1 - (d : Int) = -1 by omega]
        have c3 : (_ : Option Value) = some (.int .i64 ((evenP n b d ps ⟨rg, ms⟩ d).ms.length : Int)) := (blk_cell (HS.out.right.blk 3 rfl) 0).trans rfl
        go_wp2
        go_ret2
        refine ⟨by rw [HER.out]; rfl, s, ?_⟩
        rw [HER.out]
        exact HS.out.sub (List.Sublist.append (List.Sublist.refl _) (List.Sublist.cons_cons _ ((List.sublist_append_left _ _).trans (List.sublist_append_right _ _))))
end
end Go.Proofs.YtofkkdjbilklcaaDoor.Z3
/- A slot of an array opened: walked. -/
namespace Go.Proofs.YtofkkdjbilklcaaDoor.Z4
open Go.RowKit Go.Shelf Go.Proofs.YtofkkdjbilklcaaDoorW.PrintWords Go.Proofs.YtofkkdjbilklcaaDoorW.PrintLast Go.Proofs.YtofkkdjbilklcaaDoorW.PrintMore G1 G0 Q1 G2 G3 G4 G5 G6 G7 G8 G9 G10 S1 Y1 Y3 Y2 Z0 Z1 Z2 Z3
set_option linter.unusedVariables false
set_option linter.unusedSimpArgs false
/-- The first free slot of so many, from one on. -/
def upF (f : Nat → Bool) : Nat → Nat → Option Nat
  | _, 0 => none
  | a, d + 1 => if f a then upF f (a + 1) d else some a
/-- The last free slot of so many, from one on. -/
def downF (f : Nat → Bool) (b : Nat) : Nat → Option Nat
  | 0 => none
  | d + 1 => if f (b + d) then downF f b d else some (b + d)
theorem upF_some {f : Nat → Bool} : ∀ {d a i : Nat}, upF f a d = some i → a ≤ i ∧ i < a + d ∧ f i = false ∧ ∀ k, a ≤ k → k < i → f k = true
  | 0, a, i, h => by cases h
  | d + 1, a, i, h => by
    unfold upF at h
    by_cases hf : f a = true
    · rw [if_pos hf] at h
      obtain ⟨h1, h2, h3, h4⟩ := upF_some h
      exact ⟨by omega, by omega, h3, fun k k1 k2 => by
        by_cases e : k = a
        · rw [e]; exact hf
        · exact h4 k (by omega) k2⟩
    · rw [if_neg hf] at h
      cases h
      exact ⟨Nat.le_refl _, by omega, by simpa using hf, fun k k1 k2 => by omega⟩
theorem upF_none {f : Nat → Bool} : ∀ {d a : Nat}, upF f a d = none → ∀ k, a ≤ k → k < a + d → f k = true
  | 0, a, h, k, k1, k2 => by omega
  | d + 1, a, h, k, k1, k2 => by
    unfold upF at h
    by_cases hf : f a = true
    · rw [if_pos hf] at h
      by_cases e : k = a
      · rw [e]; exact hf
      · exact upF_none h k (by omega) (by omega)
    · rw [if_neg hf] at h
      cases h
theorem downF_some {f : Nat → Bool} {b : Nat} : ∀ {d i : Nat}, downF f b d = some i → b ≤ i ∧ i < b + d ∧ f i = false ∧ ∀ k, i < k → k < b + d → f k = true
  | 0, i, h => by cases h
  | d + 1, i, h => by
    unfold downF at h
    by_cases hf : f (b + d) = true
    · rw [if_pos hf] at h
      obtain ⟨h1, h2, h3, h4⟩ := downF_some h
      exact ⟨h1, by omega, h3, fun k k1 k2 => by
        by_cases e : k = b + d
        · rw [e]; exact hf
        · exact h4 k k1 (by omega)⟩
    · rw [if_neg hf] at h
      cases h
      exact ⟨by omega, by omega, by simpa using hf, fun k k1 k2 => by omega⟩
theorem downF_none {f : Nat → Bool} {b : Nat} : ∀ {d : Nat}, downF f b d = none → ∀ k, b ≤ k → k < b + d → f k = true
  | 0, h, k, k1, k2 => by omega
  | d + 1, h, k, k1, k2 => by
    unfold downF at h
    by_cases hf : f (b + d) = true
    · rw [if_pos hf] at h
      by_cases e : k = b + d
      · rw [e]; exact hf
      · exact downF_none h k k1 (by omega)
    · rw [if_neg hf] at h
      cases h
structure OP where
  k : Int
  e : Int
  r : EV
/-- What Open makes behind a slot next of which all is told: which slot, the errno, the moves, the array. -/
def openN (n b next : Nat) (bh : Int) (g : Gap) : OP :=
  match upF g.on next (b + 8 - next) with
  | some i => ⟨(next : Int), 0, shiftR n i ⟨g, []⟩ (i - next)⟩
  | none =>
    match downF g.on b (next - b) with
    | some i => ⟨bh, 0, shiftL n i ⟨g, []⟩ (bh.toNat - i)⟩
    | none => ⟨0, 16, ⟨g, []⟩⟩
def nextN (b : Nat) (bh : Int) : Nat := if bh = -1 then b else bh.toNat + 1
def openR (n sg : Nat) (bh : Int) (g : Gap) : OP :=
  if bh ≠ -1 ∧ (bh < 8 * (sg : Int) ∨ 8 * (sg : Int) + 8 ≤ bh) then ⟨0, 1, ⟨g, []⟩⟩
  else if bh ≠ -1 ∧ g.on bh.toNat = false then ⟨0, 14, ⟨g, []⟩⟩
  else openN n (8 * sg) (nextN (8 * sg) bh) bh g
theorem cell_in {w0 w : World} {l : List Ob} {b t : Nat} {v : Value} (h : Sep w0 w l) (hm : S1.Blk b #[v] t ∈ l) : w.cell? ⟨b, 0, none⟩ = some v := (blk_cell (h.ok _ hm) 0).trans rfl
section
variable {σ : Type} {T : σ → List Mv → List Ob} {w0 w : World} {n p sb ob wb z : Nat} {g : Gap} {tv : Value} {s : σ} {L : List Ob}
theorem free_any (hI : Is w p sb ob wb n g) (hc : w.cell? ⟨z, 0, none⟩ = some (.pointer (some ⟨p, 0, none⟩))) {i : Nat} (hi : i < n) : Calls Tryd.prog 67 #[.int .i64 (i : Int), .pointer (some ⟨z, 0, none⟩)] w fun e w' => e = .returned (.bool (!g.on i)) ∧ w = w' := by
  obtain ⟨vs, hs⟩ := hI
  cases hf : g.on i with
  | true =>
    have C := Aside0.mk (at_on hs hi hf)
    clear hs hf
    go_enter Tryd.func67, Tryd.ntmps67
    go_wp2_with fail
    refine C.out.mono ?_
    rintro e w1 ⟨rfl, rfl⟩
    go_wp2
    go_ret
    exact ⟨rfl, rfl⟩
  | false =>
    have C := Aside0.mk (at_off hs (i := (i : Int)) (.inr (.inr (by rw [Int.toNat_natCast]; exact hf))))
    clear hs hf
    go_enter Tryd.func67, Tryd.ntmps67
    go_wp2_with fail
    refine C.out.mono ?_
    rintro e w1 ⟨rfl, rfl⟩
    go_wp2
    go_ret
    exact ⟨rfl, rfl⟩
theorem open_no (hS : Sep w0 w (T s [] ++ (S1.Arr p sb ob wb n g :: L))) {a : Int} (hw : winB n a 1 = false) (bh : Int) (htv : tv = .nilFunc ∨ ∃ ft fc, tv = .func (.func ft) #[] fc) : Calls Tryd.prog 17 #[.pointer (some ⟨p, 0, none⟩), .int .i64 a, .int .i64 bh, tv] w fun e w' => e = .returned (.tuple #[.int .i64 0, .int .i64 10]) ∧ ∃ s', Below w0.heap.size w0 w' ∧ Sep w0 w' (T s' [] ++ (S1.Arr p sb ob wb n g :: L)) := by
  have HS := Aside0.mk (hS.new_blk #[.pointer (some ⟨p, 0, none⟩)] 25)
  have HI : Aside0 (Is (w.alloc (.cells #[.pointer (some ⟨p, 0, none⟩)] 25)) p sb ob wb n g) := ⟨HS.out.left.right.arr 0 rfl⟩
  have c1 : (_ : Option Value) = some (.pointer (some ⟨p, 0, none⟩)) := cell_in HS.out (List.mem_append_right _ (List.mem_singleton.2 rfl))
  obtain ⟨vs, hs⟩ := HI.out
  have CC := Aside0.mk (check_no hs hw)
  clear hs vs hw hS
  rcases htv with rfl | ⟨ft, fc, rfl⟩
  · go_enter Tryd.func17, Tryd.ntmps17
    go_wp2_with fail
    refine CC.out.mono ?_
    rintro e w1 ⟨rfl, rfl⟩
    go_wp2
    go_ret2
    exact ⟨rfl, s, ⟨HS.out.below, HS.out.left⟩⟩
  · go_enter Tryd.func17, Tryd.ntmps17
    go_wp2_with fail
    refine CC.out.mono ?_
    rintro e w1 ⟨rfl, rfl⟩
    go_wp2
    go_ret2
    exact ⟨rfl, s, ⟨HS.out.below, HS.out.left⟩⟩
theorem open_arg (hS : Sep w0 w (T s [] ++ (S1.Arr p sb ob wb n g :: L))) {sg : Nat} (hw : winB n (sg : Int) 1 = true) {bh : Int} (hb : bh ≠ -1 ∧ (bh < 8 * (sg : Int) ∨ 8 * (sg : Int) + 8 ≤ bh)) (htv : tv = .nilFunc ∨ ∃ ft fc, tv = .func (.func ft) #[] fc) :
    Calls Tryd.prog 17 #[.pointer (some ⟨p, 0, none⟩), .int .i64 (sg : Int), .int .i64 bh, tv] w fun e w' => e = .returned (.tuple #[.int .i64 (openR n sg bh g).k, .int .i64 (openR n sg bh g).e]) ∧ ∃ s', Sep w0 w' (T s' (openR n sg bh g).r.ms ++ (S1.Arr p sb ob wb n (openR n sg bh g).r.g :: L)) := by
  have HE : Aside0 (openR n sg bh g = ⟨0, 1, ⟨g, []⟩⟩) := ⟨by unfold openR; rw [if_pos hb]⟩
  have HS := Aside0.mk (hS.new_blk #[.pointer (some ⟨p, 0, none⟩)] 25)
  have HI : Aside0 (Is (w.alloc (.cells #[.pointer (some ⟨p, 0, none⟩)] 25)) p sb ob wb n g) := ⟨HS.out.left.right.arr 0 rfl⟩
  have c1 : (_ : Option Value) = some (.pointer (some ⟨p, 0, none⟩)) := cell_in HS.out (List.mem_append_right _ (List.mem_singleton.2 rfl))
  obtain ⟨vs, hs⟩ := HI.out
  have hsg : (sg : Int) ≤ 512 := by have := of_decide_eq_true hw; omega
  have hsg0 : (0 : Int) ≤ (sg : Int) := by omega
  have CC := Aside0.mk (check_yes hs hw)
  have q0 : (bh == -1) = false := beq_eq_false_iff_ne.2 hb.1
  by_cases h1 : bh < 8 * (sg : Int)
  · have d1 : decide (bh < 8 * (sg : Int)) = true := decide_eq_true h1
    clear hs vs hw hS hb
    rcases htv with rfl | ⟨ft, fc, rfl⟩
    · go_enter Tryd.func17, Tryd.ntmps17
      go_wp2_with fail
      refine CC.out.mono ?_
      rintro e w1 ⟨rfl, rfl⟩
      go_wp2
      go_ret2
      refine ⟨by rw [HE.out]; rfl, s, ?_⟩
      rw [HE.out]
      exact HS.out.left
    · go_enter Tryd.func17, Tryd.ntmps17
      go_wp2_with fail
      refine CC.out.mono ?_
      rintro e w1 ⟨rfl, rfl⟩
      go_wp2
      go_ret2
      refine ⟨by rw [HE.out]; rfl, s, ?_⟩
      rw [HE.out]
      exact HS.out.left
  · have d1 : decide (bh < 8 * (sg : Int)) = false := decide_eq_false h1
    have h2 : 8 * (sg : Int) + 8 ≤ bh := by have := hb.2; omega
    have d2 : decide (8 * (sg : Int) + 8 ≤ bh) = true := decide_eq_true h2
    clear hs vs hw hS hb
    rcases htv with rfl | ⟨ft, fc, rfl⟩
    · go_enter Tryd.func17, Tryd.ntmps17
      go_wp2_with fail
      refine CC.out.mono ?_
      rintro e w1 ⟨rfl, rfl⟩
      go_wp2
      go_ret2
      refine ⟨by rw [HE.out]; rfl, s, ?_⟩
      rw [HE.out]
      exact HS.out.left
    · go_enter Tryd.func17, Tryd.ntmps17
      go_wp2_with fail
      refine CC.out.mono ?_
      rintro e w1 ⟨rfl, rfl⟩
      go_wp2
      go_ret2
      refine ⟨by rw [HE.out]; rfl, s, ?_⟩
      rw [HE.out]
      exact HS.out.left
theorem open_none (hS : Sep w0 w (T s [] ++ (S1.Arr p sb ob wb n g :: L))) {sg : Nat} (hw : winB n (sg : Int) 1 = true) {b' : Nat} (h1 : 8 * sg ≤ b') (h2 : b' < 8 * sg + 8) (hf : g.on b' = false) (htv : tv = .nilFunc ∨ ∃ ft fc, tv = .func (.func ft) #[] fc) :
    Calls Tryd.prog 17 #[.pointer (some ⟨p, 0, none⟩), .int .i64 (sg : Int), .int .i64 (b' : Int), tv] w fun e w' => e = .returned (.tuple #[.int .i64 (openR n sg (b' : Int) g).k, .int .i64 (openR n sg (b' : Int) g).e]) ∧ ∃ s', Sep w0 w' (T s' (openR n sg (b' : Int) g).r.ms ++ (S1.Arr p sb ob wb n (openR n sg (b' : Int) g).r.g :: L)) := by
  have HE : Aside0 (openR n sg (b' : Int) g = ⟨0, 14, ⟨g, []⟩⟩) := ⟨by unfold openR; rw [if_neg (by omega), if_pos ⟨by omega, by rw [Int.toNat_natCast]; exact hf⟩]⟩
  have HS := Aside0.mk (hS.new_blk #[.pointer (some ⟨p, 0, none⟩)] 25)
  have HI : Aside0 (Is (w.alloc (.cells #[.pointer (some ⟨p, 0, none⟩)] 25)) p sb ob wb n g) := ⟨HS.out.left.right.arr 0 rfl⟩
  have c1 : (_ : Option Value) = some (.pointer (some ⟨p, 0, none⟩)) := cell_in HS.out (List.mem_append_right _ (List.mem_singleton.2 rfl))
  obtain ⟨vs, hs⟩ := HI.out
  have hsg : (sg : Int) ≤ 512 := by have := of_decide_eq_true hw; omega
  have hsg0 : (0 : Int) ≤ (sg : Int) := by omega
  have CC := Aside0.mk (check_yes hs hw)
  have CA := Aside0.mk (at_off hs (i := (b' : Int)) (.inr (.inr (by rw [Int.toNat_natCast]; exact hf))))
  have q0 : ((b' : Int) == -1) = false := beq_eq_false_iff_ne.2 (by omega)
  have q1 : ¬ (b' : Int) < 8 * (sg : Int) := by omega
  have q2 : ¬ 8 * (sg : Int) + 8 ≤ (b' : Int) := by omega
  have d1 : decide ((b' : Int) < 8 * (sg : Int)) = false := decide_eq_false q1
  have d2 : decide (8 * (sg : Int) + 8 ≤ (b' : Int)) = false := decide_eq_false q2
  clear hs vs hw hS hf h1 h2
  rcases htv with rfl | ⟨ft, fc, rfl⟩
  · go_enter Tryd.func17, Tryd.ntmps17
    go_wp2_with fail
    refine CC.out.mono ?_
    rintro e w1 ⟨rfl, rfl⟩
    go_wp2_with fail
    refine CA.out.mono ?_
    rintro e w1 ⟨rfl, rfl⟩
    go_wp2
    go_ret2
    refine ⟨by rw [HE.out]; rfl, s, ?_⟩
    rw [HE.out]
    exact HS.out.left
  · go_enter Tryd.func17, Tryd.ntmps17
    go_wp2_with fail
    refine CC.out.mono ?_
    rintro e w1 ⟨rfl, rfl⟩
    go_wp2_with fail
    refine CA.out.mono ?_
    rintro e w1 ⟨rfl, rfl⟩
    go_wp2
    go_ret2
    refine ⟨by rw [HE.out]; rfl, s, ?_⟩
    rw [HE.out]
    exact HS.out.left
theorem shiftR_few {n i : Nat} {g : Gap} : ∀ d, (shiftR n i ⟨g, []⟩ d).ms.length = d
  | 0 => rfl
  | d + 1 => by
    have := shiftR_few (n := n) (i := i) (g := g) d
    unfold shiftR
    simp only [List.length_append, List.length_cons, List.length_nil]
    omega
theorem shiftL_few {n i : Nat} {g : Gap} : ∀ d, (shiftL n i ⟨g, []⟩ d).ms.length = d
  | 0 => rfl
  | d + 1 => by
    have := shiftL_few (n := n) (i := i) (g := g) d
    unfold shiftL
    simp only [List.length_append, List.length_cons, List.length_nil]
    omega
set_option maxHeartbeats 4000000 in
theorem open_first (hTl : Tell7 w0 n g tv T) (hS : Sep w0 w (T s [] ++ (S1.Arr p sb ob wb n g :: L))) (hl : n ≤ g.xs.length) {sg : Nat} (hw : winB n (sg : Int) 1 = true) :
    Calls Tryd.prog 17 #[.pointer (some ⟨p, 0, none⟩), .int .i64 (sg : Int), .int .i64 (-1), tv] w fun e w' => e = .returned (.tuple #[.int .i64 (openR n sg (-1) g).k, .int .i64 (openR n sg (-1) g).e]) ∧ ∃ s', Sep w0 w' (T s' (openR n sg (-1) g).r.ms ++ (S1.Arr p sb ob wb n (openR n sg (-1) g).r.g :: L)) := by
  obtain ⟨b, hb⟩ : ∃ b, 8 * sg = b := ⟨_, rfl⟩
  have hw2 := of_decide_eq_true hw
  have hbn : b + 8 ≤ n := by omega
  have hb4 : b ≤ 4096 := by omega
  have eb : 8 * (sg : Int) = (b : Int) := by omega
  have HER : Aside0 (openR n sg (-1) g = openN n b b (-1) g) := ⟨by
    unfold openR nextN
    rw [if_neg (by omega), if_neg (by omega), if_pos rfl, hb]⟩
  have HTl := Aside0.mk hTl
  have HL := Aside0.mk hl
  have HS := Aside0.mk (hS.new_blk #[.pointer (some ⟨p, 0, none⟩)] 25)
  have HI : Aside0 (Is (w.alloc (.cells #[.pointer (some ⟨p, 0, none⟩)] 25)) p sb ob wb n g) := ⟨HS.out.left.right.arr 0 rfl⟩
  have c1 : (_ : Option Value) = some (.pointer (some ⟨p, 0, none⟩)) := cell_in HS.out (List.mem_append_right _ (List.mem_singleton.2 rfl))
  obtain ⟨vs, hs⟩ := HI.out
  have CC := Aside0.mk (check_yes hs hw)
  have CM := Aside0.mk (mover_any p tv (tell_val hTl) (w.alloc (.cells #[.pointer (some ⟨p, 0, none⟩)] 25)))
  have htv := tell_val hTl
  clear hs vs hw hw2 hS hb hTl hl
  rcases htv with rfl | ⟨ft, fc, rfl⟩
  · go_enter Tryd.func17, Tryd.ntmps17
    go_wp2_with fail
    refine CC.out.mono ?_
    rintro e w1 ⟨rfl, rfl⟩
    go_wp2_with fail
    refine CM.out.mono ?_
    clear CM
    rintro e w3 ⟨rfl, hs3⟩
    simp only [World.size_alloc] at hs3 ⊢
    have HS3 : Aside0 (Sep w0 w3 (T s [] ++ (S1.Arr p sb ob wb n g :: MB (w.heap.size + 1) p .nilFunc 0 ++ (L ++ [S1.Blk w.heap.size #[.pointer (some ⟨p, 0, none⟩)] 25])))) := ⟨by
      have h : Sep w0 w3 (((T s [] ++ (S1.Arr p sb ob wb n g :: L)) ++ [S1.Blk w.heap.size #[.pointer (some ⟨p, 0, none⟩)] 25]) ++ MB (w.heap.size + 1) p .nilFunc 0) := HS.out.append hs3
      rw [List.append_assoc, List.append_assoc] at h
      have e : (S1.Arr p sb ob wb n g :: L) ++ ([S1.Blk w.heap.size #[.pointer (some ⟨p, 0, none⟩)] 25] ++ MB (w.heap.size + 1) p .nilFunc 0) = S1.Arr p sb ob wb n g :: ((L ++ [S1.Blk w.heap.size #[.pointer (some ⟨p, 0, none⟩)] 25]) ++ MB (w.heap.size + 1) p .nilFunc 0) := by simp
      rw [e] at h
      exact h.perm (List.Perm.append_left _ (List.Perm.cons _ List.perm_append_comm))⟩
    clear HS hs3
    have HI3 := Aside0.mk (HS3.out.right.arr 0 rfl)
    have HC3 : Aside0 (w3.cell? ⟨w.heap.size, 0, none⟩ = some (.pointer (some ⟨p, 0, none⟩))) := ⟨cell_in (t := 25) HS3.out (by simp)⟩
    go_wp2
    go_loopg [19] (b + 9) (fun kq v19 W => ∃ i : Nat, v19 = .int .i64 (i : Int) ∧ b ≤ i ∧ i ≤ b + 8 ∧ Aside0 (b + 9 - i ≤ kq) ∧ Aside0 (upF g.on i (b + 8 - i) = upF g.on b (b + 8 - b)) ∧ w3 = W)
    case atStart => exact ⟨b, rfl, by omega, by omega, ⟨by omega⟩, ⟨rfl⟩, rfl⟩
    case round =>
      obtain ⟨i, rfl, hi1, hi2, HQ, HU, rfl⟩ := hrel
      by_cases hlt : i < b + 8
      · have C := free_any HI3.out HC3.out (show i < n by omega)
        obtain ⟨d, hd⟩ : ∃ d, b + 8 - i = d + 1 := ⟨b + 7 - i, by omega⟩
        have hu := HU.out
        rw [hd] at hu
        rw [show upF g.on i (d + 1) = if g.on i then upF g.on (i + 1) d else some i from rfl] at hu
        cases hf : g.on i with
        | true =>
          rw [hf] at C
          rw [hf, if_pos rfl] at hu
          have HU2 : Aside0 (upF g.on (i + 1) (b + 8 - (i + 1)) = upF g.on b (b + 8 - b)) := ⟨by rw [show b + 8 - (i + 1) = d by omega]; exact hu⟩
          have C := Aside0.mk C
          clear hu hd hf HU
          go_wp2_with fail
          refine C.out.mono ?_
          clear C
          rintro e w4 ⟨rfl, rfl⟩
          go_wp2
          go_roundg (b + 8 - i)
          case measure => have := HQ.out; omega
          case rel => exact ⟨i + 1, by go_num, by omega, by omega, ⟨by omega⟩, HU2, rfl⟩
        | false =>
          rw [hf] at C
          rw [hf, if_neg Bool.false_ne_true] at hu
          have HE : Aside0 (openN n b b (-1) g = ⟨(b : Int), 0, shiftR n i ⟨g, []⟩ (i - b)⟩) := ⟨by unfold openN; rw [← hu]⟩
          have hup := upF_some hu.symm
          have HUP := Aside0.mk (And.intro hf hup.2.2.2)
          have C := Aside0.mk C
          clear hu hd hf hup HU
          go_wp2_with fail
          refine C.out.mono ?_
          clear C
          rintro e w4 ⟨rfl, rfl⟩
          go_wp2
          go_loopg [19] (i + 1) (fun kq v19 W => ∃ (d : Nat) (s : σ), v19 = .int .i64 ((i : Int) - (d : Int)) ∧ d + b ≤ i ∧ Aside0 (i + 1 - d ≤ kq) ∧ Aside0 (Sep w0 W (T s (shiftR n i ⟨g, []⟩ d).ms ++ (S1.Arr p sb ob wb n (shiftR n i ⟨g, []⟩ d).g :: MB (w.heap.size + 1) p .nilFunc (shiftR n i ⟨g, []⟩ d).ms.length ++ (L ++ [S1.Blk w.heap.size #[.pointer (some ⟨p, 0, none⟩)] 25])))))
          case atStart => exact ⟨0, s, by go_num, by omega, ⟨by omega⟩, HS3⟩
          case round =>
            clear HS3
            obtain ⟨d, s, rfl, hd, HQ2, HS⟩ := hrel
            obtain ⟨j, hj⟩ : ∃ j : Nat, i - d = j := ⟨_, rfl⟩
            rw [show (i : Int) - (d : Int) = (j : Int) by omega]
            have hn2 : i < n := by omega
            have hsi := shiftR_inv (a := b) HL.out hn2 HUP.out.1 HUP.out.2 d hd
            have hms := shiftR_few (n := n) (i := i) (g := g) d
            by_cases hgt : b < j
            · have hv := shiftR_valid (a := b) (d := d) HL.out hn2 HUP.out.1 HUP.out.2 (by omega)
              have CM := mover1_move HTl.out HS.out hsi.1 hv (by omega)
              have hst : shiftR n i ⟨g, []⟩ (d + 1) = ⟨moveS n (shiftR n i ⟨g, []⟩ d).g ((i - d - 1 : Nat) : Int) ((i - d : Nat) : Int), (shiftR n i ⟨g, []⟩ d).ms ++ [⟨(shiftR n i ⟨g, []⟩ d).g.xs.getD (i - d - 1) 0, ((i - d - 1 : Nat) : Int), ((i - d : Nat) : Int)⟩]⟩ := rfl
              rw [hj] at CM hst
              rw [show ((j - 1 : Nat) : Int) = (j : Int) - 1 by omega] at CM hst
              have HST := Aside0.mk hst
              have CM := Aside0.mk CM
              have HJ := Aside0.mk (And.intro hj hd)
              have hj4 : (j : Int) ≤ 5000 := by omega
              clear hst hv hsi hms hj hd HS HQ
              go_wp2_with fail
              refine CM.out.mono ?_
              clear CM
              rintro e w5 ⟨rfl, s', h6⟩
              have HS := Aside0.mk h6
              clear h6
              go_wp2
              go_roundg (i - d)
              case measure => have := HQ2.out; have := HJ.out; omega
              case rel => exact ⟨d + 1, s', by congr 1; have := HJ.out; omega, by have := HJ.out; omega, ⟨by have := HJ.out; omega⟩, ⟨by rw [HST.out]; exact HS.out⟩⟩
            · obtain rfl : j = b := by omega
              obtain rfl : d = i - j := by omega
              clear hsi hms
              go_wp2
              go_ret2
              refine ⟨by rw [HER.out, HE.out]; rfl, s, ?_⟩
              rw [HER.out, HE.out]
              exact HS.out.sub (List.Sublist.append (List.Sublist.refl _) (List.Sublist.cons_cons _ ((List.sublist_append_left _ _).trans (List.sublist_append_right _ _))))
      · obtain rfl : i = b + 8 := by omega
        have HN : Aside0 (upF g.on b (b + 8 - b) = none) := ⟨by rw [← HU.out, Nat.sub_self]; rfl⟩
        clear HU
        go_wp2
        go_loopg [21] (b - b + 1) (fun kq v21 W => ∃ d : Nat, v21 = .int .i64 ((b : Int) + (d : Int) - 1) ∧ b + d ≤ b ∧ Aside0 (d + 1 ≤ kq) ∧ Aside0 (downF g.on b d = downF g.on b (b - b)) ∧ w3 = W)
        case atStart => exact ⟨b - b, by congr 1; omega, by omega, ⟨by omega⟩, ⟨rfl⟩, rfl⟩
        case round =>
          obtain ⟨d, rfl, hd, HQ2, HD, rfl⟩ := hrel
          cases d with
          | zero =>
            rw [show (b : Int) + ((0 : Nat) : Int) - 1 = (b : Int) - 1 by omega]
            have HE : Aside0 (openN n b b (-1) g = ⟨0, 16, ⟨g, []⟩⟩) := ⟨by unfold openN; rw [HN.out, ← HD.out]; rfl⟩
            have q9 : ¬ (b : Int) ≤ (b : Int) - 1 := by omega
            go_wp2
            go_ret2
            refine ⟨by rw [HER.out, HE.out]; rfl, s, ?_⟩
            rw [HER.out, HE.out]
            exact HS3.out.sub (List.Sublist.append (List.Sublist.refl _) (List.Sublist.cons_cons _ ((List.sublist_append_left _ _).trans (List.sublist_append_right _ _))))
          | succ d =>
            exact absurd hd (by omega)
  · go_enter Tryd.func17, Tryd.ntmps17
    go_wp2_with fail
    refine CC.out.mono ?_
    rintro e w1 ⟨rfl, rfl⟩
    go_wp2_with fail
    refine CM.out.mono ?_
    clear CM
    rintro e w3 ⟨rfl, hs3⟩
    simp only [World.size_alloc] at hs3 ⊢
    have HS3 : Aside0 (Sep w0 w3 (T s [] ++ (S1.Arr p sb ob wb n g :: MB (w.heap.size + 1) p (.func (.func ft) #[] fc) 0 ++ (L ++ [S1.Blk w.heap.size #[.pointer (some ⟨p, 0, none⟩)] 25])))) := ⟨by
      have h : Sep w0 w3 (((T s [] ++ (S1.Arr p sb ob wb n g :: L)) ++ [S1.Blk w.heap.size #[.pointer (some ⟨p, 0, none⟩)] 25]) ++ MB (w.heap.size + 1) p (.func (.func ft) #[] fc) 0) := HS.out.append hs3
      rw [List.append_assoc, List.append_assoc] at h
      have e : (S1.Arr p sb ob wb n g :: L) ++ ([S1.Blk w.heap.size #[.pointer (some ⟨p, 0, none⟩)] 25] ++ MB (w.heap.size + 1) p (.func (.func ft) #[] fc) 0) = S1.Arr p sb ob wb n g :: ((L ++ [S1.Blk w.heap.size #[.pointer (some ⟨p, 0, none⟩)] 25]) ++ MB (w.heap.size + 1) p (.func (.func ft) #[] fc) 0) := by simp
      rw [e] at h
      exact h.perm (List.Perm.append_left _ (List.Perm.cons _ List.perm_append_comm))⟩
    clear HS hs3
    have HI3 := Aside0.mk (HS3.out.right.arr 0 rfl)
    have HC3 : Aside0 (w3.cell? ⟨w.heap.size, 0, none⟩ = some (.pointer (some ⟨p, 0, none⟩))) := ⟨cell_in (t := 25) HS3.out (by simp)⟩
    go_wp2
    go_loopg [19] (b + 9) (fun kq v19 W => ∃ i : Nat, v19 = .int .i64 (i : Int) ∧ b ≤ i ∧ i ≤ b + 8 ∧ Aside0 (b + 9 - i ≤ kq) ∧ Aside0 (upF g.on i (b + 8 - i) = upF g.on b (b + 8 - b)) ∧ w3 = W)
    case atStart => exact ⟨b, rfl, by omega, by omega, ⟨by omega⟩, ⟨rfl⟩, rfl⟩
    case round =>
      obtain ⟨i, rfl, hi1, hi2, HQ, HU, rfl⟩ := hrel
      by_cases hlt : i < b + 8
      · have C := free_any HI3.out HC3.out (show i < n by omega)
        obtain ⟨d, hd⟩ : ∃ d, b + 8 - i = d + 1 := ⟨b + 7 - i, by omega⟩
        have hu := HU.out
        rw [hd] at hu
        rw [show upF g.on i (d + 1) = if g.on i then upF g.on (i + 1) d else some i from rfl] at hu
        cases hf : g.on i with
        | true =>
          rw [hf] at C
          rw [hf, if_pos rfl] at hu
          have HU2 : Aside0 (upF g.on (i + 1) (b + 8 - (i + 1)) = upF g.on b (b + 8 - b)) := ⟨by rw [show b + 8 - (i + 1) = d by omega]; exact hu⟩
          have C := Aside0.mk C
          clear hu hd hf HU
          go_wp2_with fail
          refine C.out.mono ?_
          clear C
          rintro e w4 ⟨rfl, rfl⟩
          go_wp2
          go_roundg (b + 8 - i)
          case measure => have := HQ.out; omega
          case rel => exact ⟨i + 1, by go_num, by omega, by omega, ⟨by omega⟩, HU2, rfl⟩
        | false =>
          rw [hf] at C
          rw [hf, if_neg Bool.false_ne_true] at hu
          have HE : Aside0 (openN n b b (-1) g = ⟨(b : Int), 0, shiftR n i ⟨g, []⟩ (i - b)⟩) := ⟨by unfold openN; rw [← hu]⟩
          have hup := upF_some hu.symm
          have HUP := Aside0.mk (And.intro hf hup.2.2.2)
          have C := Aside0.mk C
          clear hu hd hf hup HU
          go_wp2_with fail
          refine C.out.mono ?_
          clear C
          rintro e w4 ⟨rfl, rfl⟩
          go_wp2
          go_loopg [19] (i + 1) (fun kq v19 W => ∃ (d : Nat) (s : σ), v19 = .int .i64 ((i : Int) - (d : Int)) ∧ d + b ≤ i ∧ Aside0 (i + 1 - d ≤ kq) ∧ Aside0 (Sep w0 W (T s (shiftR n i ⟨g, []⟩ d).ms ++ (S1.Arr p sb ob wb n (shiftR n i ⟨g, []⟩ d).g :: MB (w.heap.size + 1) p (.func (.func ft) #[] fc) (shiftR n i ⟨g, []⟩ d).ms.length ++ (L ++ [S1.Blk w.heap.size #[.pointer (some ⟨p, 0, none⟩)] 25])))))
          case atStart => exact ⟨0, s, by go_num, by omega, ⟨by omega⟩, HS3⟩
          case round =>
            clear HS3
            obtain ⟨d, s, rfl, hd, HQ2, HS⟩ := hrel
            obtain ⟨j, hj⟩ : ∃ j : Nat, i - d = j := ⟨_, rfl⟩
            rw [show (i : Int) - (d : Int) = (j : Int) by omega]
            have hn2 : i < n := by omega
            have hsi := shiftR_inv (a := b) HL.out hn2 HUP.out.1 HUP.out.2 d hd
            have hms := shiftR_few (n := n) (i := i) (g := g) d
            by_cases hgt : b < j
            · have hv := shiftR_valid (a := b) (d := d) HL.out hn2 HUP.out.1 HUP.out.2 (by omega)
              have CM := mover1_move HTl.out HS.out hsi.1 hv (by omega)
              have hst : shiftR n i ⟨g, []⟩ (d + 1) = ⟨moveS n (shiftR n i ⟨g, []⟩ d).g ((i - d - 1 : Nat) : Int) ((i - d : Nat) : Int), (shiftR n i ⟨g, []⟩ d).ms ++ [⟨(shiftR n i ⟨g, []⟩ d).g.xs.getD (i - d - 1) 0, ((i - d - 1 : Nat) : Int), ((i - d : Nat) : Int)⟩]⟩ := rfl
              rw [hj] at CM hst
              rw [show ((j - 1 : Nat) : Int) = (j : Int) - 1 by omega] at CM hst
              have HST := Aside0.mk hst
              have CM := Aside0.mk CM
              have HJ := Aside0.mk (And.intro hj hd)
              have hj4 : (j : Int) ≤ 5000 := by omega
              clear hst hv hsi hms hj hd HS HQ
              go_wp2_with fail
              refine CM.out.mono ?_
              clear CM
              rintro e w5 ⟨rfl, s', h6⟩
              have HS := Aside0.mk h6
              clear h6
              go_wp2
              go_roundg (i - d)
              case measure => have := HQ2.out; have := HJ.out; omega
              case rel => exact ⟨d + 1, s', by congr 1; have := HJ.out; omega, by have := HJ.out; omega, ⟨by have := HJ.out; omega⟩, ⟨by rw [HST.out]; exact HS.out⟩⟩
            · obtain rfl : j = b := by omega
              obtain rfl : d = i - j := by omega
              clear hsi hms
              go_wp2
              go_ret2
              refine ⟨by rw [HER.out, HE.out]; rfl, s, ?_⟩
              rw [HER.out, HE.out]
              exact HS.out.sub (List.Sublist.append (List.Sublist.refl _) (List.Sublist.cons_cons _ ((List.sublist_append_left _ _).trans (List.sublist_append_right _ _))))
      · obtain rfl : i = b + 8 := by omega
        have HN : Aside0 (upF g.on b (b + 8 - b) = none) := ⟨by rw [← HU.out, Nat.sub_self]; rfl⟩
        clear HU
        go_wp2
        go_loopg [21] (b - b + 1) (fun kq v21 W => ∃ d : Nat, v21 = .int .i64 ((b : Int) + (d : Int) - 1) ∧ b + d ≤ b ∧ Aside0 (d + 1 ≤ kq) ∧ Aside0 (downF g.on b d = downF g.on b (b - b)) ∧ w3 = W)
        case atStart => exact ⟨b - b, by congr 1; omega, by omega, ⟨by omega⟩, ⟨rfl⟩, rfl⟩
        case round =>
          obtain ⟨d, rfl, hd, HQ2, HD, rfl⟩ := hrel
          cases d with
          | zero =>
            rw [show (b : Int) + ((0 : Nat) : Int) - 1 = (b : Int) - 1 by omega]
            have HE : Aside0 (openN n b b (-1) g = ⟨0, 16, ⟨g, []⟩⟩) := ⟨by unfold openN; rw [HN.out, ← HD.out]; rfl⟩
            have q9 : ¬ (b : Int) ≤ (b : Int) - 1 := by omega
            go_wp2
            go_ret2
            refine ⟨by rw [HER.out, HE.out]; rfl, s, ?_⟩
            rw [HER.out, HE.out]
            exact HS3.out.sub (List.Sublist.append (List.Sublist.refl _) (List.Sublist.cons_cons _ ((List.sublist_append_left _ _).trans (List.sublist_append_right _ _))))
          | succ d =>
            exact absurd hd (by omega)
set_option maxHeartbeats 8000000 in
theorem open_behind (hTl : Tell7 w0 n g tv T) (hS : Sep w0 w (T s [] ++ (S1.Arr p sb ob wb n g :: L))) (hl : n ≤ g.xs.length) {sg : Nat} (hw : winB n (sg : Int) 1 = true) {bn : Nat} (h1 : 8 * sg ≤ bn) (h2 : bn < 8 * sg + 8) (hf : g.on bn = true) :
    Calls Tryd.prog 17 #[.pointer (some ⟨p, 0, none⟩), .int .i64 (sg : Int), .int .i64 (bn : Int), tv] w fun e w' => e = .returned (.tuple #[.int .i64 (openR n sg (bn : Int) g).k, .int .i64 (openR n sg (bn : Int) g).e]) ∧ ∃ s', Sep w0 w' (T s' (openR n sg (bn : Int) g).r.ms ++ (S1.Arr p sb ob wb n (openR n sg (bn : Int) g).r.g :: L)) := by
  obtain ⟨b, hb⟩ : ∃ b, 8 * sg = b := ⟨_, rfl⟩
  obtain ⟨nx, hnx⟩ : ∃ nx, bn + 1 = nx := ⟨_, rfl⟩
  have hw2 := of_decide_eq_true hw
  have hbn : b + 8 ≤ n := by omega
  have hb4 : b ≤ 4096 := by omega
  have eb : 8 * (sg : Int) = (b : Int) := by omega
  have enx : (bn : Int) + 1 = (nx : Int) := by omega
  have hx1 : b + 1 ≤ nx := by omega
  have hx2 : nx ≤ b + 8 := by omega
  have HER : Aside0 (openR n sg (bn : Int) g = openN n b nx (bn : Int) g) := ⟨by
    unfold openR nextN
    rw [if_neg (by omega), if_neg (fun h => by have := h.2; rw [Int.toNat_natCast, hf] at this; cases this), if_neg (by omega), Int.toNat_natCast, hnx, hb]⟩
  have HTl := Aside0.mk hTl
  have HL := Aside0.mk hl
  have HS := Aside0.mk (hS.new_blk #[.pointer (some ⟨p, 0, none⟩)] 25)
  have HI : Aside0 (Is (w.alloc (.cells #[.pointer (some ⟨p, 0, none⟩)] 25)) p sb ob wb n g) := ⟨HS.out.left.right.arr 0 rfl⟩
  have c1 : (_ : Option Value) = some (.pointer (some ⟨p, 0, none⟩)) := cell_in HS.out (List.mem_append_right _ (List.mem_singleton.2 rfl))
  obtain ⟨vs, hs⟩ := HI.out
  have CC := Aside0.mk (check_yes hs hw)
  have CA := Aside0.mk (at_on hs (show bn < n by omega) hf)
  have CM := Aside0.mk (mover_any p tv (tell_val hTl) (w.alloc (.cells #[.pointer (some ⟨p, 0, none⟩)] 25)))
  have q0 : ((bn : Int) == -1) = false := beq_eq_false_iff_ne.2 (by omega)
  have q1 : ¬ (bn : Int) < (b : Int) := by omega
  have q2 : ¬ (b : Int) + 8 ≤ (bn : Int) := by omega
  have d1 : decide ((bn : Int) < (b : Int)) = false := decide_eq_false q1
  have d2 : decide ((b : Int) + 8 ≤ (bn : Int)) = false := decide_eq_false q2
  have hnx2 : bn < nx ∧ nx ≤ bn + 1 := by omega
  have htv := tell_val hTl
  generalize g.xs.getD bn 0 = x at *
  clear hs vs hw hw2 hS hb hTl hl hf hnx h1 h2
  rcases htv with rfl | ⟨ft, fc, rfl⟩
  · go_enter Tryd.func17, Tryd.ntmps17
    go_wp2_with fail
    refine CC.out.mono ?_
    rintro e w1 ⟨rfl, rfl⟩
    go_wp2_with fail
    refine CA.out.mono ?_
    clear CA
    rintro e w2 ⟨rfl, rfl⟩
    go_wp2_with fail
    refine CM.out.mono ?_
    clear CM
    rintro e w3 ⟨rfl, hs3⟩
    simp only [World.size_alloc] at hs3 ⊢
    have HS3 : Aside0 (Sep w0 w3 (T s [] ++ (S1.Arr p sb ob wb n g :: MB (w.heap.size + 1) p .nilFunc 0 ++ (L ++ [S1.Blk w.heap.size #[.pointer (some ⟨p, 0, none⟩)] 25])))) := ⟨by
      have h : Sep w0 w3 (((T s [] ++ (S1.Arr p sb ob wb n g :: L)) ++ [S1.Blk w.heap.size #[.pointer (some ⟨p, 0, none⟩)] 25]) ++ MB (w.heap.size + 1) p .nilFunc 0) := HS.out.append hs3
      rw [List.append_assoc, List.append_assoc] at h
      have e : (S1.Arr p sb ob wb n g :: L) ++ ([S1.Blk w.heap.size #[.pointer (some ⟨p, 0, none⟩)] 25] ++ MB (w.heap.size + 1) p .nilFunc 0) = S1.Arr p sb ob wb n g :: ((L ++ [S1.Blk w.heap.size #[.pointer (some ⟨p, 0, none⟩)] 25]) ++ MB (w.heap.size + 1) p .nilFunc 0) := by simp
      rw [e] at h
      exact h.perm (List.Perm.append_left _ (List.Perm.cons _ List.perm_append_comm))⟩
    clear HS hs3
    have HI3 := Aside0.mk (HS3.out.right.arr 0 rfl)
    have HC3 : Aside0 (w3.cell? ⟨w.heap.size, 0, none⟩ = some (.pointer (some ⟨p, 0, none⟩))) := ⟨cell_in (t := 25) HS3.out (by simp)⟩
    go_wp2
    go_loopg [19] (b + 9) (fun kq v19 W => ∃ i : Nat, v19 = .int .i64 (i : Int) ∧ nx ≤ i ∧ i ≤ b + 8 ∧ Aside0 (b + 9 - i ≤ kq) ∧ Aside0 (upF g.on i (b + 8 - i) = upF g.on nx (b + 8 - nx)) ∧ w3 = W)
    case atStart => exact ⟨nx, rfl, by omega, by omega, ⟨by omega⟩, ⟨rfl⟩, rfl⟩
    case round =>
      obtain ⟨i, rfl, hi1, hi2, HQ, HU, rfl⟩ := hrel
      by_cases hlt : i < b + 8
      · have C := free_any HI3.out HC3.out (show i < n by omega)
        obtain ⟨d, hd⟩ : ∃ d, b + 8 - i = d + 1 := ⟨b + 7 - i, by omega⟩
        have hu := HU.out
        rw [hd] at hu
        rw [show upF g.on i (d + 1) = if g.on i then upF g.on (i + 1) d else some i from rfl] at hu
        cases hf : g.on i with
        | true =>
          rw [hf] at C
          rw [hf, if_pos rfl] at hu
          have HU2 : Aside0 (upF g.on (i + 1) (b + 8 - (i + 1)) = upF g.on nx (b + 8 - nx)) := ⟨by rw [show b + 8 - (i + 1) = d by omega]; exact hu⟩
          have C := Aside0.mk C
          clear hu hd hf HU
          go_wp2_with fail
          refine C.out.mono ?_
          clear C
          rintro e w4 ⟨rfl, rfl⟩
          go_wp2
          go_roundg (b + 8 - i)
          case measure => have := HQ.out; omega
          case rel => exact ⟨i + 1, by go_num, by omega, by omega, ⟨by omega⟩, HU2, rfl⟩
        | false =>
          rw [hf] at C
          rw [hf, if_neg Bool.false_ne_true] at hu
          have HE : Aside0 (openN n b nx (bn : Int) g = ⟨(nx : Int), 0, shiftR n i ⟨g, []⟩ (i - nx)⟩) := ⟨by unfold openN; rw [← hu]⟩
          have hup := upF_some hu.symm
          have HUP := Aside0.mk (And.intro hf hup.2.2.2)
          have C := Aside0.mk C
          clear hu hd hf hup HU
          go_wp2_with fail
          refine C.out.mono ?_
          clear C
          rintro e w4 ⟨rfl, rfl⟩
          go_wp2
          go_loopg [19] (i + 1) (fun kq v19 W => ∃ (d : Nat) (s : σ), v19 = .int .i64 ((i : Int) - (d : Int)) ∧ d + nx ≤ i ∧ Aside0 (i + 1 - d ≤ kq) ∧ Aside0 (Sep w0 W (T s (shiftR n i ⟨g, []⟩ d).ms ++ (S1.Arr p sb ob wb n (shiftR n i ⟨g, []⟩ d).g :: MB (w.heap.size + 1) p .nilFunc (shiftR n i ⟨g, []⟩ d).ms.length ++ (L ++ [S1.Blk w.heap.size #[.pointer (some ⟨p, 0, none⟩)] 25])))))
          case atStart => exact ⟨0, s, by go_num, by omega, ⟨by omega⟩, HS3⟩
          case round =>
            clear HS3
            obtain ⟨d, s, rfl, hd, HQ2, HS⟩ := hrel
            obtain ⟨j, hj⟩ : ∃ j : Nat, i - d = j := ⟨_, rfl⟩
            rw [show (i : Int) - (d : Int) = (j : Int) by omega]
            have hn2 : i < n := by omega
            have hsi := shiftR_inv (a := nx) HL.out hn2 HUP.out.1 HUP.out.2 d hd
            have hms := shiftR_few (n := n) (i := i) (g := g) d
            by_cases hgt : nx < j
            · have hv := shiftR_valid (a := nx) (d := d) HL.out hn2 HUP.out.1 HUP.out.2 (by omega)
              have CM := mover1_move HTl.out HS.out hsi.1 hv (by omega)
              have hst : shiftR n i ⟨g, []⟩ (d + 1) = ⟨moveS n (shiftR n i ⟨g, []⟩ d).g ((i - d - 1 : Nat) : Int) ((i - d : Nat) : Int), (shiftR n i ⟨g, []⟩ d).ms ++ [⟨(shiftR n i ⟨g, []⟩ d).g.xs.getD (i - d - 1) 0, ((i - d - 1 : Nat) : Int), ((i - d : Nat) : Int)⟩]⟩ := rfl
              rw [hj] at CM hst
              rw [show ((j - 1 : Nat) : Int) = (j : Int) - 1 by omega] at CM hst
              have HST := Aside0.mk hst
              have CM := Aside0.mk CM
              have HJ := Aside0.mk (And.intro hj hd)
              have hj4 : (j : Int) ≤ 5000 := by omega
              clear hst hv hsi hms hj hd HS HQ
              go_wp2_with fail
              refine CM.out.mono ?_
              clear CM
              rintro e w5 ⟨rfl, s', h6⟩
              have HS := Aside0.mk h6
              clear h6
              go_wp2
              go_roundg (i - d)
              case measure => have := HQ2.out; have := HJ.out; omega
              case rel => exact ⟨d + 1, s', by congr 1; have := HJ.out; omega, by have := HJ.out; omega, ⟨by have := HJ.out; omega⟩, ⟨by rw [HST.out]; exact HS.out⟩⟩
            · obtain rfl : j = nx := by omega
              obtain rfl : d = i - j := by omega
              clear hsi hms
              go_wp2
              go_ret2
              refine ⟨by rw [HER.out, HE.out]; rfl, s, ?_⟩
              rw [HER.out, HE.out]
              exact HS.out.sub (List.Sublist.append (List.Sublist.refl _) (List.Sublist.cons_cons _ ((List.sublist_append_left _ _).trans (List.sublist_append_right _ _))))
      · obtain rfl : i = b + 8 := by omega
        have HN : Aside0 (upF g.on nx (b + 8 - nx) = none) := ⟨by rw [← HU.out, Nat.sub_self]; rfl⟩
        clear HU
        go_wp2
        go_loopg [21] (nx - b + 1) (fun kq v21 W => ∃ d : Nat, v21 = .int .i64 ((b : Int) + (d : Int) - 1) ∧ b + d ≤ nx ∧ Aside0 (d + 1 ≤ kq) ∧ Aside0 (downF g.on b d = downF g.on b (nx - b)) ∧ w3 = W)
        case atStart => exact ⟨nx - b, by congr 1; omega, by omega, ⟨by omega⟩, ⟨rfl⟩, rfl⟩
        case round =>
          obtain ⟨d, rfl, hd, HQ2, HD, rfl⟩ := hrel
          cases d with
          | zero =>
            rw [show (b : Int) + ((0 : Nat) : Int) - 1 = (b : Int) - 1 by omega]
            have HE : Aside0 (openN n b nx (bn : Int) g = ⟨0, 16, ⟨g, []⟩⟩) := ⟨by unfold openN; rw [HN.out, ← HD.out]; rfl⟩
            have q9 : ¬ (b : Int) ≤ (b : Int) - 1 := by omega
            go_wp2
            go_ret2
            refine ⟨by rw [HER.out, HE.out]; rfl, s, ?_⟩
            rw [HER.out, HE.out]
            exact HS3.out.sub (List.Sublist.append (List.Sublist.refl _) (List.Sublist.cons_cons _ ((List.sublist_append_left _ _).trans (List.sublist_append_right _ _))))
          | succ d =>
            obtain ⟨jn, hjn⟩ : ∃ jn, b + d = jn := ⟨_, rfl⟩
            rw [show (b : Int) + ((d + 1 : Nat) : Int) - 1 = (jn : Int) by omega]
            have C := free_any HI3.out HC3.out (show jn < n by omega)
            have hdn := HD.out
            rw [show downF g.on b (d + 1) = if g.on (b + d) then downF g.on b d else some (b + d) from rfl, hjn] at hdn
            have q9 : (b : Int) ≤ (jn : Int) := by omega
            have hj9 : (jn : Int) ≤ 5000 := by omega
            have HJN := Aside0.mk hjn
            cases hf : g.on jn with
            | true =>
              rw [hf] at C
              rw [hf, if_pos rfl] at hdn
              have HD2 := Aside0.mk hdn
              have C := Aside0.mk C
              clear hdn hf HD hjn
              go_wp2_with fail
              refine C.out.mono ?_
              clear C
              rintro e w4 ⟨rfl, rfl⟩
              go_wp2
              go_roundg (d + 1)
              case measure => have := HQ2.out; omega
              case rel => exact ⟨d, by congr 1; have := HJN.out; omega, by omega, ⟨by omega⟩, HD2, rfl⟩
            | false =>
              rw [hf] at C
              rw [hf, if_neg Bool.false_ne_true] at hdn
              have HE : Aside0 (openN n b nx (bn : Int) g = ⟨(bn : Int), 0, shiftL n jn ⟨g, []⟩ (bn - jn)⟩) := ⟨by unfold openN; rw [HN.out, ← hdn, Int.toNat_natCast]⟩
              have hdw := downF_some hdn.symm
              have HDW : Aside0 (g.on jn = false ∧ ∀ k, jn < k → k ≤ bn → g.on k = true) := ⟨hf, fun k k1 k2 => hdw.2.2.2 k k1 (by omega)⟩
              have hjb : jn ≤ bn := by omega
              have C := Aside0.mk C
              clear hdn hf hdw HD hjn
              go_wp2_with fail
              refine C.out.mono ?_
              clear C
              rintro e w4 ⟨rfl, rfl⟩
              go_wp2
              go_loopg [21] (bn + 1) (fun kq v21 W => ∃ (d : Nat) (s : σ), v21 = .int .i64 ((jn : Int) + (d : Int)) ∧ jn + d ≤ bn ∧ Aside0 (bn + 1 - d ≤ kq) ∧ Aside0 (Sep w0 W (T s (shiftL n jn ⟨g, []⟩ d).ms ++ (S1.Arr p sb ob wb n (shiftL n jn ⟨g, []⟩ d).g :: MB (w.heap.size + 1) p .nilFunc (shiftL n jn ⟨g, []⟩ d).ms.length ++ (L ++ [S1.Blk w.heap.size #[.pointer (some ⟨p, 0, none⟩)] 25])))))
              case atStart => exact ⟨0, s, by go_num, by omega, ⟨by omega⟩, HS3⟩
              case round =>
                clear HS3
                obtain ⟨d, s, rfl, hd, HQ3, HS⟩ := hrel
                obtain ⟨j, hj⟩ : ∃ j : Nat, jn + d = j := ⟨_, rfl⟩
                rw [show (jn : Int) + (d : Int) = (j : Int) by omega]
                have hn2 : bn < n := by omega
                have hsi := shiftL_inv (z := bn) HL.out hn2 HDW.out.1 HDW.out.2 d hd
                have hms := shiftL_few (n := n) (i := jn) (g := g) d
                by_cases hgt : j < bn
                · have hv := shiftL_valid (z := bn) (d := d) HL.out hn2 HDW.out.1 HDW.out.2 (by omega)
                  have CM := mover1_move HTl.out HS.out hsi.1 hv (by omega)
                  have hst : shiftL n jn ⟨g, []⟩ (d + 1) = ⟨moveS n (shiftL n jn ⟨g, []⟩ d).g ((jn + d + 1 : Nat) : Int) ((jn + d : Nat) : Int), (shiftL n jn ⟨g, []⟩ d).ms ++ [⟨(shiftL n jn ⟨g, []⟩ d).g.xs.getD (jn + d + 1) 0, ((jn + d + 1 : Nat) : Int), ((jn + d : Nat) : Int)⟩]⟩ := rfl
                  rw [hj] at CM hst
                  rw [show ((j + 1 : Nat) : Int) = (j : Int) + 1 by omega] at CM hst
                  have HST := Aside0.mk hst
                  have CM := Aside0.mk CM
                  have HJ := Aside0.mk (And.intro hj hd)
                  have hj4 : (j : Int) ≤ 5000 := by omega
                  clear hst hv hsi hms hj hd HS HQ2
                  go_wp2_with fail
                  refine CM.out.mono ?_
                  clear CM
                  rintro e w5 ⟨rfl, s', h6⟩
                  have HS := Aside0.mk h6
                  clear h6
                  go_wp2
                  go_roundg (bn - d)
                  case measure => have := HQ3.out; have := HJ.out; omega
                  case rel => exact ⟨d + 1, s', by congr 1; have := HJ.out; omega, by have := HJ.out; omega, ⟨by have := HJ.out; omega⟩, ⟨by rw [HST.out]; exact HS.out⟩⟩
                · obtain rfl : j = bn := by omega
                  obtain rfl : d = j - jn := by omega
                  clear hsi hms
                  go_wp2
                  go_ret2
                  refine ⟨by rw [HER.out, HE.out]; rfl, s, ?_⟩
                  rw [HER.out, HE.out]
                  exact HS.out.sub (List.Sublist.append (List.Sublist.refl _) (List.Sublist.cons_cons _ ((List.sublist_append_left _ _).trans (List.sublist_append_right _ _))))
  · go_enter Tryd.func17, Tryd.ntmps17
    go_wp2_with fail
    refine CC.out.mono ?_
    rintro e w1 ⟨rfl, rfl⟩
    go_wp2_with fail
    refine CA.out.mono ?_
    clear CA
    rintro e w2 ⟨rfl, rfl⟩
    go_wp2_with fail
    refine CM.out.mono ?_
    clear CM
    rintro e w3 ⟨rfl, hs3⟩
    simp only [World.size_alloc] at hs3 ⊢
    have HS3 : Aside0 (Sep w0 w3 (T s [] ++ (S1.Arr p sb ob wb n g :: MB (w.heap.size + 1) p (.func (.func ft) #[] fc) 0 ++ (L ++ [S1.Blk w.heap.size #[.pointer (some ⟨p, 0, none⟩)] 25])))) := ⟨by
      have h : Sep w0 w3 (((T s [] ++ (S1.Arr p sb ob wb n g :: L)) ++ [S1.Blk w.heap.size #[.pointer (some ⟨p, 0, none⟩)] 25]) ++ MB (w.heap.size + 1) p (.func (.func ft) #[] fc) 0) := HS.out.append hs3
      rw [List.append_assoc, List.append_assoc] at h
      have e : (S1.Arr p sb ob wb n g :: L) ++ ([S1.Blk w.heap.size #[.pointer (some ⟨p, 0, none⟩)] 25] ++ MB (w.heap.size + 1) p (.func (.func ft) #[] fc) 0) = S1.Arr p sb ob wb n g :: ((L ++ [S1.Blk w.heap.size #[.pointer (some ⟨p, 0, none⟩)] 25]) ++ MB (w.heap.size + 1) p (.func (.func ft) #[] fc) 0) := by simp
      rw [e] at h
      exact h.perm (List.Perm.append_left _ (List.Perm.cons _ List.perm_append_comm))⟩
    clear HS hs3
    have HI3 := Aside0.mk (HS3.out.right.arr 0 rfl)
    have HC3 : Aside0 (w3.cell? ⟨w.heap.size, 0, none⟩ = some (.pointer (some ⟨p, 0, none⟩))) := ⟨cell_in (t := 25) HS3.out (by simp)⟩
    go_wp2
    go_loopg [19] (b + 9) (fun kq v19 W => ∃ i : Nat, v19 = .int .i64 (i : Int) ∧ nx ≤ i ∧ i ≤ b + 8 ∧ Aside0 (b + 9 - i ≤ kq) ∧ Aside0 (upF g.on i (b + 8 - i) = upF g.on nx (b + 8 - nx)) ∧ w3 = W)
    case atStart => exact ⟨nx, rfl, by omega, by omega, ⟨by omega⟩, ⟨rfl⟩, rfl⟩
    case round =>
      obtain ⟨i, rfl, hi1, hi2, HQ, HU, rfl⟩ := hrel
      by_cases hlt : i < b + 8
      · have C := free_any HI3.out HC3.out (show i < n by omega)
        obtain ⟨d, hd⟩ : ∃ d, b + 8 - i = d + 1 := ⟨b + 7 - i, by omega⟩
        have hu := HU.out
        rw [hd] at hu
        rw [show upF g.on i (d + 1) = if g.on i then upF g.on (i + 1) d else some i from rfl] at hu
        cases hf : g.on i with
        | true =>
          rw [hf] at C
          rw [hf, if_pos rfl] at hu
          have HU2 : Aside0 (upF g.on (i + 1) (b + 8 - (i + 1)) = upF g.on nx (b + 8 - nx)) := ⟨by rw [show b + 8 - (i + 1) = d by omega]; exact hu⟩
          have C := Aside0.mk C
          clear hu hd hf HU
          go_wp2_with fail
          refine C.out.mono ?_
          clear C
          rintro e w4 ⟨rfl, rfl⟩
          go_wp2
          go_roundg (b + 8 - i)
          case measure => have := HQ.out; omega
          case rel => exact ⟨i + 1, by go_num, by omega, by omega, ⟨by omega⟩, HU2, rfl⟩
        | false =>
          rw [hf] at C
          rw [hf, if_neg Bool.false_ne_true] at hu
          have HE : Aside0 (openN n b nx (bn : Int) g = ⟨(nx : Int), 0, shiftR n i ⟨g, []⟩ (i - nx)⟩) := ⟨by unfold openN; rw [← hu]⟩
          have hup := upF_some hu.symm
          have HUP := Aside0.mk (And.intro hf hup.2.2.2)
          have C := Aside0.mk C
          clear hu hd hf hup HU
          go_wp2_with fail
          refine C.out.mono ?_
          clear C
          rintro e w4 ⟨rfl, rfl⟩
          go_wp2
          go_loopg [19] (i + 1) (fun kq v19 W => ∃ (d : Nat) (s : σ), v19 = .int .i64 ((i : Int) - (d : Int)) ∧ d + nx ≤ i ∧ Aside0 (i + 1 - d ≤ kq) ∧ Aside0 (Sep w0 W (T s (shiftR n i ⟨g, []⟩ d).ms ++ (S1.Arr p sb ob wb n (shiftR n i ⟨g, []⟩ d).g :: MB (w.heap.size + 1) p (.func (.func ft) #[] fc) (shiftR n i ⟨g, []⟩ d).ms.length ++ (L ++ [S1.Blk w.heap.size #[.pointer (some ⟨p, 0, none⟩)] 25])))))
          case atStart => exact ⟨0, s, by go_num, by omega, ⟨by omega⟩, HS3⟩
          case round =>
            clear HS3
            obtain ⟨d, s, rfl, hd, HQ2, HS⟩ := hrel
            obtain ⟨j, hj⟩ : ∃ j : Nat, i - d = j := ⟨_, rfl⟩
            rw [show (i : Int) - (d : Int) = (j : Int) by omega]
            have hn2 : i < n := by omega
            have hsi := shiftR_inv (a := nx) HL.out hn2 HUP.out.1 HUP.out.2 d hd
            have hms := shiftR_few (n := n) (i := i) (g := g) d
            by_cases hgt : nx < j
            · have hv := shiftR_valid (a := nx) (d := d) HL.out hn2 HUP.out.1 HUP.out.2 (by omega)
              have CM := mover1_move HTl.out HS.out hsi.1 hv (by omega)
              have hst : shiftR n i ⟨g, []⟩ (d + 1) = ⟨moveS n (shiftR n i ⟨g, []⟩ d).g ((i - d - 1 : Nat) : Int) ((i - d : Nat) : Int), (shiftR n i ⟨g, []⟩ d).ms ++ [⟨(shiftR n i ⟨g, []⟩ d).g.xs.getD (i - d - 1) 0, ((i - d - 1 : Nat) : Int), ((i - d : Nat) : Int)⟩]⟩ := rfl
              rw [hj] at CM hst
              rw [show ((j - 1 : Nat) : Int) = (j : Int) - 1 by omega] at CM hst
              have HST := Aside0.mk hst
              have CM := Aside0.mk CM
              have HJ := Aside0.mk (And.intro hj hd)
              have hj4 : (j : Int) ≤ 5000 := by omega
              clear hst hv hsi hms hj hd HS HQ
              go_wp2_with fail
              refine CM.out.mono ?_
              clear CM
              rintro e w5 ⟨rfl, s', h6⟩
              have HS := Aside0.mk h6
              clear h6
              go_wp2
              go_roundg (i - d)
              case measure => have := HQ2.out; have := HJ.out; omega
              case rel => exact ⟨d + 1, s', by congr 1; have := HJ.out; omega, by have := HJ.out; omega, ⟨by have := HJ.out; omega⟩, ⟨by rw [HST.out]; exact HS.out⟩⟩
            · obtain rfl : j = nx := by omega
              obtain rfl : d = i - j := by omega
              clear hsi hms
              go_wp2
              go_ret2
              refine ⟨by rw [HER.out, HE.out]; rfl, s, ?_⟩
              rw [HER.out, HE.out]
              exact HS.out.sub (List.Sublist.append (List.Sublist.refl _) (List.Sublist.cons_cons _ ((List.sublist_append_left _ _).trans (List.sublist_append_right _ _))))
      · obtain rfl : i = b + 8 := by omega
        have HN : Aside0 (upF g.on nx (b + 8 - nx) = none) := ⟨by rw [← HU.out, Nat.sub_self]; rfl⟩
        clear HU
        go_wp2
        go_loopg [21] (nx - b + 1) (fun kq v21 W => ∃ d : Nat, v21 = .int .i64 ((b : Int) + (d : Int) - 1) ∧ b + d ≤ nx ∧ Aside0 (d + 1 ≤ kq) ∧ Aside0 (downF g.on b d = downF g.on b (nx - b)) ∧ w3 = W)
        case atStart => exact ⟨nx - b, by congr 1; omega, by omega, ⟨by omega⟩, ⟨rfl⟩, rfl⟩
        case round =>
          obtain ⟨d, rfl, hd, HQ2, HD, rfl⟩ := hrel
          cases d with
          | zero =>
            rw [show (b : Int) + ((0 : Nat) : Int) - 1 = (b : Int) - 1 by omega]
            have HE : Aside0 (openN n b nx (bn : Int) g = ⟨0, 16, ⟨g, []⟩⟩) := ⟨by unfold openN; rw [HN.out, ← HD.out]; rfl⟩
            have q9 : ¬ (b : Int) ≤ (b : Int) - 1 := by omega
            go_wp2
            go_ret2
            refine ⟨by rw [HER.out, HE.out]; rfl, s, ?_⟩
            rw [HER.out, HE.out]
            exact HS3.out.sub (List.Sublist.append (List.Sublist.refl _) (List.Sublist.cons_cons _ ((List.sublist_append_left _ _).trans (List.sublist_append_right _ _))))
          | succ d =>
            obtain ⟨jn, hjn⟩ : ∃ jn, b + d = jn := ⟨_, rfl⟩
            rw [show (b : Int) + ((d + 1 : Nat) : Int) - 1 = (jn : Int) by omega]
            have C := free_any HI3.out HC3.out (show jn < n by omega)
            have hdn := HD.out
            rw [show downF g.on b (d + 1) = if g.on (b + d) then downF g.on b d else some (b + d) from rfl, hjn] at hdn
            have q9 : (b : Int) ≤ (jn : Int) := by omega
            have hj9 : (jn : Int) ≤ 5000 := by omega
            have HJN := Aside0.mk hjn
            cases hf : g.on jn with
            | true =>
              rw [hf] at C
              rw [hf, if_pos rfl] at hdn
              have HD2 := Aside0.mk hdn
              have C := Aside0.mk C
              clear hdn hf HD hjn
              go_wp2_with fail
              refine C.out.mono ?_
              clear C
              rintro e w4 ⟨rfl, rfl⟩
              go_wp2
              go_roundg (d + 1)
              case measure => have := HQ2.out; omega
              case rel => exact ⟨d, by congr 1; have := HJN.out; omega, by omega, ⟨by omega⟩, HD2, rfl⟩
            | false =>
              rw [hf] at C
              rw [hf, if_neg Bool.false_ne_true] at hdn
              have HE : Aside0 (openN n b nx (bn : Int) g = ⟨(bn : Int), 0, shiftL n jn ⟨g, []⟩ (bn - jn)⟩) := ⟨by unfold openN; rw [HN.out, ← hdn, Int.toNat_natCast]⟩
              have hdw := downF_some hdn.symm
              have HDW : Aside0 (g.on jn = false ∧ ∀ k, jn < k → k ≤ bn → g.on k = true) := ⟨hf, fun k k1 k2 => hdw.2.2.2 k k1 (by omega)⟩
              have hjb : jn ≤ bn := by omega
              have C := Aside0.mk C
              clear hdn hf hdw HD hjn
              go_wp2_with fail
              refine C.out.mono ?_
              clear C
              rintro e w4 ⟨rfl, rfl⟩
              go_wp2
              go_loopg [21] (bn + 1) (fun kq v21 W => ∃ (d : Nat) (s : σ), v21 = .int .i64 ((jn : Int) + (d : Int)) ∧ jn + d ≤ bn ∧ Aside0 (bn + 1 - d ≤ kq) ∧ Aside0 (Sep w0 W (T s (shiftL n jn ⟨g, []⟩ d).ms ++ (S1.Arr p sb ob wb n (shiftL n jn ⟨g, []⟩ d).g :: MB (w.heap.size + 1) p (.func (.func ft) #[] fc) (shiftL n jn ⟨g, []⟩ d).ms.length ++ (L ++ [S1.Blk w.heap.size #[.pointer (some ⟨p, 0, none⟩)] 25])))))
              case atStart => exact ⟨0, s, by go_num, by omega, ⟨by omega⟩, HS3⟩
              case round =>
                clear HS3
                obtain ⟨d, s, rfl, hd, HQ3, HS⟩ := hrel
                obtain ⟨j, hj⟩ : ∃ j : Nat, jn + d = j := ⟨_, rfl⟩
                rw [show (jn : Int) + (d : Int) = (j : Int) by omega]
                have hn2 : bn < n := by omega
                have hsi := shiftL_inv (z := bn) HL.out hn2 HDW.out.1 HDW.out.2 d hd
                have hms := shiftL_few (n := n) (i := jn) (g := g) d
                by_cases hgt : j < bn
                · have hv := shiftL_valid (z := bn) (d := d) HL.out hn2 HDW.out.1 HDW.out.2 (by omega)
                  have CM := mover1_move HTl.out HS.out hsi.1 hv (by omega)
                  have hst : shiftL n jn ⟨g, []⟩ (d + 1) = ⟨moveS n (shiftL n jn ⟨g, []⟩ d).g ((jn + d + 1 : Nat) : Int) ((jn + d : Nat) : Int), (shiftL n jn ⟨g, []⟩ d).ms ++ [⟨(shiftL n jn ⟨g, []⟩ d).g.xs.getD (jn + d + 1) 0, ((jn + d + 1 : Nat) : Int), ((jn + d : Nat) : Int)⟩]⟩ := rfl
                  rw [hj] at CM hst
                  rw [show ((j + 1 : Nat) : Int) = (j : Int) + 1 by omega] at CM hst
                  have HST := Aside0.mk hst
                  have CM := Aside0.mk CM
                  have HJ := Aside0.mk (And.intro hj hd)
                  have hj4 : (j : Int) ≤ 5000 := by omega
                  clear hst hv hsi hms hj hd HS HQ2
                  go_wp2_with fail
                  refine CM.out.mono ?_
                  clear CM
                  rintro e w5 ⟨rfl, s', h6⟩
                  have HS := Aside0.mk h6
                  clear h6
                  go_wp2
                  go_roundg (bn - d)
                  case measure => have := HQ3.out; have := HJ.out; omega
                  case rel => exact ⟨d + 1, s', by congr 1; have := HJ.out; omega, by have := HJ.out; omega, ⟨by have := HJ.out; omega⟩, ⟨by rw [HST.out]; exact HS.out⟩⟩
                · obtain rfl : j = bn := by omega
                  obtain rfl : d = j - jn := by omega
                  clear hsi hms
                  go_wp2
                  go_ret2
                  refine ⟨by rw [HER.out, HE.out]; rfl, s, ?_⟩
                  rw [HER.out, HE.out]
                  exact HS.out.sub (List.Sublist.append (List.Sublist.refl _) (List.Sublist.cons_cons _ ((List.sublist_append_left _ _).trans (List.sublist_append_right _ _))))
end
end Go.Proofs.YtofkkdjbilklcaaDoor.Z4
/- The document's array of slots (punnetref02), walked: put, moved, its places, its items. -/
namespace Go.Proofs.YtofkkdjbilklcaaDoor.ZR
open Go.RowKit Go.Proofs.YtofkkdjbilklcaaDoorW.PrintWords Go.Proofs.YtofkkdjbilklcaaDoorW.PrintLast Go.Proofs.YtofkkdjbilklcaaDoorW.PrintMore G1 G0 Q1 G2 G3 G4 G5 G6 G7 G8 G9 G10 S1 SN Y2
set_option linter.unusedVariables false
set_option linter.unusedSimpArgs false
/-- A slot. -/
structure Sl where
  f0 : Bool
  f1 : Int
def zSl : Sl := ⟨false, 0⟩
/-- The cells of a row of slots. -/
def slc (L : List Sl) : List Value := L.flatMap fun s => [.bool s.f0, .int .i64 s.f1]
theorem slc_cons (s : Sl) (L : List Sl) : slc (s :: L) = .bool s.f0 :: .int .i64 s.f1 :: slc L := rfl
theorem slc_length (L : List Sl) : (slc L).length = L.length * 2 := by
  induction L with
  | nil => rfl
  | cons s L ih => rw [slc_cons]; simp only [List.length_cons, ih]; omega
theorem slc_at : ∀ (L : List Sl) (i : Nat), i < L.length → (slc L)[i * 2]? = some (.bool (L.getD i zSl).f0) ∧ (slc L)[i * 2 + 1]? = some (.int .i64 (L.getD i zSl).f1) := by
  intro L
  induction L with
  | nil => intro i h; simp at h
  | cons s L ih =>
    intro i h
    cases i with
    | zero => exact ⟨rfl, rfl⟩
    | succ i =>
      have := ih i (by simpa using h)
      rw [slc_cons, show (i + 1) * 2 = i * 2 + 1 + 1 by omega]
      exact this
theorem slc_set : ∀ (L : List Sl) (i : Nat) (b : Bool) (x : Int), ((slc L).set (i * 2) (.bool b)).set (i * 2 + 1) (.int .i64 x) = slc (L.set i ⟨b, x⟩) := by
  intro L
  induction L with
  | nil => intro i b x; simp [slc]
  | cons s L ih =>
    intro i b x
    cases i with
    | zero => rfl
    | succ i =>
      rw [slc_cons, show (i + 1) * 2 = i * 2 + 1 + 1 by omega]
      simp only [List.set_cons_succ, slc_cons]
      rw [ih]
theorem slc_set1 : ∀ (L : List Sl) (i : Nat) (x : Int), (slc L).set (i * 2 + 1) (.int .i64 x) = slc (L.set i ⟨(L.getD i zSl).f0, x⟩) := by
  intro L
  induction L with
  | nil => intro i x; simp [slc]
  | cons s L ih =>
    intro i x
    cases i with
    | zero => rfl
    | succ i =>
      rw [slc_cons, show (i + 1) * 2 = i * 2 + 1 + 1 by omega]
      simp only [List.set_cons_succ, slc_cons]
      rw [ih]
      rfl
section
variable {w : World} {b : Nat} {L : List Sl}
theorem slb_cell (h : w.heap[b]? = some (.cells (slc L).toArray 93 (0, 0))) {i : Nat} (hi : i < L.length) : w.cell? ⟨b, i * 2, none⟩ = some (.bool (L.getD i zSl).f0) ∧ w.cell? ⟨b, i * 2 + 1, none⟩ = some (.int .i64 (L.getD i zSl).f1) := by
  rw [blk_cell h, blk_cell h]
  simpa using slc_at L i hi
end
/-- The document's slots of an array. -/
def slots (n : Nat) (g : Gap) : List Sl := (List.range n).map fun i => ⟨g.on i, g.xs.getD i 0⟩
theorem slots_length (n : Nat) (g : Gap) : (slots n g).length = n := by simp [slots]
theorem slots_get (n : Nat) (g : Gap) {i : Nat} (hi : i < n) : (slots n g).getD i zSl = ⟨g.on i, g.xs.getD i 0⟩ := by
  rw [List.getD_eq_getElem?_getD]
  simp [slots, hi]
theorem slots_ext {n : Nat} {L : List Sl} {g : Gap} (h1 : L.length = n) (h2 : ∀ i, i < n → L.getD i zSl = ⟨g.on i, g.xs.getD i 0⟩) : L = slots n g := by
  apply List.ext_getElem
  · rw [h1, slots_length]
  · intro i hi hi2
    have := h2 i (by omega)
    have e := slots_get n g (show i < n by omega)
    rw [List.getD_eq_getElem?_getD, List.getElem?_eq_getElem hi] at this
    rw [List.getD_eq_getElem?_getD, List.getElem?_eq_getElem hi2] at e
    exact this.trans e.symm
theorem slots_zero (n : Nat) : slots n (gap0 n) = List.replicate n zSl := by
  symm
  refine slots_ext (by simp) fun i hi => ?_
  rw [List.getD_eq_getElem?_getD]
  simp [hi, gap0, List.getElem?_replicate]
  rfl
theorem slots_put {n : Nat} {g : Gap} {i : Nat} {x : Int} (hi : i < n) (hx : g.xs.length = n) : (slots n g).set i ⟨true, x⟩ = slots n ⟨upd g.on i true, g.xs.set i x⟩ := by
  refine slots_ext (by rw [List.length_set, slots_length]) fun j hj => ?_
  by_cases e : j = i
  · subst e
    rw [List.getD_eq_getElem?_getD, List.getElem?_set_self (by rw [slots_length]; exact hj)]
    simp [upd, hx, hj]
  · rw [List.getD_eq_getElem?_getD, List.getElem?_set_ne (by omega), ← List.getD_eq_getElem?_getD, slots_get n g hj]
    simp [upd, e, List.getD_eq_getElem?_getD, List.getElem?_set_ne (Ne.symm e)]
theorem info_slot : (Tryd.prog.info? 93).map (fun i => (i.zero, i.size, i.bytes)) = some (some (.agg #[.bool false, .int .i64 0]), 2, 16) := by kernel_rfl
theorem made_slots (n : Nat) : madeCells #[.bool false, .int .i64 0] (n * 2) = (slc (List.replicate n zSl)).toArray := by
  have h : slc (List.replicate n zSl) = (List.range (n * 2)).map fun i => #[Value.bool false, Value.int .i64 0][i % 2]! := by
    induction n with
    | zero => rfl
    | succ n ih =>
      rw [List.replicate_succ', slc, List.flatMap_append, ← slc, ih, show (n + 1) * 2 = n * 2 + 1 + 1 by omega, List.range_succ, List.range_succ]
      simp
      exact ⟨rfl, rfl⟩
  rw [h]
  unfold madeCells
  rw [← List.toArray_range]
  exact List.map_toArray
theorem make_slots (n : Nat) (hn : n ≤ 1000000) (W : World) : (Instr.makeSlice 37 (.int .i64 (n : Int)) (.int .i64 (n : Int))).run Tryd.prog W = .ok (.slice (some ⟨W.heap.size, 0, none⟩) n n) (W.alloc (.cells (slc (List.replicate n zSl)).toArray 93)) := by
  obtain ⟨i, hi, hzz⟩ := Option.map_eq_some_iff.1 info_slot
  simp only [Prod.mk.injEq] at hzz
  obtain ⟨hz, hs, hb⟩ := hzz
  have h := run_make (P := Tryd.prog) W 37 93 i _ Tryd.underlying37 hi hz .i64 .i64 (n : Int) (n : Int) (by omega) (by omega) (by rw [hb]; omega) (by omega)
  have e : madeCells (Value.agg #[.bool false, .int .i64 0]).cells (n * 2) = (slc (List.replicate n zSl)).toArray := made_slots n
  rw [hs, Int.toNat_natCast, e] at h
  exact h
/-- The document's array. -/
structure RefAt (w : World) (r lb n : Nat) (g : Gap) : Prop where
  hr : w.heap[r]? = some (.cells #[.slice (some ⟨lb, 0, none⟩) n n] 39 (0, 0))
  hl : w.heap[lb]? = some (.cells (slc (slots n g)).toArray 93 (0, 0))
  len : g.xs.length = n
  high : n ≤ 65536
section
variable {w w' : World} {r lb n : Nat} {g : Gap}
theorem RefAt.stay (h : RefAt w r lb n g) (hs : ∀ k ∈ [r, lb], w'.heap[k]? = w.heap[k]?) : RefAt w' r lb n g :=
  ⟨(hs r (by simp)).trans h.hr, (hs lb (by simp)).trans h.hl, h.len, h.high⟩
theorem RefAt.below (h : RefAt w r lb n g) (hb : Below w.heap.size w w') : RefAt w' r lb n g := h.stay fun k hk => by
  simp only [List.mem_cons, List.not_mem_nil, or_false] at hk
  rcases hk with rfl | rfl
  · exact hb.block _ (blk_lt h.hr)
  · exact hb.block _ (blk_lt h.hl)
theorem RefAt.c0 (h : RefAt w r lb n g) : w.cell? ⟨r, 0, none⟩ = some (.slice (some ⟨lb, 0, none⟩) n n) := (blk_cell h.hr 0).trans rfl
theorem RefAt.ne (h : RefAt w r lb n g) : r ≠ lb := blk_ne h.hr h.hl (by decide)
theorem RefAt.cells (h : RefAt w r lb n g) {i : Nat} (hi : i < n) : w.cell? ⟨lb, i * 2, none⟩ = some (.bool (g.on i)) ∧ w.cell? ⟨lb, i * 2 + 1, none⟩ = some (.int .i64 (g.xs.getD i 0)) := by
  have := slb_cell h.hl (i := i) (by rw [slots_length]; exact hi)
  rwa [slots_get n g hi] at this
theorem RefAt.turn (h : RefAt w r lb n g) (j : Nat) (o : Bool) (x : Int) : RefAt ((w.setCell ⟨lb, j * 2, none⟩ (.bool o)).setCell ⟨lb, j * 2 + 1, none⟩ (.int .i64 x)) r lb n ⟨upd g.on j o, g.xs.set j x⟩ := by
  refine ⟨blk_far (blk_far h.hr h.ne _) h.ne _, ?_, by rw [List.length_set]; exact h.len, h.high⟩
  have h2 := blk_set (blk_set h.hl (j * 2) (.bool o)) (j * 2 + 1) (.int .i64 x)
  rw [h2]
  congr 2
  have e3 : (((slc (slots n g)).toArray.setIfInBounds (j * 2) (.bool o)).setIfInBounds (j * 2 + 1) (.int .i64 x)) = (slc ((slots n g).set j ⟨o, x⟩)).toArray := by
    simp [slc_set]
  rw [e3]
  congr 2
  refine slots_ext (by rw [List.length_set, slots_length]) fun i hi => ?_
  by_cases c : i = j
  · subst c
    rw [List.getD_eq_getElem?_getD, List.getElem?_set_self (by rw [slots_length]; exact hi)]
    simp [upd, h.len, hi, List.getD_eq_getElem?_getD]
  · rw [List.getD_eq_getElem?_getD, List.getElem?_set_ne (Ne.symm c), ← List.getD_eq_getElem?_getD, slots_get n g hi]
    simp [upd, c, List.getD_eq_getElem?_getD, List.getElem?_set_ne (Ne.symm c)]
theorem only2 (w : World) (lb j : Nat) (u v : Value) : Only (· = lb) w ((w.setCell ⟨lb, j * 2, none⟩ u).setCell ⟨lb, j * 2 + 1, none⟩ v) :=
  (Only.set (· = lb) w (p := ⟨lb, j * 2, none⟩) rfl u).trans (Only.set (· = lb) _ (p := ⟨lb, j * 2 + 1, none⟩) rfl v)
theorem rhas_any (h : RefAt w r lb n g) (i : Int) : Calls Tryd.prog 108 #[.pointer (some ⟨r, 0, none⟩), .int .i64 i] w fun e w' => e = .returned (.bool (inR n i)) ∧ w = w' := by
  have c0 := h.c0
  have hn := h.high
  clear h
  unfold inR
  by_cases h0 : 0 ≤ i
  · by_cases h1 : i < n
    · rw [decide_eq_true (And.intro h0 h1)]
      go_enter Tryd.func108, Tryd.ntmps108
      go_wp2
      go_ret
      exact ⟨rfl, rfl⟩
    · rw [decide_eq_false (fun c => h1 c.2)]
      have h2 : decide (i < (n : Int)) = false := decide_eq_false h1
      go_enter Tryd.func108, Tryd.ntmps108
      go_wp2
      go_ret
      exact ⟨rfl, rfl⟩
  · rw [decide_eq_false (fun c => h0 c.1)]
    have h2 : decide (0 ≤ i) = false := decide_eq_false h0
    go_enter Tryd.func108, Tryd.ntmps108
    go_wp2
    go_ret
    exact ⟨rfl, rfl⟩
theorem rput_any (h : RefAt w r lb n g) (i x : Int) : Calls Tryd.prog 65 #[.pointer (some ⟨r, 0, none⟩), .int .i64 i, .int .i64 x] w fun e w' => e = .returned (.int .i64 (putR n g i)) ∧ RefAt w' r lb n (putS n g i x) ∧ Only (· = lb) w w' := by
  have H := Aside0.mk h
  have C := Aside0.mk (rhas_any h i)
  have c0 := h.c0
  have hn := h.high
  unfold putS putR
  cases hi : inR n i
  · rw [hi] at C
    rw [if_neg (by decide), if_neg (by decide)]
    clear h hi
    go_enter Tryd.func65, Tryd.ntmps65
    go_wp2_with fail
    refine C.out.mono ?_
    rintro e w1 ⟨rfl, rfl⟩
    go_wp2
    go_ret
    exact ⟨rfl, H.out, Only.refl _ _⟩
  · rw [hi] at C
    rw [if_pos rfl]
    have hi2 : 0 ≤ i ∧ i < (n : Int) := of_decide_eq_true hi
    obtain ⟨k, rfl⟩ := Int.eq_ofNat_of_zero_le hi2.1
    have hk : k < n := by omega
    have f0 := blk_frozen h.hl (k * 2)
    have f1 := blk_frozen h.hl (k * 2 + 1)
    obtain ⟨s0, s1⟩ := h.cells hk
    rw [Int.toNat_natCast]
    clear h hi hi2
    cases hf : g.on k
    · rw [hf] at s0
      rw [if_neg (by decide), if_pos rfl]
      clear hf
      go_enter Tryd.func65, Tryd.ntmps65
      go_wp2_with fail
      refine C.out.mono ?_
      rintro e w1 ⟨rfl, rfl⟩
      go_wp2
      go_ret
      exact ⟨rfl, H.out.turn k true x, only2 _ _ _ _ _⟩
    · rw [hf] at s0
      rw [if_pos rfl, if_neg (by decide)]
      clear hf
      go_enter Tryd.func65, Tryd.ntmps65
      go_wp2_with fail
      refine C.out.mono ?_
      rintro e w1 ⟨rfl, rfl⟩
      go_wp2
      go_ret
      exact ⟨rfl, H.out, Only.refl _ _⟩
set_option maxRecDepth 100000 in
theorem rmove_any (h : RefAt w r lb n g) (i j : Int) : Calls Tryd.prog 111 #[.pointer (some ⟨r, 0, none⟩), .int .i64 i, .int .i64 j] w fun e w' => e = .returned (.int .i64 (moveR n g i j)) ∧ RefAt w' r lb n (moveS n g i j) ∧ Only (· = lb) w w' := by
  have H := Aside0.mk h
  have C := Aside0.mk (rhas_any h i)
  have D := Aside0.mk (rhas_any h j)
  have c0 := h.c0
  have hn := h.high
  unfold moveS moveR
  cases hi : inR n i
  · rw [hi] at C
    rw [Bool.false_and, if_neg (by decide), if_neg (by decide)]
    clear h hi
    go_enter Tryd.func111, Tryd.ntmps111
    go_wp2_with fail
    refine C.out.mono ?_
    rintro e w1 ⟨rfl, rfl⟩
    go_wp2
    go_ret
    exact ⟨rfl, H.out, Only.refl _ _⟩
  · cases hj : inR n j
    · rw [hi] at C
      rw [hj] at D
      rw [Bool.and_false, if_neg (by decide), if_neg (by decide)]
      clear h hi hj
      go_enter Tryd.func111, Tryd.ntmps111
      go_wp2_with fail
      refine C.out.mono ?_
      rintro e w1 ⟨rfl, rfl⟩
      go_wp2_with fail
      refine D.out.mono ?_
      rintro e w1 ⟨rfl, rfl⟩
      go_wp2
      go_ret
      exact ⟨rfl, H.out, Only.refl _ _⟩
    · rw [hi] at C
      rw [hj] at D
      rw [Bool.and_self, if_pos rfl]
      have hi2 : 0 ≤ i ∧ i < (n : Int) := of_decide_eq_true hi
      have hj2 : 0 ≤ j ∧ j < (n : Int) := of_decide_eq_true hj
      obtain ⟨k, rfl⟩ := Int.eq_ofNat_of_zero_le hi2.1
      obtain ⟨m, rfl⟩ := Int.eq_ofNat_of_zero_le hj2.1
      have hk : k < n := by omega
      have hm : m < n := by omega
      have f0 := blk_frozen h.hl (k * 2)
      have f1 := blk_frozen h.hl (k * 2 + 1)
      have f2 := blk_frozen h.hl (m * 2)
      have f3 := blk_frozen h.hl (m * 2 + 1)
      obtain ⟨s0, s1⟩ := h.cells hk
      obtain ⟨s2, s3⟩ := h.cells hm
      have nr := h.ne
      have nr2 := nr.symm
      rw [Int.toNat_natCast, Int.toNat_natCast]
      clear h hi hi2 hj hj2
      cases hf : g.on k
      · rw [hf] at s0
        rw [if_neg (by decide), if_neg (by decide)]
        clear hf
        go_enter Tryd.func111, Tryd.ntmps111
        go_wp2_with fail
        refine C.out.mono ?_
        rintro e w1 ⟨rfl, rfl⟩
        go_wp2_with fail
        refine D.out.mono ?_
        rintro e w1 ⟨rfl, rfl⟩
        go_wp2
        go_ret
        exact ⟨rfl, H.out, Only.refl _ _⟩
      · rw [hf] at s0
        rw [if_pos rfl]
        cases hf2 : g.on m
        · rw [hf2] at s2
          rw [if_neg (by decide), if_pos rfl]
          have hne : k ≠ m := by rintro rfl; rw [hf] at hf2; cases hf2
          obtain ⟨x0, hx0⟩ : ∃ x0, g.xs.getD k 0 = x0 := ⟨_, rfl⟩
          rw [hx0] at s1
          have EG : Aside0 ((⟨upd (upd g.on m true) k false, (g.xs.set m x0).set k 0⟩ : Gap) = ⟨upd (upd g.on k false) m true, (g.xs.set k 0).set m (g.xs.getD k 0)⟩) := ⟨by
            rw [hx0, List.set_comm _ _ hne]
            congr 1
            funext q
            simp only [upd]
            by_cases c1 : q = k
            · rw [if_pos c1, if_neg (by omega), if_pos c1]
            · rw [if_neg c1, if_neg c1]⟩
          have HX := Aside0.mk hx0
          have HF := Aside0.mk (And.intro hf hf2)
          have HB := Aside0.mk (below_drew (Below.refl w.heap.size w))
          clear hf hf2 hx0 hne
          rw [← EG.out]
          go_enter Tryd.func111, Tryd.ntmps111
          go_wp2_with fail
          refine C.out.mono ?_
          rintro e w1 ⟨rfl, rfl⟩
          go_wp2_with fail
          refine D.out.mono ?_
          rintro e w1 ⟨rfl, rfl⟩
          go_wp2
          go_still_tail 13, (by kernel_rfl)
          change wpList _ _ _ _ _ w.drew
          clear c0 s0 s1 s2 s3 f0 f1 f2 f3 C D
          generalize w.drew = w2 at *
          have H2 := Aside0.mk (H.out.below HB.out)
          have c0 := H2.out.c0
          obtain ⟨s0, s1⟩ := H2.out.cells hk
          obtain ⟨s2, s3⟩ := H2.out.cells hm
          rw [HF.out.1] at s0
          rw [HF.out.2] at s2
          rw [HX.out] at s1
          have f0 := blk_frozen H2.out.hl (k * 2)
          have f1 := blk_frozen H2.out.hl (k * 2 + 1)
          have f2 := blk_frozen H2.out.hl (m * 2)
          have f3 := blk_frozen H2.out.hl (m * 2 + 1)
          have HT := Aside0.mk ((H2.out.turn m true x0).turn k false 0)
          have H3 := H2.out.turn m true x0
          obtain ⟨z0, z1⟩ := H3.cells hk
          have g0 := blk_frozen H3.hl (k * 2)
          have g1 := blk_frozen H3.hl (k * 2 + 1)
          have z2 := H3.c0
          clear H3
          go_wp2
          go_ret
          exact ⟨rfl, HT.out, ((Only.of_below HB.out).trans (only2 _ _ _ _ _)).trans (only2 _ _ _ _ _)⟩
        · rw [hf2] at s2
          rw [if_pos rfl, if_neg (by decide)]
          clear hf hf2
          go_enter Tryd.func111, Tryd.ntmps111
          go_wp2_with fail
          refine C.out.mono ?_
          rintro e w1 ⟨rfl, rfl⟩
          go_wp2_with fail
          refine D.out.mono ?_
          rintro e w1 ⟨rfl, rfl⟩
          go_wp2
          go_ret
          exact ⟨rfl, H.out, Only.refl _ _⟩
set_option maxRecDepth 100000 in
set_option maxHeartbeats 1000000 in
theorem rplaces_any (h : RefAt w r lb n g) : Calls Tryd.prog 70 #[.pointer (some ⟨r, 0, none⟩)] w fun e w' => ∃ v, e = .returned v ∧ Sep w w' [S1.Own v (keys (ons g.on g.xs n))] := by
  have H := Aside0.mk h
  have hn := h.high
  have HS : Aside0 (Sep w _ [S1.Own (.slice (some ⟨w.heap.size, 0, none⟩) 0 0) []]) := ⟨(Sep.nil w).new_own (below_alloc (Below.refl _ w) (.cells #[] 3)) (own_lit w w.heap.size 3 .i64 [] (Nat.le_refl _) (by decide))⟩
  clear h
  go_enter Tryd.func70, Tryd.ntmps70
  go_wp2
  go_loopg [3, 4] n (fun kq v3 v4 w' => ∃ i : Nat, v4 = .int .i64 i ∧ i ≤ n ∧ Aside0 (n - i ≤ kq) ∧ Aside0 (Sep w w' [S1.Own v3 (keys (ons g.on g.xs i))]))
  case atStart => exact ⟨0, rfl, by omega, ⟨by omega⟩, HS⟩
  case round =>
    clear HS
    obtain ⟨i, rfl, hi', HQ, HS⟩ := hrel
    have HR := Aside0.mk (H.out.below HS.out.below)
    have c0 := HR.out.c0
    by_cases hlt : i < n
    · obtain ⟨gk, rfl⟩ : ∃ m, gk = m + 1 := ⟨gk - 1, by have := HQ.out; omega⟩
      obtain ⟨s0, s1⟩ := HR.out.cells hlt
      have hln : (keys (ons g.on g.xs i)).length ≤ n := by
        have := cntF_le g.on i
        have h2 := ons_length g.on g.xs i
        simp only [keys, List.length_map]
        omega
      have EN := Aside0.mk (ons_succ g.on g.xs i)
      cases hf : g.on i
      · rw [hf] at s0 EN
        have EV : Aside0 (keys (ons g.on g.xs (i + 1)) = keys (ons g.on g.xs i)) := ⟨by rw [EN.out]; simp⟩
        clear hf EN
        go_wp2
        go_roundg gk
        case measure => omega
        case rel => exact ⟨i + 1, by go_num, by omega, ⟨by have := HQ.out; omega⟩, ⟨by rw [EV.out]; exact HS.out⟩⟩
      · rw [hf] at s0 EN
        generalize hx : g.xs.getD i 0 = x0 at *
        clear hx
        have EV : Aside0 (keys (ons g.on g.xs (i + 1)) = keys (ons g.on g.xs i) ++ [(i : Int)]) := ⟨by rw [EN.out]; simp [keys]⟩
        clear hf EN
        go_wp2_with ((with_reducible refine gate_builtin (b := .append) (xs := #[.tmp 23, .tmp 25]) rfl ?_); at_builtin; refine SN.sep_append rfl (.tmp 23) (.tmp 25) rfl HS.out 0 rfl (i : Int) rfl rfl (by omega) ?_; intro v1 w1 hs2; have HS2 := Aside0.mk hs2; clear hs2)
        go_roundg gk
        case measure => omega
        case rel => exact ⟨i + 1, by go_num, by omega, ⟨by have := HQ.out; omega⟩, ⟨by rw [EV.out]; exact HS2.out⟩⟩
    · obtain rfl : n = i := by omega
      go_wp2
      go_ret
      exact ⟨_, rfl, HS.out⟩
set_option maxRecDepth 100000 in
set_option maxHeartbeats 1000000 in
theorem ritems_any (h : RefAt w r lb n g) : Calls Tryd.prog 69 #[.pointer (some ⟨r, 0, none⟩)] w fun e w' => ∃ v, e = .returned v ∧ Sep w w' [S1.Own v (vals (ons g.on g.xs n))] := by
  have H := Aside0.mk h
  have hn := h.high
  have HS : Aside0 (Sep w _ [S1.Own (.slice (some ⟨w.heap.size, 0, none⟩) 0 0) []]) := ⟨(Sep.nil w).new_own (below_alloc (Below.refl _ w) (.cells #[] 3)) (own_lit w w.heap.size 3 .i64 [] (Nat.le_refl _) (by decide))⟩
  clear h
  go_enter Tryd.func69, Tryd.ntmps69
  go_wp2
  go_loopg [3, 4] n (fun kq v3 v4 w' => ∃ i : Nat, v4 = .int .i64 i ∧ i ≤ n ∧ Aside0 (n - i ≤ kq) ∧ Aside0 (Sep w w' [S1.Own v3 (vals (ons g.on g.xs i))]))
  case atStart => exact ⟨0, rfl, by omega, ⟨by omega⟩, HS⟩
  case round =>
    clear HS
    obtain ⟨i, rfl, hi', HQ, HS⟩ := hrel
    have HR := Aside0.mk (H.out.below HS.out.below)
    have c0 := HR.out.c0
    by_cases hlt : i < n
    · obtain ⟨gk, rfl⟩ : ∃ m, gk = m + 1 := ⟨gk - 1, by have := HQ.out; omega⟩
      obtain ⟨s0, s1⟩ := HR.out.cells hlt
      have hln : (vals (ons g.on g.xs i)).length ≤ n := by
        have := cntF_le g.on i
        have h2 := ons_length g.on g.xs i
        simp only [vals, List.length_map]
        omega
      have EN := Aside0.mk (ons_succ g.on g.xs i)
      cases hf : g.on i
      · rw [hf] at s0 EN
        have EV : Aside0 (vals (ons g.on g.xs (i + 1)) = vals (ons g.on g.xs i)) := ⟨by rw [EN.out]; simp⟩
        clear hf EN
        go_wp2
        go_roundg gk
        case measure => omega
        case rel => exact ⟨i + 1, by go_num, by omega, ⟨by have := HQ.out; omega⟩, ⟨by rw [EV.out]; exact HS.out⟩⟩
      · rw [hf] at s0 EN
        generalize hx : g.xs.getD i 0 = x0 at *
        clear hx
        have EV : Aside0 (vals (ons g.on g.xs (i + 1)) = vals (ons g.on g.xs i) ++ [x0]) := ⟨by rw [EN.out]; simp [vals]⟩
        clear hf EN
        go_wp2_with ((with_reducible refine gate_builtin (b := .append) (xs := #[.tmp 23, .tmp 32]) rfl ?_); at_builtin; refine SN.sep_append rfl (.tmp 23) (.tmp 32) rfl HS.out 0 rfl x0 rfl rfl (by omega) ?_; intro v1 w1 hs2; have HS2 := Aside0.mk hs2; clear hs2)
        go_roundg gk
        case measure => omega
        case rel => exact ⟨i + 1, by go_num, by omega, ⟨by have := HQ.out; omega⟩, ⟨by rw [EV.out]; exact HS2.out⟩⟩
    · obtain rfl : n = i := by omega
      go_wp2
      go_ret
      exact ⟨_, rfl, HS.out⟩
end
/-- The document's array, as an object. -/
def RefO (r lb n : Nat) (g : Gap) : Ob where
  F := [r, lb]
  P := fun w => RefAt w r lb n g
  st := fun hs h => h.stay hs
theorem ref_turn {w0 w w' : World} {l : List Ob} {r lb n : Nat} {g g' : Gap} (h : Sep w0 w l) (i : Nat) (e : l[i]? = some (RefO r lb n g)) (ho : Only (· = lb) w w') (hs : RefAt w' r lb n g') : Sep w0 w' (l.set i (RefO r lb n g')) :=
  h.turn i e ho (fun k hk => by rw [hk]; simp [RefO]) _ hs (fun k hk => .inl hk)
theorem ref_new {w0 w : World} {l : List Ob} {n : Nat} (hn : n ≤ 65536) (h : Sep w0 w l) : Sep w0 ((w.alloc (.cells (slc (List.replicate n zSl)).toArray 93)).alloc (.cells #[.slice (some ⟨w.heap.size, 0, none⟩) n n] 39)) (l ++ [RefO (w.heap.size + 1) w.heap.size n (gap0 n)]) := by
  have k1 := blk_new w (.cells (slc (List.replicate n zSl)).toArray 93)
  have k2 := blk_new (w.alloc (.cells (slc (List.replicate n zSl)).toArray 93)) (.cells #[.slice (some ⟨w.heap.size, 0, none⟩) n n] 39)
  simp only [World.size_alloc] at k2
  refine h.push (below_alloc (below_alloc (Below.refl _ w) _) _) _ ⟨k2, ?_, by simp [gap0], hn⟩ fun k hk => ?_
  · rw [slots_zero]
    exact blk_alloc k1 _
  · simp only [RefO, List.mem_cons, List.not_mem_nil, or_false] at hk
    simp only [World.size_alloc]
    omega
end Go.Proofs.YtofkkdjbilklcaaDoor.ZR
/- Rows of moves: appended to, held by who is told, compared. -/
namespace Go.Proofs.YtofkkdjbilklcaaDoor.ZM
open Go.RowKit Go.Shelf Go.Proofs.YtofkkdjbilklcaaDoorW.PrintWords Go.Proofs.YtofkkdjbilklcaaDoorW.PrintLast Go.Proofs.YtofkkdjbilklcaaDoorW.PrintMore G1 G0 Q1 G2 G3 G4 G5 G6 G7 G8 G9 G10 S1 Y1 Y3 Y2 Z0 Z1 Z2 Z3 Z4 ZR
set_option linter.unusedVariables false
set_option linter.unusedSimpArgs false
def mvc (ms : List Mv) : List Value := ms.flatMap fun m => [.int .i64 m.x, .int .i64 m.f, .int .i64 m.t]
theorem mvc_cons (m : Mv) (ms : List Mv) : mvc (m :: ms) = .int .i64 m.x :: .int .i64 m.f :: .int .i64 m.t :: mvc ms := rfl
theorem mvc_length (ms : List Mv) : (mvc ms).length = ms.length * 3 := by
  induction ms with
  | nil => rfl
  | cons m ms ih => rw [mvc_cons]; simp only [List.length_cons, ih]; omega
theorem mvc_snoc (ms : List Mv) (m : Mv) : mvc (ms ++ [m]) = mvc ms ++ [.int .i64 m.x, .int .i64 m.f, .int .i64 m.t] := by simp [mvc]
def zMv : Mv := ⟨0, 0, 0⟩
theorem mvc_at : ∀ (ms : List Mv) (i : Nat), i < ms.length → (mvc ms)[i * 3]? = some (.int .i64 (ms.getD i zMv).x) ∧ (mvc ms)[i * 3 + 1]? = some (.int .i64 (ms.getD i zMv).f) ∧ (mvc ms)[i * 3 + 2]? = some (.int .i64 (ms.getD i zMv).t) := by
  intro ms
  induction ms with
  | nil => intro i h; simp at h
  | cons m ms ih =>
    intro i h
    cases i with
    | zero => exact ⟨rfl, rfl, rfl⟩
    | succ i =>
      have := ih i (by simpa using h)
      rw [mvc_cons, show (i + 1) * 3 = i * 3 + 1 + 1 + 1 by omega]
      exact this
/-- A row of moves of the function's own. -/
def OwnM (v : Value) (ms : List Mv) : Ob where
  F := v.ownBlock.toList
  P := fun w => w.ownsRow 0 31 3 v ms.length (mvc ms)
  st := fun hs h => own_move h fun k hk => hs k (by rw [hk]; simp)
theorem info_mv : (Tryd.prog.info? 31).map (fun i => (i.zero, i.size, i.bytes)) = some (some (.agg #[.int .i64 0, .int .i64 0, .int .i64 0]), 3, 24) := by kernel_rfl
theorem ownM_shape {w : World} {v : Value} {ms : List Mv} (h : (OwnM v ms).P w) : ∃ A c, v = .slice A ms.length c := by
  rcases h.2 with ⟨h1, h2⟩ | ⟨g, cap, cur, h1, _⟩
  · exact ⟨none, 0, by rw [h1, h2]⟩
  · exact ⟨_, cap, h1⟩
theorem ownM_cells {w : World} {A : Option Addr} {n c : Nat} {ms : List Mv} (h : (OwnM (.slice A n c) ms).P w) {i : Nat} (hi : i < ms.length) : ∃ b, A = some ⟨b, 0, none⟩ ∧ w.cell? ⟨b, i * 3, none⟩ = some (.int .i64 (ms.getD i zMv).x) ∧ w.cell? ⟨b, i * 3 + 1, none⟩ = some (.int .i64 (ms.getD i zMv).f) ∧ w.cell? ⟨b, i * 3 + 2, none⟩ = some (.int .i64 (ms.getD i zMv).t) := by
  rcases h.2 with ⟨h1, h2⟩ | ⟨g, cap, cur, h1, _, h3, _, _, h6, h7⟩
  · omega
  · injection h1 with e1 e2 e3
    refine ⟨g, e1, ?_⟩
    have key : ∀ j, j < ms.length * 3 → w.cell? ⟨g, j, none⟩ = (mvc ms)[j]? := fun j hj => by
      rw [← h7, List.getElem?_take_of_lt hj]
      refine (cell_of_row w g _ _ 31 (0, 0) h3).trans ?_
      simp
    obtain ⟨a1, a2, a3⟩ := mvc_at ms i hi
    exact ⟨(key _ (by omega)).trans a1, (key _ (by omega)).trans a2, (key _ (by omega)).trans a3⟩
/-- append(out, m), of a row of moves. -/
theorem sep_appendM {ops : Array Oper} {rest : List Oper} {o : Oper} {a : Act} {Q : Exit → Act → World → Prop} {w0 W : World} {l : List Ob} (hgd : o.guard = none) (s x : Operand) (ho : o.op = .call { callee := .builtin .append, args := #[s, x], argTypes := #[29, 29] })
    {v : Value} {ms : List Mv} (h : S1.Sep w0 W l) (i : Nat) (e : l[i]? = some (OwnM v ms)) (m : Mv) (hs : a.eval s = v) (hx : a.eval x = .slice (some ⟨W.heap.size, 0, none⟩) 1 1) (hl : ms.length ≤ 1000000)
    (K : ∀ v1 w1, S1.Sep w0 w1 (l.set i (OwnM v1 (ms ++ [m]))) → wpList Tryd.prog ops Q rest (a.put o.dst v1) w1) :
    wpList Tryd.prog ops Q (o :: rest) a (W.alloc (.cells #[.int .i64 m.x, .int .i64 m.f, .int .i64 m.t] 31)) := by
  obtain ⟨i0, hi, hzz⟩ := Option.map_eq_some_iff.1 info_mv
  simp only [Prod.mk.injEq] at hzz
  obtain ⟨hz0, hz1, hz2⟩ := hzz
  have HO : W.ownsRow 0 31 3 v ms.length (mvc ms) := h.get i e
  refine wpList_append_own_at (W.alloc (.cells #[.int .i64 m.x, .int .i64 m.f, .int .i64 m.t] 31)) hgd s x 29 ho 0 31 i0 _ 3 24 Tryd.underlying29 hi hz0 hz1 hz2 rfl (by omega) v ms.length (mvc ms) hs (HO.alloc _) ⟨W.heap.size, 0, none⟩ 1 1 [.int .i64 m.x, .int .i64 m.f, .int .i64 m.t] hx rfl
    (World.news_of_block (cs := #[.int .i64 m.x, .int .i64 m.f, .int .i64 m.t]) (t := 31) (fr := (0, 0)) (heap_alloc_new W _)) (by simp [Value.oneCell']) (by simp only [maxLen]; omega) (by omega) (by simp) ?_
  intro v1 w1 hown hg _ hat
  have hown1 : w1.ownsRow 0 31 3 v1 (ms ++ [m]).length (mvc (ms ++ [m])) := by
    rw [mvc_snoc, List.length_append]
    exact hown
  have hg2 := World.grownBy.trans (World.grownBy_alloc W (.cells #[.int .i64 m.x, .int .i64 m.f, .int .i64 m.t] 31) v.ownBlock) hg
  have ho : Only (fun k => v.ownBlock = some k) W w1 := ⟨hg2.os, hg2.tape, hg2.output, hg2.size, fun k hk hn => hg2.block k hk (fun e => hn e.symm)⟩
  refine K v1 w1 (h.turn i e ho (fun k hk => by simp [OwnM, hk]) (OwnM v1 (ms ++ [m])) hown1 fun k hk => ?_)
  have hk' : v1.ownBlock = some k := by simpa [OwnM] using hk
  rcases hat with hat | hat
  · exact .inl (by simp only [OwnM]; rw [← hat]; exact hk)
  · rw [hat] at hk'
    obtain rfl := Option.some.inj hk'
    exact .inr ⟨by simp, own_lt hown1 _ hat⟩
/-- A row of moves, in its cell. -/
def TM (b : Nat) (v : Value) (ms : List Mv) : List Ob := [OwnM v ms, S1.Blk b #[v] 29]
abbrev fnM1 (b : Nat) : Value := .func (.func 16) #[] #[.pointer (some ⟨b, 0, none⟩)]
abbrev fnM2 (b : Nat) : Value := .func (.func 23) #[] #[.pointer (some ⟨b, 0, none⟩)]
set_option maxRecDepth 100000 in
theorem told1_any {w0 W : World} {b : Nat} {v : Value} {ms : List Mv} {L : List Ob} (x i j : Int) (hl : ms.length ≤ 1000000) (hs : Sep w0 W (TM b v ms ++ L)) : Calls Tryd.prog 16 #[.int .i64 x, .int .i64 i, .int .i64 j, .pointer (some ⟨b, 0, none⟩)] W fun e W' => e = .returned (.tuple #[]) ∧ ∃ v', Sep w0 W' (TM b v' (ms ++ [⟨x, i, j⟩]) ++ L) := by
  have HS : Aside0 (Sep w0 W (OwnM v ms :: S1.Blk b #[v] 29 :: L)) := ⟨hs⟩
  obtain ⟨A, c, e1⟩ := ownM_shape (HS.out.get 0 rfl)
  have HL := Aside0.mk hl
  obtain ⟨n, hn⟩ : ∃ n, ms.length = n := ⟨_, rfl⟩
  rw [hn] at e1
  subst e1
  clear hs hl hn
  have c1 : (_ : Option Value) = some (.slice A n c) := (blk_cell (HS.out.blk 1 rfl) 0).trans rfl
  go_enter Tryd.func16, Tryd.ntmps16
  go_wp2_with ((with_reducible refine gate_builtin (b := .append) (xs := #[.tmp 7, .tmp 12]) rfl ?_); at_builtin; refine sep_appendM rfl (.tmp 7) (.tmp 12) rfl HS.out 0 rfl ⟨x, i, j⟩ rfl rfl HL.out ?_; intro v1 w1 hs2; obtain ⟨A1, c1, e1⟩ := ownM_shape (hs2.get 0 rfl); generalize hq : (ms ++ [(⟨x, i, j⟩ : Mv)]).length = q at e1; subst e1; have f2 := blk_frozen (hs2.blk 1 rfl) 0; have c2 : (_ : Option Value) = some (.slice A n c) := (blk_cell (hs2.blk 1 rfl) 0).trans rfl; have HS2 := Aside0.mk (hs2.turn_blk 1 rfl 0 (.slice A1 q c1)); clear hs2 hq)
  go_end0
  exact ⟨rfl, _, HS2.out⟩
set_option maxRecDepth 100000 in
theorem told2_any {w0 W : World} {b : Nat} {v : Value} {ms : List Mv} {L : List Ob} (x i j : Int) (hl : ms.length ≤ 1000000) (hs : Sep w0 W (TM b v ms ++ L)) : Calls Tryd.prog 23 #[.int .i64 x, .int .i64 i, .int .i64 j, .pointer (some ⟨b, 0, none⟩)] W fun e W' => e = .returned (.tuple #[]) ∧ ∃ v', Sep w0 W' (TM b v' (ms ++ [⟨x, i, j⟩]) ++ L) := by
  have HS : Aside0 (Sep w0 W (OwnM v ms :: S1.Blk b #[v] 29 :: L)) := ⟨hs⟩
  obtain ⟨A, c, e1⟩ := ownM_shape (HS.out.get 0 rfl)
  have HL := Aside0.mk hl
  obtain ⟨n, hn⟩ : ∃ n, ms.length = n := ⟨_, rfl⟩
  rw [hn] at e1
  subst e1
  clear hs hl hn
  have c1 : (_ : Option Value) = some (.slice A n c) := (blk_cell (HS.out.blk 1 rfl) 0).trans rfl
  go_enter Tryd.func23, Tryd.ntmps23
  go_wp2_with ((with_reducible refine gate_builtin (b := .append) (xs := #[.tmp 7, .tmp 12]) rfl ?_); at_builtin; refine sep_appendM rfl (.tmp 7) (.tmp 12) rfl HS.out 0 rfl ⟨x, i, j⟩ rfl rfl HL.out ?_; intro v1 w1 hs2; obtain ⟨A1, c1, e1⟩ := ownM_shape (hs2.get 0 rfl); generalize hq : (ms ++ [(⟨x, i, j⟩ : Mv)]).length = q at e1; subst e1; have f2 := blk_frozen (hs2.blk 1 rfl) 0; have c2 : (_ : Option Value) = some (.slice A n c) := (blk_cell (hs2.blk 1 rfl) 0).trans rfl; have HS2 := Aside0.mk (hs2.turn_blk 1 rfl 0 (.slice A1 q c1)); clear hs2 hq)
  go_end0
  exact ⟨rfl, _, HS2.out⟩
theorem tell_M1 (w0 : World) (n : Nat) (g0 : Gap) (b : Nat) : Tell7 w0 n g0 (fnM1 b) (TM b) :=
  ⟨.inr ⟨16, #[.pointer (some ⟨b, 0, none⟩)], rfl, enters_of Tryd.func16 (by kernel_rfl) rfl, fun v ms x i j W L hl _ hs => told1_any x i j hl hs⟩⟩
theorem tell_M2 (w0 : World) (n : Nat) (g0 : Gap) (b : Nat) : Tell7 w0 n g0 (fnM2 b) (TM b) :=
  ⟨.inr ⟨23, #[.pointer (some ⟨b, 0, none⟩)], rfl, enters_of Tryd.func23 (by kernel_rfl) rfl, fun v ms x i j W L hl _ hs => told2_any x i j hl hs⟩⟩
/-- Nobody is told. -/
theorem tell_no (w0 : World) (n : Nat) (g0 : Gap) (C : List Ob) : Tell7 w0 n g0 .nilFunc (fun (_ : Unit) (_ : List Mv) => C) := ⟨.inl ⟨rfl, fun _ _ _ => rfl⟩⟩

/-! Equality of moves. -/
theorem eqM (w : World) (x0 y0 x1 y1 x2 y2 : Int) :
    (Op.equalIn 10000 31 (.agg #[.int .i64 x0, .int .i64 x1, .int .i64 x2]) (.agg #[.int .i64 y0, .int .i64 y1, .int .i64 y2])).run Tryd.prog w = .ok (x0 == y0 && (x1 == y1 && (x2 == y2))) w := by
  show (Op.equalIn (9998 + 2) 31 _ _).run Tryd.prog w = _
  refine eqA_of Tryd.underlying31 (by kernel_rfl) ?_
  refine eqf_cons (by rfl) (by go_simp; rfl) (by go_simp; rfl) (by go_simp) ?_
  refine eqf_cons (by rfl) (by go_simp; rfl) (by go_simp; rfl) (by go_simp) ?_
  exact eqf_last (by rfl) (by go_simp; rfl) (by go_simp; rfl) (by go_simp)
theorem eqM_same (w : World) (x0 x1 x2 : Int) : (Op.equalIn 10000 31 (.agg #[.int .i64 x0, .int .i64 x1, .int .i64 x2]) (.agg #[.int .i64 x0, .int .i64 x1, .int .i64 x2])).run Tryd.prog w = .ok true w := by
  rw [eqM]; simp
theorem guardM : Tryd.prog.eqGuardType Tryd.prog.depth 31 = false := by kernel_rfl
theorem moves_any {w : World} {A B : Option Addr} {n m c d : Nat} {ms : List Mv} (h1 : (OwnM (.slice A n c) ms).P w) (h2 : (OwnM (.slice B m d) ms).P w) (hl : ms.length ≤ 1000000) : Calls Tryd.prog 22 #[.slice A n c, .slice B m d] w fun e w' => e = .returned (.bool true) ∧ Drawn0 w w' := by
  have hn : n = ms.length := by
    obtain ⟨A', c', e⟩ := ownM_shape h1
    injection e
  have hm : m = ms.length := by
    obtain ⟨A', c', e⟩ := ownM_shape h2
    injection e
  subst hn hm
  have H1 := Aside0.mk h1
  have H2 := Aside0.mk h2
  clear h1 h2
  go_enter Tryd.func22, Tryd.ntmps22
  go_wp2
  go_loopg [5] (ms.length + 1) (fun kq v5 W => ∃ i : Nat, v5 = .int .i64 (i : Int) ∧ i ≤ ms.length ∧ Aside0 (ms.length + 1 - i ≤ kq) ∧ Aside0 (Drawn0 w W))
  case atStart => exact ⟨0, rfl, by omega, ⟨by omega⟩, ⟨Drawn0.refl _⟩⟩
  case round =>
    obtain ⟨i, rfl, hi, HQ, HD⟩ := hrel
    by_cases hlt : i < ms.length
    · have k1 := (OwnM _ ms).st (fun k hk => HD.out.below.block k (own_lt H1.out k (by simpa [OwnM] using hk))) H1.out
      have k2 := (OwnM _ ms).st (fun k hk => HD.out.below.block k (own_lt H2.out k (by simpa [OwnM] using hk))) H2.out
      obtain ⟨a, e1, x1, x2, x3⟩ := ownM_cells k1 hlt
      obtain ⟨b, e2, y1, y2, y3⟩ := ownM_cells k2 hlt
      subst e1 e2
      have hguard := guardM
      have heqm := fun w => eqM_same w (ms.getD i zMv).x (ms.getD i zMv).f (ms.getD i zMv).t
      generalize (ms.getD i zMv).x = q1 at *
      generalize (ms.getD i zMv).f = q2 at *
      generalize (ms.getD i zMv).t = q3 at *
      clear k1 k2
      go_wp2
      go_quiet (fail)
      replace HD := Aside0.mk (L1.drawn_step HD.out (show Drawn0 wr (wr.drewN nq) from ⟨⟨nq, rfl⟩⟩))
      generalize wr.drewN nq = w2 at *
      go_wp2
      go_roundg (ms.length - i)
      case measure => have := HQ.out; omega
      case rel => exact ⟨i + 1, by go_num, by omega, ⟨by omega⟩, HD⟩
    · obtain rfl : i = ms.length := by omega
      go_wp2
      go_ret
      exact ⟨rfl, HD.out⟩
end Go.Proofs.YtofkkdjbilklcaaDoor.ZM
/- The law's helpers of chapter 07: made, ints, agree, Right. -/
namespace Go.Proofs.YtofkkdjbilklcaaDoor.ZP
open Go.RowKit Go.Shelf Go.Proofs.YtofkkdjbilklcaaDoorW.PrintWords Go.Proofs.YtofkkdjbilklcaaDoorW.PrintLast Go.Proofs.YtofkkdjbilklcaaDoorW.PrintMore G1 G0 Q1 G2 G3 G4 G5 G6 G7 G8 G9 G10 S1 Y1 Y3 Y2 Z0 Z1 Z2 Z3 Z4 ZR ZM
set_option linter.unusedVariables false
set_option linter.unusedSimpArgs false
/-- How many slots. -/
def nOf (s : Int) : Nat := ((s.tmod 200 + 200).tmod 200 + 1).toNat
theorem nOf_le (s : Int) : 1 ≤ nOf s ∧ nOf s ≤ 200 ∧ (nOf s : Int) = (s.tmod 200 + 200).tmod 200 + 1 := by
  have h1 := Int.tmod_lt_of_pos (s.tmod 200 + 200) (show (0 : Int) < 200 by decide)
  have h2 : -200 < s.tmod 200 := Int.lt_tmod_of_pos s (by decide)
  have h3 : 0 ≤ (s.tmod 200 + 200).tmod 200 := Int.tmod_nonneg _ (by omega)
  unfold nOf
  omega
/-- Which slot. -/
def ixOf (n : Nat) (x : Int) : Nat := ((x.tmod n + n).tmod n).toNat
theorem ixOf_lt {n : Nat} (hn : 1 ≤ n) (x : Int) : ixOf n x < n ∧ (ixOf n x : Int) = (x.tmod n + n).tmod n := by
  have h1 := Int.tmod_lt_of_pos (x.tmod n + n) (show (0 : Int) < n by omega)
  have h2 : -(n : Int) < x.tmod n := Int.lt_tmod_of_pos x (by omega)
  have h3 : 0 ≤ (x.tmod n + n).tmod n := Int.tmod_nonneg _ (by omega)
  unfold ixOf
  omega
def onF (n : Nat) (l : List Int) : Nat → Nat → Bool
  | 0 => fun _ => false
  | i + 1 => upd (onF n l i) (ixOf n (l.getD i 0)) true
def bls (n : Nat) (f : Nat → Bool) : List Value := (List.range n).map fun j => .bool (f j)
theorem bls_at {n : Nat} (f : Nat → Bool) {j : Nat} (h : j < n) : (bls n f).toArray[j]? = some (.bool (f j)) := by simp [bls, h]
theorem bls_set {n : Nat} (f : Nat → Bool) {j : Nat} (h : j < n) : (bls n f).toArray.setIfInBounds j (.bool true) = (bls n (upd f j true)).toArray := by
  apply Array.ext
  · simp [bls]
  · intro i h1 h2
    simp only [bls, List.size_toArray, Array.size_setIfInBounds, List.length_map, List.length_range] at h1
    by_cases e : j = i
    · subst e; simp [bls, upd]
    · simp [bls, upd, e, Ne.symm e]
theorem info_bool : (Tryd.prog.info? 4).map (fun i => (i.zero, i.size, i.bytes)) = some (some (.bool false), 1, 1) := by kernel_rfl
theorem make_bools (n : Nat) (hn : n ≤ 1000000) (W : World) : (Instr.makeSlice 86 (.int .i64 (n : Int)) (.int .i64 (n : Int))).run Tryd.prog W = .ok (.slice (some ⟨W.heap.size, 0, none⟩) n n) (W.alloc (.cells (bls n fun _ => false).toArray 4)) := by
  obtain ⟨i, hi, hzz⟩ := Option.map_eq_some_iff.1 info_bool
  simp only [Prod.mk.injEq] at hzz
  obtain ⟨hz, hs, hb⟩ := hzz
  have h := run_make (P := Tryd.prog) W 86 4 i _ Tryd.underlying86 hi hz .i64 .i64 (n : Int) (n : Int) (by omega) (by omega) (by rw [hb]; omega) (by omega)
  have e : madeCells (Value.bool false).cells (n * 1) = (bls n fun _ => false).toArray := by
    apply Array.ext
    · simp [size_madeCells, bls]
    · intro j h1 h2
      simp [madeCells, bls, Nat.mod_one, Value.cells]
  rw [hs, Int.toNat_natCast, e] at h
  exact h
def mk7 (n : Nat) (f : Nat → Bool) : Nat → Gap × Nat
  | 0 => (gap0 n, 0)
  | i + 1 => let r := mk7 n f i; if f i then (putS n r.1 (i : Int) ((r.2 + 1 : Nat) : Int), r.2 + 1) else r
theorem mk7_is {n : Nat} {f : Nat → Bool} : ∀ i, i ≤ n → (mk7 n f i).1.xs.length = n ∧ (mk7 n f i).2 = cntF f i ∧ (∀ j, (mk7 n f i).1.on j = true ↔ j < i ∧ f j = true) ∧ ∀ j, j < i → f j = true → (mk7 n f i).1.xs.getD j 0 = (cntF f (j + 1) : Int)
  | 0, _ => ⟨by simp [mk7, gap0], rfl, fun j => by simp [mk7, gap0], fun j h => by omega⟩
  | i + 1, hi => by
    obtain ⟨a1, a2, a3, a4⟩ := mk7_is (n := n) (f := f) i (by omega)
    unfold mk7
    dsimp only
    generalize mk7 n f i = r at *
    by_cases hf : f i = true
    · rw [if_pos hf]
      have hoff : r.1.on i = false := by
        cases hb : r.1.on i with
        | false => rfl
        | true => have := (a3 i).1 hb; omega
      have e : putS n r.1 (i : Int) ((r.2 + 1 : Nat) : Int) = ⟨upd r.1.on i true, r.1.xs.set i ((r.2 + 1 : Nat) : Int)⟩ := by
        unfold putS
        rw [putR_ok (by omega) hoff, if_pos rfl, Int.toNat_natCast]
      have hc : cntF f (i + 1) = cntF f i + 1 := by show cntF f i + _ = _; rw [hf]; rfl
      rw [e]
      refine ⟨by simp [a1], by rw [hc, ← a2], fun j => ?_, fun j hj hfj => ?_⟩
      · show upd r.1.on i true j = true ↔ _
        unfold upd
        by_cases ej : j = i
        · rw [if_pos ej]; exact ⟨fun _ => ⟨by omega, by rw [ej]; exact hf⟩, fun _ => rfl⟩
        · rw [if_neg ej, a3 j]; exact ⟨fun h => ⟨by omega, h.2⟩, fun h => ⟨by omega, h.2⟩⟩
      · show (r.1.xs.set i _).getD j 0 = _
        rw [List.getD_eq_getElem?_getD]
        by_cases ej : j = i
        · subst ej
          rw [List.getElem?_set_self (by omega), hc, ← a2]; rfl
        · rw [List.getElem?_set_ne (Ne.symm ej), ← List.getD_eq_getElem?_getD]
          exact a4 j (by omega) hfj
    · rw [if_neg hf]
      have hf0 : f i = false := by simpa using hf
      have hc : cntF f (i + 1) = cntF f i := by show cntF f i + _ = _; rw [hf0]; rfl
      refine ⟨a1, by rw [hc]; exact a2, fun j => ?_, fun j hj hfj => ?_⟩
      · rw [a3 j]
        exact ⟨fun h => ⟨by omega, h.2⟩, fun h => ⟨by
          have := h.1
          by_cases ej : j = i
          · rw [ej] at h; rw [hf0] at h; cases h.2
          · omega, h.2⟩⟩
      · by_cases ej : j = i
        · rw [ej, hf0] at hfj; cases hfj
        · exact a4 j (by omega) hfj
theorem mk7_put {n : Nat} {f : Nat → Bool} {i : Nat} (hi : i < n) : putR n (mk7 n f i).1 (i : Int) = 0 := by
  refine putR_ok hi ?_
  cases hb : (mk7 n f i).1.on i with
  | false => rfl
  | true => have := ((mk7_is (n := n) (f := f) i (by omega)).2.2.1 i).1 hb; omega
/-- The array that is made. -/
def G7 (s : Int) (l : List Int) : Gap := (mk7 (nOf s) (onF (nOf s) l l.length) (nOf s)).1
set_option maxHeartbeats 4000000 in
set_option maxRecDepth 100000 in
theorem made_any {A : Option Addr} {c : Nat} {l : List Int} {s : Int} {w : World} (hr : Kd.C (Kd.int .i64) w A l.length l) (hl : l.length ≤ 9223372036854775807) (hs : -9223372036854775808 ≤ s ∧ s ≤ 9223372036854775807) :
    Calls Tryd.prog 15 #[.agg #[.int .i64 s, .slice A l.length c]] w fun e w' => ∃ p sb ob wb r lb, e = .returned (.tuple #[.pointer (some ⟨p, 0, none⟩), .pointer (some ⟨r, 0, none⟩)]) ∧ Sep w w' [S1.Arr p sb ob wb (nOf s) (G7 s l), RefO r lb (nOf s) (G7 s l)] := by
  obtain ⟨hn1, hn2, hn3⟩ := nOf_le s
  have e1 : -200 < s.tmod 200 := Int.lt_tmod_of_pos s (by decide)
  have e2 : s.tmod 200 < 200 := Int.tmod_lt_of_pos s (by decide)
  have HG : Aside0 (G7 s l = (mk7 (nOf s) (onF (nOf s) l l.length) (nOf s)).1) := ⟨rfl⟩
  have hmk := make_bools (nOf s) (by omega)
  have hmk2 := make_slots (nOf s) (by omega)
  have hn4 : s.tmod 200 % 200 + 1 = (nOf s : Int) := by
    rw [hn3, Int.tmod_eq_emod_of_nonneg (show 0 ≤ s.tmod 200 + 200 by omega)]
    omega
  generalize nOf s = n at *
  clear hn3
  have HR := Aside0.mk hr
  have HS := Aside0.mk (((Sep.nil w).new_blk #[.int .i64 s, .slice A l.length c] 24).new_blk (bls n fun _ => false).toArray 4)
  simp only [World.size_alloc] at HS
  have HS0 := Aside0.mk ((Sep.nil w).new_blk #[.int .i64 s, .slice A l.length c] 24)
  have c0 : (_ : Option Value) = some (.int .i64 s) := (blk_cell (HS0.out.blk 0 rfl) 0).trans rfl
  have c1 : (_ : Option Value) = some (.slice A l.length c) := (blk_cell (HS0.out.blk 0 rfl) 1).trans rfl
  clear hr HS0
  have CN := Aside0.mk (fun w => gnew_yes n w hn1 (by omega))
  go_enter Tryd.func15, Tryd.ntmps15
  go_wp2
  clear c0 c1 hmk hn4 e1 e2
  go_loopg [6] (l.length + 1) (fun kq v6 W => ∃ i : Nat, v6 = .int .i64 (i : Int) ∧ i ≤ l.length ∧ Aside0 (l.length + 1 - i ≤ kq) ∧ Aside0 (Sep w W [S1.Blk w.heap.size #[.int .i64 s, .slice A l.length c] 24, S1.Blk (w.heap.size + 1) (bls n (onF n l i)).toArray 4]))
  case atStart => exact ⟨0, rfl, by omega, ⟨by omega⟩, HS⟩
  case round =>
    clear HS
    obtain ⟨i, rfl, hi, HQ, HS⟩ := hrel
    have c1 : (_ : Option Value) = some (.slice A l.length c) := (blk_cell (HS.out.blk 0 rfl) 1).trans rfl
    by_cases hlt : i < l.length
    · obtain ⟨ad, e, hx⟩ := Kd.at_int (Kd.C_below HR.out HS.out.below) (i : Int) (by omega) (by omega)
      cases e
      rw [Int.toNat_natCast, show rd l (i : Int) = l.getD i 0 from rfl] at hx
      have HON : Aside0 (onF n l (i + 1) = upd (onF n l i) (ixOf n (l.getD i 0)) true) := ⟨rfl⟩
      generalize l.getD i 0 = x at *
      obtain ⟨hx1, hx2⟩ := ixOf_lt hn1 x
      have e1 : -(n : Int) < x.tmod n := Int.lt_tmod_of_pos x (by omega)
      have e2 : x.tmod n < (n : Int) := Int.tmod_lt_of_pos x (by omega)
      have e3 : x.tmod (n : Int) % (n : Int) = (ixOf n x : Int) := by
        rw [hx2, Int.tmod_eq_emod_of_nonneg (show 0 ≤ x.tmod (n : Int) + (n : Int) by omega), Int.add_emod_right]
      have e4 : ((n : Int) == 0) = false := beq_eq_false_iff_ne.2 (by omega)
      have b1 : (_ : Option Value) = some (.bool (onF n l i (ixOf n x))) := (blk_cell (HS.out.blk 1 rfl) (ixOf n x)).trans (bls_at _ hx1)
      have f1 := blk_frozen (HS.out.blk 1 rfl) (ixOf n x)
      have HS2 := Aside0.mk (HS.out.turn_blk 1 rfl (ixOf n x) (.bool true))
      rw [bls_set _ hx1, ← HON.out] at HS2
      clear hx2
      generalize ixOf n x = ix at *
      generalize onF n l i ix = bo at *
      go_wp2
      go_roundg (l.length - i)
      case measure => have := HQ.out; omega
      case rel => exact ⟨i + 1, by go_num, by omega, ⟨by omega⟩, HS2⟩
    · obtain rfl : i = l.length := by omega
      obtain ⟨f, hf⟩ : ∃ f, onF n l l.length = f := ⟨_, rfl⟩
      rw [hf] at HS HG
      clear hf
      go_wp2_with fail
      refine (CN.out _).mono ?_
      clear CN c1
      rintro e w3 ⟨p, sb, ob, wb, rfl, h4, hs3, hb3⟩
      replace HS := Aside0.mk (ref_new (n := n) (by omega) (HS.out.new_arr (s := gap0 n) hb3 ⟨_, hs3⟩ h4))
      clear h4 hs3 hb3
      go_wp2
      clear hmk2
      generalize w3.heap.size = lb at *
      go_loopg [10, 11] (n + 1) (fun kq v10 v11 W => ∃ i : Nat, v10 = .int .i64 ((mk7 n f i).2 : Int) ∧ v11 = .int .i64 (i : Int) ∧ i ≤ n ∧ Aside0 (n + 1 - i ≤ kq) ∧ Aside0 (Sep w W [S1.Blk w.heap.size #[.int .i64 s, .slice A l.length c] 24, S1.Blk (w.heap.size + 1) (bls n f).toArray 4, S1.Arr p sb ob wb n (mk7 n f i).1, RefO (lb + 1) lb n (mk7 n f i).1]))
      case atStart => exact ⟨0, rfl, rfl, by omega, ⟨by omega⟩, HS⟩
      case round =>
        clear HS
        obtain ⟨i, rfl, rfl, hi, HQ, HS⟩ := hrel
        by_cases hlt : i < n
        · have b1 : (_ : Option Value) = some (.bool (f i)) := (blk_cell (HS.out.blk 1 rfl) i).trans (bls_at _ hlt)
          cases hf : f i with
          | true =>
            rw [hf] at b1
            have HMK : Aside0 (mk7 n f (i + 1) = (putS n (mk7 n f i).1 (i : Int) (((mk7 n f i).2 : Int) + 1), (mk7 n f i).2 + 1)) := ⟨by
              show (if f i then _ else _) = _
              rw [hf, if_pos rfl, Int.natCast_add]; rfl⟩
            have hk : (mk7 n f i).2 ≤ i := by rw [(mk7_is (n := n) (f := f) i hi).2.1]; exact cntF_le _ _
            have C1 := put_any (HS.out.arr 2 rfl) (i : Int) (((mk7 n f i).2 : Int) + 1)
            rw [mk7_put hlt] at C1
            have C1 := Aside0.mk C1
            have C2 := Aside0.mk (fun W (h : RefAt W (lb + 1) lb n (mk7 n f i).1) => rput_any h (i : Int) (((mk7 n f i).2 : Int) + 1))
            rw [mk7_put hlt] at C2
            clear hf
            generalize mk7 n f i = m at *
            go_wp2_with fail
            refine C1.out.mono ?_
            clear C1
            rintro e w5 ⟨rfl, h4, h5⟩
            replace HS := Aside0.mk (HS.out.turn_arr 2 rfl h5 h4)
            clear h4 h5 b1
            go_wp2_with fail
            refine (C2.out _ (HS.out.get 3 rfl)).mono ?_
            clear C2
            rintro e w6 ⟨rfl, h4, h5⟩
            replace HS := Aside0.mk (ref_turn HS.out 3 rfl h5 h4)
            clear h4 h5
            go_wp2
            go_roundg (n - i)
            case measure => have := HQ.out; omega
            case rel => exact ⟨i + 1, by rw [HMK.out]; rfl, by go_num, by omega, ⟨by omega⟩, ⟨by rw [HMK.out]; exact HS.out⟩⟩
          | false =>
            rw [hf] at b1
            have HMK : Aside0 (mk7 n f (i + 1) = mk7 n f i) := ⟨by
              show (if f i then _ else _) = _
              rw [hf, if_neg Bool.false_ne_true]⟩
            clear hf
            go_wp2
            go_roundg (n - i)
            case measure => have := HQ.out; omega
            case rel => exact ⟨i + 1, by rw [HMK.out], by go_num, by omega, ⟨by omega⟩, ⟨by rw [HMK.out]; exact HS.out⟩⟩
        · obtain rfl : i = n := by omega
          go_wp2
          go_ret2
          refine ⟨p, sb, ob, wb, lb + 1, lb, rfl, ?_⟩
          rw [HG.out]
          exact HS.out.tail.tail
/-- Rows of whole numbers that are one. -/
theorem ints_any {w : World} {A B : Option Addr} {c d n1 n2 : Nat} {l m : List Int} (hr1 : Kd.C (Kd.int .i64) w A n1 l) (h1 : n1 ≤ c) (hr2 : Kd.C (Kd.int .i64) w B n2 m) (h2 : n2 ≤ d) (hn : l.length ≤ 1000000) :
    Calls Tryd.prog 33 #[.slice A n1 c, .slice B n2 d] w fun e w' => e = .returned (.bool (decide (l = m))) ∧ Drawn0 w w' := by
  obtain rfl := hr1.1
  obtain rfl := hr2.1
  by_cases hl : l.length = m.length
  · have HR1 := Aside0.mk hr1
    have HR2 := Aside0.mk hr2
    have q : ((l.length : Int) == (m.length : Int)) = true := beq_iff_eq.2 (by omega)
    have HL := Aside0.mk hl
    clear hr1 hr2 hl h1 h2
    go_enter Tryd.func33, Tryd.ntmps33
    go_wp2
    go_loopg [5] (l.length + 1) (fun kq v5 W => ∃ i : Nat, v5 = .int .i64 (i : Int) ∧ i ≤ l.length ∧ Aside0 (l.length + 1 - i ≤ kq) ∧ Aside0 (∀ j, j < i → l.getD j 0 = m.getD j 0) ∧ Aside0 (Drawn0 w W))
    case atStart => exact ⟨0, rfl, by omega, ⟨by omega⟩, ⟨fun j hj => by omega⟩, ⟨Drawn0.refl _⟩⟩
    case round =>
      obtain ⟨i, rfl, hi, HQ, HJ, HD⟩ := hrel
      by_cases hlt : i < l.length
      · have hm2 : (i : Int) < (m.length : Int) := by have := HL.out; omega
        obtain ⟨ad, e1, hx⟩ := Kd.at_int (Kd.C_below HR1.out HD.out.below) (i : Int) (by omega) (by omega)
        obtain ⟨ad2, e2, hy⟩ := Kd.at_int (Kd.C_below HR2.out HD.out.below) (i : Int) (by omega) (by omega)
        cases e1
        cases e2
        rw [Int.toNat_natCast, show rd l (i : Int) = l.getD i 0 from rfl] at hx
        rw [Int.toNat_natCast, show rd m (i : Int) = m.getD i 0 from rfl] at hy
        by_cases he : l.getD i 0 = m.getD i 0
        · have HJ2 : Aside0 (∀ j, j < i + 1 → l.getD j 0 = m.getD j 0) := ⟨fun j hj => by
            by_cases ej : j = i
            · rw [ej]; exact he
            · exact HJ.out j (by omega)⟩
          rw [← he] at hy
          clear he
          generalize l.getD i 0 = x at *
          have qv : (x != x) = false := by simp
          go_wp2
          go_quiet (fail)
          replace HD := Aside0.mk (L1.drawn_step HD.out (show Drawn0 wr (wr.drewN nq) from ⟨⟨nq, rfl⟩⟩))
          generalize wr.drewN nq = w2 at *
          go_wp2
          go_roundg (l.length - i)
          case measure => have := HQ.out; omega
          case rel => exact ⟨i + 1, by go_num, by omega, ⟨by omega⟩, HJ2, HD⟩
        · have HE : Aside0 (decide (l = m) = false) := ⟨decide_eq_false (fun e => he (by rw [e]))⟩
          have qv : (l.getD i 0 == m.getD i 0) = false := beq_eq_false_iff_ne.2 he
          have qv2 : (l.getD i 0 != m.getD i 0) = true := by rw [bne, qv]; rfl
          generalize l.getD i 0 = x at *
          generalize m.getD i 0 = y at *
          go_wp2
          go_quiet (fail)
          replace HD := Aside0.mk (L1.drawn_step HD.out (show Drawn0 wr (wr.drewN nq) from ⟨⟨nq, rfl⟩⟩))
          generalize wr.drewN nq = w2 at *
          go_wp2
          go_ret
          exact ⟨by rw [HE.out]; rfl, HD.out⟩
      · obtain rfl : i = l.length := by omega
        have HE : Aside0 (decide (l = m) = true) := ⟨decide_eq_true (by
          apply List.ext_getElem HL.out
          intro j h1 h2
          have := HJ.out j h1
          simpa [List.getD_eq_getElem?_getD, h1, h2] using this)⟩
        go_wp2
        go_ret
        exact ⟨by rw [HE.out]; rfl, HD.out⟩
  · have q : ((l.length : Int) == (m.length : Int)) = false := beq_eq_false_iff_ne.2 (by omega)
    rw [decide_eq_false (fun e => hl (by rw [e]))]
    clear hr1 hr2 hl
    go_enter Tryd.func33, Tryd.ntmps33
    go_wp2
    go_ret
    exact ⟨rfl, Drawn0.refl _⟩
/-- The document's Right. -/
theorem right_any (n : Nat) (hn : n ≤ 65536) (a s : Int) (w : World) : Calls Tryd.prog 18 #[.int .i64 (n : Int), .int .i64 a, .int .i64 s] w fun e w' => e = .returned (.bool (winB n a s)) ∧ w = w' := by
  unfold winB
  by_cases h1 : 1 ≤ s
  · by_cases h2 : s ≤ 512
    · by_cases h3 : 0 ≤ a
      · by_cases h4 : a ≤ 512 - s
        · have d1 : decide (1 ≤ s) = true := decide_eq_true h1
          have d2 : decide (s ≤ 512) = true := decide_eq_true h2
          have d3 : decide (0 ≤ a) = true := decide_eq_true h3
          have d4 : decide (a ≤ 512 - s) = true := decide_eq_true h4
          by_cases h5 : 8 * (a + s) ≤ (n : Int)
          · have d5 : decide (8 * (a + s) ≤ (n : Int)) = true := decide_eq_true h5
            rw [decide_eq_true ⟨h1, h2, h3, h4, h5⟩]
            go_enter Tryd.func18, Tryd.ntmps18
            go_wp2
            go_ret
            exact ⟨rfl, rfl⟩
          · have d5 : decide (8 * (a + s) ≤ (n : Int)) = false := decide_eq_false h5
            rw [decide_eq_false (fun h => h5 h.2.2.2.2)]
            go_enter Tryd.func18, Tryd.ntmps18
            go_wp2
            go_ret
            exact ⟨rfl, rfl⟩
        · have d1 : decide (1 ≤ s) = true := decide_eq_true h1
          have d2 : decide (s ≤ 512) = true := decide_eq_true h2
          have d3 : decide (0 ≤ a) = true := decide_eq_true h3
          have d4 : decide (a ≤ 512 - s) = false := decide_eq_false h4
          rw [decide_eq_false (fun h => h4 h.2.2.2.1)]
          go_enter Tryd.func18, Tryd.ntmps18
          go_wp2
          go_ret
          exact ⟨rfl, rfl⟩
      · have d1 : decide (1 ≤ s) = true := decide_eq_true h1
        have d2 : decide (s ≤ 512) = true := decide_eq_true h2
        have d3 : decide (0 ≤ a) = false := decide_eq_false h3
        rw [decide_eq_false (fun h => h3 h.2.2.1)]
        go_enter Tryd.func18, Tryd.ntmps18
        go_wp2
        go_ret
        exact ⟨rfl, rfl⟩
    · have d1 : decide (1 ≤ s) = true := decide_eq_true h1
      have d2 : decide (s ≤ 512) = false := decide_eq_false h2
      rw [decide_eq_false (fun h => h2 h.2.1)]
      go_enter Tryd.func18, Tryd.ntmps18
      go_wp2
      go_ret
      exact ⟨rfl, rfl⟩
  · have d1 : decide (1 ≤ s) = false := decide_eq_false h1
    rw [decide_eq_false (fun h => h1 h.1)]
    go_enter Tryd.func18, Tryd.ntmps18
    go_wp2
    go_ret
    exact ⟨rfl, rfl⟩
end Go.Proofs.YtofkkdjbilklcaaDoor.ZP

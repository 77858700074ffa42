/- What a window is that is spread, once and again: plain. -/
import Derived.Test.YtofkkdjbilklcaaDoorZQ
namespace Go.Proofs.YtofkkdjbilklcaaDoor.ZE
open Go.RowKit Go.Shelf Go.Proofs.YtofkkdjbilklcaaDoorW.PrintWords Go.Proofs.YtofkkdjbilklcaaDoorW.PrintLast Go.Proofs.YtofkkdjbilklcaaDoorW.PrintMore G1 G0 Q1 G2 G3 G4 G5 G6 G7 G8 G9 G10 S1 Y1 Y3 Y2 Z0 Z1 Z2 Z3 Z4 ZR ZM ZP CL ZQ
set_option linter.unusedVariables false
set_option linter.unusedSimpArgs false
theorem pack_count {n b : Nat} {g : Gap} (hl : n ≤ g.xs.length) : ∀ j, b + j ≤ n → (packP n b g j).c + cntF g.on b = cntF g.on (b + j)
  | 0, _ => by show 0 + _ = _; rw [Nat.zero_add]; rfl
  | j + 1, hj => by
    have ih := pack_count hl (b := b) j (by omega)
    have hi := pack_inv hl (b := b) j (by omega)
    have ho := (hi.rest (b + j) (Nat.le_refl _)).1
    have e : cntF g.on (b + (j + 1)) = cntF g.on (b + j) + (if g.on (b + j) then 1 else 0) := rfl
    unfold packP
    dsimp only
    generalize packP n b g j = r at *
    rw [ho]
    cases hb : g.on (b + j) with
    | true =>
      rw [hb, if_pos rfl] at e
      rw [if_pos rfl]
      split
      · show r.c + 1 + _ = _; omega
      · show r.c + 1 + _ = _; omega
    | false =>
      rw [hb, if_neg (by decide)] at e
      rw [if_neg (by decide)]
      omega
theorem even_on {n f k : Nat} {g : Gap} (hl : n ≤ g.xs.length) (hk : 8 * f + 8 * k ≤ n) (h1 : 1 ≤ k) {c : Nat} (hc : cntF g.on (8 * f + 8 * k) - cntF g.on (8 * f) = c) :
    (∀ j, 8 * f ≤ j → j < 8 * f + 8 * k → ((evenR n f k g).g.on j = true ↔ (j : Int) ∈ plK c k f k)) ∧ (∀ j, j < 8 * f ∨ 8 * f + 8 * k ≤ j → (evenR n f k g).g.on j = g.on j) ∧ c ≤ 8 * k ∧ (evenR n f k g).ms.length ≤ 2 * c ∧ n ≤ (evenR n f k g).g.xs.length := by
  have hcnt := pack_count hl (b := 8 * f) (8 * k) hk
  have hinv := pack_inv (b := 8 * f) hl (8 * k) hk
  have hle := hinv.le
  have hfew := hinv.few
  obtain ⟨hE, _⟩ := evenR_inv hl hk h1
  have hef := even_few (n := n) (b := 8 * f) (c := (packP n (8 * f) g (8 * k)).c) (ps := plK (packP n (8 * f) g (8 * k)).c k f k) (r0 := ⟨(packP n (8 * f) g (8 * k)).g, (packP n (8 * f) g (8 * k)).ms⟩) (packP n (8 * f) g (8 * k)).c
  have e : (packP n (8 * f) g (8 * k)).c = c := by omega
  have hfw : (evenR n f k g).ms.length ≤ (packP n (8 * f) g (8 * k)).ms.length + (packP n (8 * f) g (8 * k)).c := hef
  rw [e] at hE hle hfew hfw
  have hpl : (plK c k f k).length = c := pl_len f h1
  refine ⟨fun j j1 j2 => ?_, fun j hj => ?_, hle, by omega, hE.len⟩
  · rw [hE.win j j1 j2]
    constructor
    · rintro (h | ⟨t, _, t2, t3⟩)
      · omega
      · rw [← t3]
        exact getD_mem (by rw [hpl]; exact t2)
    · intro h
      obtain ⟨t, ht, he⟩ := List.mem_iff_getElem.1 h
      exact .inr ⟨t, by omega, by omega, by rw [List.getD_eq_getElem?_getD, List.getElem?_eq_getElem ht]; exact he⟩
  · rw [(hE.out j hj).1]
    rcases hj with h | h
    · exact (hinv.ahead j h).1
    · exact (hinv.rest j h).1
/-- Counts of a window, where what is outside is as it was. -/
theorem cnt_win {n b e : Nat} {f g : Nat → Bool} (hb : b ≤ e) (he : e ≤ n) (h : ∀ j, j < b ∨ e ≤ j → f j = g j) (hn : cntF f n = cntF g n) : cntF f e - cntF f b = cntF g e - cntF g b := by
  have h1 : cntF f b = cntF g b := cntF_congr fun j hj => h j (.inl hj)
  have h2 : ∀ d, cntF f (e + d) + cntF g e = cntF g (e + d) + cntF f e := by
    intro d
    induction d with
    | zero => exact Nat.add_comm _ _
    | succ d ih =>
      have e1 : cntF f (e + (d + 1)) = cntF f (e + d) + (if f (e + d) then 1 else 0) := rfl
      have e2 : cntF g (e + (d + 1)) = cntF g (e + d) + (if g (e + d) then 1 else 0) := rfl
      rw [h (e + d) (.inr (by omega))] at e1
      omega
  have h3 := h2 (n - e)
  rw [show e + (n - e) = n by omega] at h3
  omega
theorem cnt_items {n : Nat} {g g2 : Gap} (h : vals (ons g2.on g2.xs n) = vals (ons g.on g.xs n)) : cntF g2.on n = cntF g.on n := by
  have := congrArg List.length h
  rwa [vals, vals, List.length_map, List.length_map, ons_length, ons_length] at this
theorem keys_def (f : Nat → Bool) (xs : List Int) (n : Nat) : keys (ons f xs n) = ((List.range n).filter f).map fun i : Nat => (i : Int) := by
  unfold keys ons
  rw [List.map_map]
  rfl
theorem keys_same {f g : Nat → Bool} {xs ys : List Int} {n : Nat} (h : ∀ j, j < n → f j = g j) : keys (ons f xs n) = keys (ons g ys n) := by
  rw [keys_def, keys_def]
  congr 1
  exact List.filter_congr fun j hj => h j (List.mem_range.1 hj)
/-- In a window, or not. -/
def inB (b e x : Int) : Bool := decide (b ≤ x) && decide (x < e)
theorem keys_rise (f : Nat → Bool) (xs : List Int) (n : Nat) : (keys (ons f xs n)).Pairwise (· < ·) := by
  rw [keys_def, List.pairwise_map]
  exact ((List.pairwise_lt_range (n := n)).filter f).imp fun h => by omega
theorem keys_mem {f : Nat → Bool} {xs : List Int} {n : Nat} {x : Int} : x ∈ keys (ons f xs n) ↔ ∃ j : Nat, j < n ∧ f j = true ∧ (j : Int) = x := by
  rw [keys_def, List.mem_map]
  constructor
  · rintro ⟨j, hj, e⟩
    obtain ⟨h1, h2⟩ := List.mem_filter.1 hj
    exact ⟨j, List.mem_range.1 h1, h2, e⟩
  · rintro ⟨j, h1, h2, e⟩
    exact ⟨j, List.mem_filter.2 ⟨List.mem_range.2 h1, h2⟩, e⟩
theorem rise_ext : ∀ {a b : List Int}, a.Pairwise (· < ·) → b.Pairwise (· < ·) → (∀ x, x ∈ a ↔ x ∈ b) → a = b
  | [], [], _, _, _ => rfl
  | [], y :: b, _, _, h => by have := (h y).2 (List.mem_cons_self ..); cases this
  | x :: a, [], _, _, h => by have := (h x).1 (List.mem_cons_self ..); cases this
  | x :: a, y :: b, ha, hb, h => by
    rw [List.pairwise_cons] at ha hb
    have hxy : x = y := by
      rcases List.mem_cons.1 ((h x).1 (List.mem_cons_self ..)) with e | e
      · exact e
      · rcases List.mem_cons.1 ((h y).2 (List.mem_cons_self ..)) with e2 | e2
        · exact e2.symm
        · have := hb.1 x e
          have := ha.1 y e2
          omega
    subst hxy
    congr 1
    refine rise_ext ha.2 hb.2 fun z => ?_
    constructor
    · intro hz
      rcases List.mem_cons.1 ((h z).1 (List.mem_cons_of_mem _ hz)) with e | e
      · subst e
        have := ha.1 z hz
        omega
      · exact e
    · intro hz
      rcases List.mem_cons.1 ((h z).2 (List.mem_cons_of_mem _ hz)) with e | e
      · subst e
        have := hb.1 z hz
        omega
      · exact e
/-- What is told of a window that is spread. -/
structure EvenF (n f k : Nat) (g : Gap) (c : Nat) (E : EV) : Prop where
  cnt : cntF E.g.on (8 * f + 8 * k) - cntF E.g.on (8 * f) = c
  len : n ≤ E.g.xs.length
  few : E.ms.length ≤ 2 * c
  most : c ≤ 8 * k
  items : vals (ons E.g.on E.g.xs n) = vals (ons g.on g.xs n)
  here : (keys (ons E.g.on E.g.xs n)).filter (inB (8 * (f : Int)) (8 * ((f : Int) + k))) = plK c k f k
  outs : (keys (ons E.g.on E.g.xs n)).filter (fun x => !inB (8 * (f : Int)) (8 * ((f : Int) + k)) x) = (keys (ons g.on g.xs n)).filter (fun x => !inB (8 * (f : Int)) (8 * ((f : Int) + k)) x)
theorem evenF {n f k : Nat} {g : Gap} (hl : n ≤ g.xs.length) (hk : 8 * f + 8 * k ≤ n) (h1 : 1 ≤ k) : EvenF n f k g (cntF g.on (8 * f + 8 * k) - cntF g.on (8 * f)) (evenR n f k g) := by
  obtain ⟨c, hc⟩ : ∃ c, cntF g.on (8 * f + 8 * k) - cntF g.on (8 * f) = c := ⟨_, rfl⟩
  obtain ⟨a1, a2, a3, a4, a5⟩ := even_on hl hk h1 hc
  have hit := (evenR_inv hl hk h1).2
  rw [hc]
  refine ⟨?_, a5, a4, a3, hit, ?_, ?_⟩
  · rw [cnt_win (by omega) hk a2 (cnt_items hit), hc]
  · obtain ⟨p1, p2⟩ := plK_rise (f := f) h1 a3 k
    refine rise_ext ((keys_rise _ _ _).filter _) p1 fun x => ?_
    rw [List.mem_filter, keys_mem]
    constructor
    · rintro ⟨⟨j, j1, j2, rfl⟩, h⟩
      unfold inB at h
      obtain ⟨h3, h4⟩ := Bool.and_eq_true_iff.1 h
      have h3 := of_decide_eq_true h3
      have h4 := of_decide_eq_true h4
      exact (a1 j (by omega) (by omega)).1 j2
    · intro hx
      have h2 := p2 x hx
      obtain ⟨j, rfl⟩ := Int.eq_ofNat_of_zero_le (show 0 ≤ x by omega)
      refine ⟨⟨j, by omega, (a1 j (by omega) (by omega)).2 hx, rfl⟩, ?_⟩
      unfold inB
      rw [decide_eq_true h2.1, decide_eq_true h2.2]
      rfl
  · rw [keys_def, keys_def, List.filter_map, List.filter_map, List.filter_filter, List.filter_filter]
    congr 1
    refine List.filter_congr fun j hj => ?_
    by_cases hw : 8 * f ≤ j ∧ j < 8 * f + 8 * k
    · have e : inB (8 * (f : Int)) (8 * ((f : Int) + k)) (j : Int) = true := by
        unfold inB
        rw [decide_eq_true (by omega), decide_eq_true (by omega)]
        rfl
      simp [e]
    · rw [a2 j (by omega)]
/-- Two arrays that have as many in a window, and outside are one: they stand alike when it is spread. -/
theorem even_alike {n f k : Nat} {g g2 : Gap} (hl : n ≤ g.xs.length) (hl2 : n ≤ g2.xs.length) (hk : 8 * f + 8 * k ≤ n) (h1 : 1 ≤ k) (hc : cntF g2.on (8 * f + 8 * k) - cntF g2.on (8 * f) = cntF g.on (8 * f + 8 * k) - cntF g.on (8 * f)) (ho : ∀ j, j < 8 * f ∨ 8 * f + 8 * k ≤ j → g2.on j = g.on j) :
    keys (ons (evenR n f k g2).g.on (evenR n f k g2).g.xs n) = keys (ons (evenR n f k g).g.on (evenR n f k g).g.xs n) := by
  obtain ⟨a1, a2, _⟩ := even_on hl hk h1 rfl
  obtain ⟨b1, b2, _⟩ := even_on hl2 hk h1 hc
  refine keys_same fun j hj => ?_
  by_cases hw : 8 * f ≤ j ∧ j < 8 * f + 8 * k
  · have := a1 j hw.1 hw.2
    have := b1 j hw.1 hw.2
    exact Bool.eq_iff_iff.2 (by rw [a1 j hw.1 hw.2, b1 j hw.1 hw.2])
  · rw [a2 j (by omega), b2 j (by omega), ho j (by omega)]
/-- Spread again; packed ahead, and spread. -/
structure EvenT (n f k : Nat) (g g3 : Gap) : Prop where
  again : keys (ons (evenR n f k (evenR n f k g).g).g.on (evenR n f k (evenR n f k g).g).g.xs n) = keys (ons (evenR n f k g).g.on (evenR n f k g).g.xs n)
  llen : n ≤ (leftR n f k g3).g.xs.length
  packed : keys (ons (evenR n f k (leftR n f k g3).g).g.on (evenR n f k (leftR n f k g3).g).g.xs n) = keys (ons (evenR n f k g).g.on (evenR n f k g).g.xs n)
  items : vals (ons (evenR n f k (leftR n f k g3).g).g.on (evenR n f k (leftR n f k g3).g).g.xs n) = vals (ons g.on g.xs n)
theorem evenT {n f k : Nat} {g g3 : Gap} (hl : n ≤ g.xs.length) (hs : Same n g g3) (hk : 8 * f + 8 * k ≤ n) (h1 : 1 ≤ k) : EvenT n f k g g3 := by
  have hF := evenF hl hk h1
  obtain ⟨_, a2, _⟩ := even_on hl hk h1 rfl
  have hl3 := hs.len
  have hinv := pack_inv (b := 8 * f) hl3 (8 * k) hk
  have hit := leftR_items (f := f) hl3 hk
  have hll : n ≤ (leftR n f k g3).g.xs.length := by
    show n ≤ (packP n (8 * f) g3 (8 * k)).g.xs.length
    rw [hinv.len]; exact hl3
  have lout : ∀ j, j < 8 * f ∨ 8 * f + 8 * k ≤ j → (leftR n f k g3).g.on j = g.on j := fun j hj => by
    rw [← hs.on]
    rcases hj with h | h
    · exact (hinv.ahead j h).1
    · exact (hinv.rest j h).1
  have lcnt : cntF (leftR n f k g3).g.on n = cntF g.on n := by
    rw [cnt_items hit, hs.on]
  refine ⟨even_alike hl hF.len hk h1 hF.cnt a2, hll, even_alike hl hll hk h1 (cnt_win (by omega) hk lout lcnt) lout, ?_⟩
  rw [(evenR_inv hll hk h1).2, hit, hs.ons]
/-- A row gone through, some taken. -/
theorem take_filter {l : List Int} {p : Int → Bool} {i : Nat} (hi : i < l.length) : (l.take (i + 1)).filter p = (l.take i).filter p ++ (if p (l.getD i 0) then [l.getD i 0] else []) := by
  rw [List.take_add_one, List.getElem?_eq_getElem hi, List.filter_append, List.getD_eq_getElem?_getD, List.getElem?_eq_getElem hi]
  cases h : p l[i] <;> simp [h]
end Go.Proofs.YtofkkdjbilklcaaDoor.ZE

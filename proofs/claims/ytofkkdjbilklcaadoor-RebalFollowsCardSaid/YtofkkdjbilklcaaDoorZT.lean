/- The law RebalFollows walked: it returns true, whatever the array, the window and what is done. -/
import Derived.Test.YtofkkdjbilklcaaDoorZA
import Derived.Test.YtofkkdjbilklcaaDoorZF
import Derived.Test.YtofkkdjbilklcaaDoorZV
import Derived.BigQuiet
import Derived.StillTailTactics
namespace Go.Proofs.YtofkkdjbilklcaaDoor.ZT
open Go.RowKit Go.Shelf Go.Proofs.YtofkkdjbilklcaaDoorW.PrintWords Go.Proofs.YtofkkdjbilklcaaDoorW.PrintLast Go.Proofs.YtofkkdjbilklcaaDoorW.PrintMore G1 G0 Q1 G2 G3 G4 G5 G6 G7 G8 G9 G10 S1 Y1 Y3 Y2 Z0 Z1 Z2 Z3 Z4 ZR ZM ZP ZA ZF
open ZV (win_nat wf_le G7_len open_any)
set_option linter.unusedVariables false
set_option linter.unusedSimpArgs false
/-! What stands at each slot, laid element by element. -/
theorem ons_prefix (f : Nat → Bool) (xs : List Int) {k : Nat} : ∀ {n : Nat}, k ≤ n → ons f xs k <+: ons f xs n
  | 0, h => by obtain rfl : k = 0 := by omega
               exact List.prefix_refl _
  | n + 1, h => by
    by_cases e : k = n + 1
    · subst e; exact List.prefix_refl _
    · exact (ons_prefix f xs (show k ≤ n by omega)).trans (by rw [ons_succ]; exact List.prefix_append _ _)
theorem ons_at {f : Nat → Bool} {xs : List Int} {n k : Nat} (hk : k < (ons f xs n).length) : ∃ t, (ons f xs n)[k]? = some (t, xs.getD t 0) ∧ t < n ∧ f t = true := by
  have hm : (ons f xs n)[k] ∈ ons f xs n := List.getElem_mem hk
  unfold ons at hm
  obtain ⟨t, ht, he⟩ := List.mem_map.1 hm
  obtain ⟨h1, h2⟩ := List.mem_filter.1 ht
  refine ⟨t, ?_, List.mem_range.1 h1, h2⟩
  rw [List.getElem?_eq_getElem hk, he]
  rfl
theorem keys_get {L : List (Nat × Int)} {k : Nat} {x : Nat × Int} (h : L[k]? = some x) : (keys L).getD k 0 = x.1 ∧ (vals L).getD k 0 = x.2 := by
  unfold keys vals
  rw [List.getD_eq_getElem?_getD, List.getD_eq_getElem?_getD, List.getElem?_map, List.getElem?_map, h]
  exact ⟨rfl, rfl⟩
def fillP (n : Nat) (kk v : List Int) : Nat → List Int
  | 0 => List.replicate n 0
  | t + 1 => (fillP n kk v t).set (kk.getD t 0).toNat (v.getD t 0)
theorem fill_k {n : Nat} {f : Nat → Bool} {xs : List Int} : ∀ k, k ≤ n → fillP n (keys (ons f xs n)) (vals (ons f xs n)) (ons f xs k).length = (List.range n).map fun m => if m < k ∧ f m = true then xs.getD m 0 else 0
  | 0, _ => by
    rw [ons_zero]
    apply List.ext_getElem
    · simp [fillP]
    · intro m h1 h2
      simp [fillP]
  | k + 1, h => by
    have ih := fill_k (n := n) (f := f) (xs := xs) k (by omega)
    have hp := ons_prefix f xs h
    rw [ons_succ] at hp ⊢
    by_cases hf : f k = true
    · rw [if_pos hf] at hp ⊢
      have hL : (ons f xs n)[(ons f xs k).length]? = some (k, xs.getD k 0) := by
        obtain ⟨r, hr⟩ := hp
        rw [← hr]
        simp
      obtain ⟨e1, e2⟩ := keys_get hL
      rw [List.length_append, List.length_singleton]
      show (fillP n _ _ (ons f xs k).length).set _ _ = _
      rw [ih, e1, e2, Int.toNat_natCast]
      apply List.ext_getElem
      · simp
      · intro m h1 h2
        simp only [List.getElem_set, List.getElem_map, List.getElem_range]
        by_cases e : k = m
        · subst e; simp [hf]
        · rw [if_neg e]
          by_cases e3 : m < k
          · simp [e3, show m < k + 1 by omega]
          · rw [if_neg (fun h => e3 h.1), if_neg (fun h => e (by omega))]
    · rw [if_neg hf, List.append_nil, ih]
      apply List.ext_getElem
      · simp
      · intro m h1 h2
        simp only [List.getElem_map, List.getElem_range]
        by_cases e : m = k
        · subst e; simp [hf]
        · by_cases e3 : m < k
          · simp [e3, show m < k + 1 by omega]
          · rw [if_neg (fun h => e3 h.1), if_neg (fun h => e (by omega))]
theorem fill_ats {n : Nat} {g : Gap} : nums .i64 (fillP n (keys (ons g.on g.xs n)) (vals (ons g.on g.xs n)) (cntF g.on n)) = ats n g := by
  rw [← ons_length g.on g.xs n, fill_k n (Nat.le_refl _)]
  unfold nums ats atZ
  rw [List.map_map]
  apply List.map_congr_left
  intro m hm
  have := List.mem_range.1 hm
  simp [this]
theorem nums_set (l : List Int) (q : Nat) (x : Int) : (nums .i64 l).toArray.setIfInBounds q (.int .i64 x) = (nums .i64 (l.set q x)).toArray := by
  simp [nums, List.map_set]
theorem fill_len (n : Nat) (kk v : List Int) : ∀ t, (fillP n kk v t).length = n
  | 0 => by simp [fillP]
  | t + 1 => by
    show ((fillP n kk v t).set _ _).length = n
    rw [List.length_set]; exact fill_len n kk v t
/-- Elements of the array that is made have numbers. -/
theorem G7_good (s : Int) (l : List Int) : ZF.Good (nOf s) (G7 s l) := by
  obtain ⟨h1, h2, h3, h4⟩ := mk7_is (n := nOf s) (f := onF (nOf s) l l.length) (nOf s) (Nat.le_refl _)
  refine ⟨h1, fun i hi ho => ?_⟩
  have hf := ((h3 i).1 ho).2
  have h := h4 i hi hf
  unfold G7
  rw [h]
  have : cntF (onF (nOf s) l l.length) (i + 1) = cntF (onF (nOf s) l l.length) i + 1 := by
    show cntF _ i + _ = _
    rw [hf]; rfl
  omega
theorem leftR_run {n f k : Nat} {g : Gap} (hl : g.xs.length = n) (hk : 8 * f + 8 * k ≤ n) : runM n g (leftR n f k g).ms = (leftR n f k g).g := (pack_inv (b := 8 * f) hl (8 * k) hk).run
theorem evenR_run {n f k : Nat} {g : Gap} (hl : g.xs.length = n) (hk : 8 * f + 8 * k ≤ n) (hf : f + k ≤ 512) (h1 : 1 ≤ k) : runM n g (evenR n f k g).ms = (evenR n f k g).g := by
  have hinv := pack_inv (b := 8 * f) hl (8 * k) hk
  have hEV := ev_start (qs := plK (packP n (8 * f) g (8 * k)).c k f k) (pack_win hinv hl)
  have hPL := plc_of (n := n) (f := f) h1 hinv.le hk
  exact (even_inv (r0 := ⟨(packP n (8 * f) g (8 * k)).g, (packP n (8 * f) g (8 * k)).ms⟩) hPL hEV _ (Nat.le_refl _)).run
theorem openR_run {n sg : Nat} {bh : Int} {g : Gap} (hl : g.xs.length = n) (hw : 8 * sg + 8 ≤ n) : runM n g (openR n sg bh g).r.ms = (openR n sg bh g).r.g ∧ ((openR n sg bh g).e = 0 ∨ (openR n sg bh g).r.g = g) := by
  unfold openR
  split
  · exact ⟨rfl, .inr rfl⟩
  · rename_i hb
    split
    · exact ⟨rfl, .inr rfl⟩
    · rename_i hf
      unfold openN
      have hx : nextN (8 * sg) bh ≤ 8 * sg + 8 := by unfold nextN; split <;> omega
      split
      · rename_i i hu
        obtain ⟨h1, h2, h3, h4⟩ := upF_some hu
        exact ⟨(shiftR_inv hl (show i < n by omega) h3 h4 (i - nextN (8 * sg) bh) (by omega)).1, .inl rfl⟩
      · split
        · rename_i i hd
          obtain ⟨h1, h2, h3, h4⟩ := downF_some hd
          have hne : bh ≠ -1 := fun e => by rw [e] at h2; simp [nextN] at h2; omega
          have hn2 : nextN (8 * sg) bh = bh.toNat + 1 := by unfold nextN; rw [if_neg hne]
          rw [hn2] at h2 h4
          exact ⟨(shiftL_inv hl (show bh.toNat < n by omega) h3 (fun k k1 k2 => h4 k k1 (by omega)) (bh.toNat - i) (by omega)).1, .inl rfl⟩
        · exact ⟨rfl, .inr rfl⟩
theorem make_ints (n : Nat) (hn : n ≤ 1000000) (W : World) : (Instr.makeSlice 22 (.int .i64 (n : Int)) (.int .i64 (n : Int))).run Tryd.prog W = .ok (.slice (some ⟨W.heap.size, 0, none⟩) n n) (W.alloc (.cells (nums .i64 (List.replicate n 0)).toArray 3)) := by
  have h := print_make_int (P := Tryd.prog) 22 3 (.int .i64 0) 8 Tryd.underlying22 info_int rfl (by decide) (n : Int) (by omega) (by omega) W
  rw [Int.toNat_natCast, made_nums] at h
  exact h
theorem perm10 {a b c d e f g h i j : Ob} : [a, b, c, d, e, f, g, h, i, j].Perm [j, d, e, f, i, c, b, g, a, h] := List.Perm.map (fun q => [a, b, c, d, e, f, g, h, i, j].getD q a) (show [0, 1, 2, 3, 4, 5, 6, 7, 8, 9].Perm [9, 3, 4, 5, 8, 2, 1, 6, 0, 7] by decide)
section
variable {w : World} {A : Option Addr} {c : Nat} {l : List Int} {s : Int}
set_option maxRecDepth 100000 in
set_option maxHeartbeats 4000000 in
theorem law_left_yes (hT : Tb w) (hr : Kd.C (Kd.int .i64) w A l.length l) (hl : l.length ≤ 9223372036854775807) (hs : -9223372036854775808 ≤ s ∧ s ≤ 9223372036854775807) {a k : Int} (hw : winB (nOf s) a k = true) :
    Calls Tryd.prog 5 #[.agg #[.int .i64 s, .slice A l.length c], .agg #[.int .i64 a, .int .i64 k], .int .i64 1] w fun e w' => e = .returned (.bool true) ∧ Below w.heap.size w w' := by
  obtain ⟨f, q, ha, hk, h1, h2, h3⟩ := win_nat hw
  have hR := leftR_run (f := f) (k := q) (g := G7 s l) (G7_len s l) h2 
  have HW := Aside0.mk (And.intro ha (And.intro hk (And.intro h1 (And.intro h2 h3))))
  clear ha hk h1 h2 h3 hw
  have HT := Aside0.mk hT
  have HS := Aside0.mk (((Sep.nil w).new_blk #[.int .i64 s, .slice A l.length c] 24).new_blk #[.int .i64 a, .int .i64 k] 46)
  simp only [World.size_alloc] at HS
  have C := Aside0.mk (made_any (c := c) (Kd.C_below hr HS.out.below) hl hs)
  have c0 : (_ : Option Value) = some (.int .i64 s) := (blk_cell (HS.out.blk 0 rfl) 0).trans rfl
  have c1 : (_ : Option Value) = some (.slice A l.length c) := (blk_cell (HS.out.blk 0 rfl) 1).trans rfl
  have hn := (nOf_le s).2.1
  have hg := G7_good s l
  generalize G7 s l = g at *
  generalize nOf s = n at *
  have HG := Aside0.mk hg
  have lv : (vals (ons g.on g.xs n)).length = cntF g.on n := by rw [vals, List.length_map, ons_length]
  have lk : (keys (ons g.on g.xs n)).length = cntF g.on n := by rw [keys, List.length_map, ons_length]
  clear hT hr hl hs hg
  go_enter Tryd.func5, Tryd.ntmps5
  go_wp2_with fail
  refine C.out.mono ?_
  clear C c0 c1
  rintro e w1 ⟨p, sb, ob, wb, r, lb, rfl, hs1⟩
  have HS : Aside0 (Sep w w1 [S1.Blk w.heap.size #[.int .i64 s, .slice A l.length c] 24, S1.Blk (w.heap.size + 1) #[.int .i64 a, .int .i64 k] 46, S1.Arr p sb ob wb n g]) := ⟨(HS.out.append hs1).take 3⟩
  clear hs1
  obtain ⟨vs, hs⟩ := HS.out.arr 2 rfl
  have C := Aside0.mk (cap_any hs)
  clear hs vs
  go_wp2_with fail
  refine C.out.mono ?_
  clear C
  rintro e wc ⟨rfl, rfl⟩
  have hmk := make_ints n (by omega)
  have HS : Aside0 (Sep w (((w1.alloc (.cells #[.int .i64 (n : Int)] 3)).alloc (.cells (nums .i64 (List.replicate n 0)).toArray 3)).alloc (.cells #[.slice (some ⟨w1.heap.size + 1, 0, none⟩) n n] 22)) [S1.Blk w.heap.size #[.int .i64 s, .slice A l.length c] 24, S1.Blk (w.heap.size + 1) #[.int .i64 a, .int .i64 k] 46, S1.Arr p sb ob wb n g, S1.Blk w1.heap.size #[.int .i64 (n : Int)] 3, S1.Blk (w1.heap.size + 1) (nums .i64 (List.replicate n 0)).toArray 3, S1.Blk (w1.heap.size + 1 + 1) #[.slice (some ⟨w1.heap.size + 1, 0, none⟩) n n] 22]) := ⟨by
    have h := ((HS.out.new_blk #[.int .i64 (n : Int)] 3).new_blk (nums .i64 (List.replicate n 0)).toArray 3).new_blk #[.slice (some ⟨w1.heap.size + 1, 0, none⟩) n n] 22
    simp only [World.size_alloc] at h
    exact h⟩
  have C := places_any (HS.out.arr 2 rfl).choose_spec (Kd.C_below HT.out HS.out.below)
  have C := Aside0.mk C
  go_wp2_with fail
  refine C.out.mono ?_
  clear C
  rintro e w2 ⟨A1, c1, rfl, g1, g2, g3, hb⟩
  rw [← lk] at g3
  replace HS := Aside0.mk (HS.out.new_own hb g3)
  clear g1 g2 g3 hb
  generalize hb1 : w1.heap.size = bn at *
  obtain ⟨ba, hb2⟩ : ∃ ba, bn + 1 = ba := ⟨_, rfl⟩
  rw [hb2] at HS ⊢
  obtain ⟨bc, hb3⟩ : ∃ bc, ba + 1 = bc := ⟨_, rfl⟩
  rw [hb3] at HS ⊢
  clear hb1 hb2 hb3 hmk
  have C := items_any (HS.out.arr 2 rfl).choose_spec (Kd.C_below HT.out HS.out.below)
  have C := Aside0.mk C
  go_wp2_with fail
  refine C.out.mono ?_
  clear C
  rintro e w3 ⟨A2, c2, rfl, g1, g2, g3, hb⟩
  rw [← lv] at g3
  replace HS := HS.out.new_own hb g3
  rw [lk, lv] at HS
  have HS := Aside0.mk HS
  clear g1 g2 g3 hb
  have HF := Aside0.mk (fill_ats (n := n) (g := g))
  have HK : Aside0 (∀ t, t < cntF g.on n → ∃ q : Nat, (keys (ons g.on g.xs n)).getD t 0 = (q : Int) ∧ q < n) := ⟨fun t ht => by
    obtain ⟨q, h1, h2, _⟩ := ons_at (f := g.on) (xs := g.xs) (n := n) (k := t) (by rw [ons_length]; exact ht)
    exact ⟨q, (keys_get h1).1, h2⟩⟩
  have HM : Aside0 (cntF g.on n ≤ 200) := ⟨Nat.le_trans (cntF_le _ _) hn⟩
  generalize hkk : keys (ons g.on g.xs n) = kk at *
  generalize hvv : vals (ons g.on g.xs n) = v at *
  generalize hmm : cntF g.on n = m at *
  have HL := Aside0.mk (And.intro lk lv)
  have HKK := Aside0.mk (And.intro hkk hmm)
  clear lk lv hkk hvv hmm
  go_wp2
  go_loopg [13] (m + 1) (fun kq v13 W => ∃ t : Nat, v13 = .int .i64 (t : Int) ∧ t ≤ m ∧ Aside0 (m + 1 - t ≤ kq) ∧ Aside0 (Sep w W [S1.Blk w.heap.size #[.int .i64 s, .slice A l.length c] 24, S1.Blk (w.heap.size + 1) #[.int .i64 a, .int .i64 k] 46, S1.Arr p sb ob wb n g, S1.Blk bn #[.int .i64 (n : Int)] 3, S1.Blk ba (nums .i64 (fillP n kk v t)).toArray 3, S1.Blk bc #[.slice (some ⟨ba, 0, none⟩) n n] 22, S1.Own (.slice A1 m c1) kk, S1.Own (.slice A2 m c2) v]))
  case atStart => exact ⟨0, rfl, by omega, ⟨by omega⟩, HS⟩
  case round =>
    clear HS
    obtain ⟨t, rfl, ht, HQ, HS⟩ := hrel
    by_cases hlt : t < m
    · obtain ⟨q, hq, hqn⟩ := HK.out t hlt
      have HC := Aside0.mk hlt
      have ht2 : (t : Int) ≤ 200 := by have := HM.out; omega
      obtain ⟨x, hxv⟩ : ∃ x, v.getD t 0 = x := ⟨_, rfl⟩
      obtain ⟨ad1, rfl⟩ : ∃ ad, A1 = some ad := by
        obtain ⟨A', c', e', _, h2⟩ := G9.own_C (HS.out.own 6 rfl)
        injection e' with e1 e2 e3
        subst e1
        rw [HL.out.1] at h2
        obtain ⟨ad, e, hx⟩ := Kd.at_int h2 (t : Int) (by omega) (by omega)
        exact ⟨ad, e⟩
      obtain ⟨ad2, rfl⟩ : ∃ ad, A2 = some ad := by
        obtain ⟨A', c', e', _, h2⟩ := G9.own_C (HS.out.own 7 rfl)
        injection e' with e1 e2 e3
        subst e1
        rw [HL.out.2] at h2
        obtain ⟨ad, e, hx⟩ := Kd.at_int h2 (t : Int) (by omega) (by omega)
        exact ⟨ad, e⟩
      have d1 : (_ : Option Value) = some (.int .i64 (n : Int)) := (blk_cell (HS.out.blk 3 rfl) 0).trans rfl
      have d3 : (_ : Option Value) = some (.slice (some ⟨ba, 0, none⟩) n n) := (blk_cell (HS.out.blk 5 rfl) 0).trans rfl
      have f1 := blk_frozen (HS.out.blk 4 rfl) q
      obtain ⟨zq, b1⟩ : ∃ z, (wr).cell? ⟨ba, q, none⟩ = some (.int .i64 z) := ⟨_, (blk_cell (HS.out.blk 4 rfl) q).trans (show (nums .i64 (fillP n kk v t)).toArray[q]? = some (.int .i64 ((fillP n kk v t).getD q 0)) by simp [nums, fill_len, hqn])⟩
      have hx : (wr).cell? (ad1.add t) = some (.int .i64 (q : Int)) := by
        obtain ⟨A', c', e', _, h2⟩ := G9.own_C (HS.out.own 6 rfl)
        injection e' with e1 e2 e3
        subst e1
        rw [HL.out.1] at h2
        obtain ⟨ad, e, hx⟩ := Kd.at_int h2 (t : Int) (by omega) (by have := HC.out; omega)
        rw [Int.toNat_natCast, show rd kk (t : Int) = kk.getD t 0 from rfl, hq] at hx
        cases e
        exact hx
      have hy : (wr).cell? (ad2.add t) = some (.int .i64 x) := by
        obtain ⟨A', c', e', _, h2⟩ := G9.own_C (HS.out.own 7 rfl)
        injection e' with e1 e2 e3
        subst e1
        rw [HL.out.2] at h2
        obtain ⟨ad, e, hx⟩ := Kd.at_int h2 (t : Int) (by omega) (by have := HC.out; omega)
        rw [Int.toNat_natCast, show rd v (t : Int) = v.getD t 0 from rfl, hxv] at hx
        cases e
        exact hx
      have p0 : decide ((q : Int) < 0) = false := decide_eq_false (by omega)
      have p1 : decide (n ≤ q) = false := decide_eq_false (by omega)
      go_wp2
      go_quiet (fail)
      clear d1 d3 hx hy b1 f1
      replace HS := Aside0.mk (HS.out.step (pw_below_drewN (Below.refl _ wr) nq))
      generalize wr.drewN nq = w5 at *
      have d1 : (_ : Option Value) = some (.int .i64 (n : Int)) := (blk_cell (HS.out.blk 3 rfl) 0).trans rfl
      have d3 : (_ : Option Value) = some (.slice (some ⟨ba, 0, none⟩) n n) := (blk_cell (HS.out.blk 5 rfl) 0).trans rfl
      have f1 := blk_frozen (HS.out.blk 4 rfl) q
      obtain ⟨zq, b1⟩ : ∃ z, (w5).cell? ⟨ba, q, none⟩ = some (.int .i64 z) := ⟨_, (blk_cell (HS.out.blk 4 rfl) q).trans (show (nums .i64 (fillP n kk v t)).toArray[q]? = some (.int .i64 ((fillP n kk v t).getD q 0)) by simp [nums, fill_len, hqn])⟩
      have hx : (w5).cell? (ad1.add t) = some (.int .i64 (q : Int)) := by
        obtain ⟨A', c', e', _, h2⟩ := G9.own_C (HS.out.own 6 rfl)
        injection e' with e1 e2 e3
        subst e1
        rw [HL.out.1] at h2
        obtain ⟨ad, e, hx⟩ := Kd.at_int h2 (t : Int) (by omega) (by have := HC.out; omega)
        rw [Int.toNat_natCast, show rd kk (t : Int) = kk.getD t 0 from rfl, hq] at hx
        cases e
        exact hx
      have hy : (w5).cell? (ad2.add t) = some (.int .i64 x) := by
        obtain ⟨A', c', e', _, h2⟩ := G9.own_C (HS.out.own 7 rfl)
        injection e' with e1 e2 e3
        subst e1
        rw [HL.out.2] at h2
        obtain ⟨ad, e, hx⟩ := Kd.at_int h2 (t : Int) (by omega) (by have := HC.out; omega)
        rw [Int.toNat_natCast, show rd v (t : Int) = v.getD t 0 from rfl, hxv] at hx
        cases e
        exact hx
      go_wp2
      go_still_tail 10, (by kernel_rfl)
      change wpList _ _ _ _ _ w5.drew
      clear d1 d3 hx hy b1 f1
      replace HS := Aside0.mk (HS.out.step (below_drew (Below.refl _ w5)))
      generalize w5.drew = w6 at *
      have d1 : (_ : Option Value) = some (.int .i64 (n : Int)) := (blk_cell (HS.out.blk 3 rfl) 0).trans rfl
      have d3 : (_ : Option Value) = some (.slice (some ⟨ba, 0, none⟩) n n) := (blk_cell (HS.out.blk 5 rfl) 0).trans rfl
      have f1 := blk_frozen (HS.out.blk 4 rfl) q
      obtain ⟨zq, b1⟩ : ∃ z, (w6).cell? ⟨ba, q, none⟩ = some (.int .i64 z) := ⟨_, (blk_cell (HS.out.blk 4 rfl) q).trans (show (nums .i64 (fillP n kk v t)).toArray[q]? = some (.int .i64 ((fillP n kk v t).getD q 0)) by simp [nums, fill_len, hqn])⟩
      have hx : (w6).cell? (ad1.add t) = some (.int .i64 (q : Int)) := by
        obtain ⟨A', c', e', _, h2⟩ := G9.own_C (HS.out.own 6 rfl)
        injection e' with e1 e2 e3
        subst e1
        rw [HL.out.1] at h2
        obtain ⟨ad, e, hx⟩ := Kd.at_int h2 (t : Int) (by omega) (by have := HC.out; omega)
        rw [Int.toNat_natCast, show rd kk (t : Int) = kk.getD t 0 from rfl, hq] at hx
        cases e
        exact hx
      have hy : (w6).cell? (ad2.add t) = some (.int .i64 x) := by
        obtain ⟨A', c', e', _, h2⟩ := G9.own_C (HS.out.own 7 rfl)
        injection e' with e1 e2 e3
        subst e1
        rw [HL.out.2] at h2
        obtain ⟨ad, e, hx⟩ := Kd.at_int h2 (t : Int) (by omega) (by have := HC.out; omega)
        rw [Int.toNat_natCast, show rd v (t : Int) = v.getD t 0 from rfl, hxv] at hx
        cases e
        exact hx
      have HS2 := HS.out.turn_blk 4 rfl q (.int .i64 x)
      rw [nums_set, show (fillP n kk v t).set q x = fillP n kk v (t + 1) by show _ = (fillP n kk v t).set (kk.getD t 0).toNat (v.getD t 0); rw [hq, Int.toNat_natCast, hxv]] at HS2
      have HS2 := Aside0.mk HS2
      clear hq hxv
      go_wp2
      go_roundg (m - t)
      case measure => have := HQ.out; have := HC.out; omega
      case rel => exact ⟨t + 1, by go_num, by have := HC.out; omega, ⟨by omega⟩, HS2⟩
    · obtain rfl : t = m := by omega
      rw [HF.out] at HS
      obtain ⟨br, hbr⟩ : ∃ br, wr.heap.size = br := ⟨_, rfl⟩
      have HS : Aside0 (Sep w (wr.alloc (.cells #[.bool true] 4)) (TF n g bn ba bc br () [] ++ (S1.Arr p sb ob wb n g :: [S1.Blk (w.heap.size + 1) #[.int .i64 a, .int .i64 k] 46, S1.Own (.slice A1 t c1) kk, S1.Blk w.heap.size #[.int .i64 s, .slice A l.length c] 24, S1.Own (.slice A2 t c2) v]))) := ⟨by
        have h := (HS.out.new_blk #[.bool true] 4).push (Below.refl _ _) (FactO (ZF.Good n g)) HG.out (fun k hk => by cases hk)
        rw [hbr] at h
        exact h.perm perm10⟩
      have d0 : (_ : Option Value) = some (.int .i64 a) := (blk_cell (HS.out.blk 6 rfl) 0).trans rfl
      have d1 : (_ : Option Value) = some (.int .i64 k) := (blk_cell (HS.out.blk 6 rfl) 1).trans rfl
      obtain ⟨hnn⟩ : Aside0 (n ≤ 100000) := ⟨by omega⟩
      have hc : ¬ t < t := by omega
      clear hlt ht HQ HF HK hnn
      have HRun := Aside0.mk hR
      have C := left_any (s := ()) (T := TF n g bn ba bc br) (tell_F w (by omega) g bn ba bc br) HT.out HS.out HG.out.len HW.out.2.2.2.1 HW.out.2.2.2.2 HW.out.2.2.1
      rw [← HW.out.1, ← HW.out.2.1] at C
      have C := Aside0.mk C
      clear hR
      go_wp2_with fail
      refine C.out.mono ?_
      clear C d0 d1 hbr
      rintro e w3 ⟨rfl, _, hs3⟩
      replace HS := Aside0.mk hs3
      clear hs3
      generalize leftR n f q g = E at *
      obtain ⟨g', ms⟩ := E
      dsimp only at HS HRun
      generalize ms.length = nm at *
      have HS : Aside0 (Sep w w3 [FactO (ZF.Good n g'), S1.Blk bn #[.int .i64 (n : Int)] 3, S1.Blk ba (ats n g').toArray 3, S1.Blk bc #[.slice (some ⟨ba, 0, none⟩) n n] 22, S1.Blk br #[.bool true] 4, S1.Arr p sb ob wb n g', S1.Blk (w.heap.size + 1) #[.int .i64 a, .int .i64 k] 46, S1.Own (.slice A1 t c1) kk, S1.Blk w.heap.size #[.int .i64 s, .slice A l.length c] 24, S1.Own (.slice A2 t c2) v]) := ⟨by
        have h := HS.out
        unfold TF at h
        rw [HRun.out] at h
        exact h⟩
      have LC := Aside0.mk (fun m => Calls.quiet_of_same (n := m) (w := w3) ((cap_any ((HS.out.step (pw_below_drewN (Below.refl _ w3) m)).arr 5 rfl).choose_spec).mono fun _ _ ⟨he, hm⟩ => ⟨he, hm.symm⟩))
      have d1 : (_ : Option Value) = some (.int .i64 (n : Int)) := (blk_cell (HS.out.blk 1 rfl) 0).trans rfl
      have d4 : (_ : Option Value) = some (.bool true) := (blk_cell (HS.out.blk 4 rfl) 0).trans rfl
      go_wp2
      go_quiet ((go_at_call 28; exact LC.out _))
      clear LC d1 d4
      replace HS := Aside0.mk (HS.out.step (pw_below_drewN (Below.refl _ w3) nq))
      generalize w3.drewN nq = w4 at *
      go_wp2
      go_loopg [17] (n + 1) (fun kq v17 V => ∃ i : Nat, v17 = .int .i64 (i : Int) ∧ i ≤ n ∧ Aside0 (n + 1 - i ≤ kq) ∧ w4 = V)
      case atStart => exact ⟨0, rfl, by omega, ⟨by omega⟩, rfl⟩
      case round =>
        obtain ⟨i, rfl, hi, HQ, rfl⟩ := hrel
        have d1 : (_ : Option Value) = some (.int .i64 (n : Int)) := (blk_cell (HS.out.blk 1 rfl) 0).trans rfl
        by_cases hlt : i < n
        · have d3 : (_ : Option Value) = some (.slice (some ⟨ba, 0, none⟩) n n) := (blk_cell (HS.out.blk 3 rfl) 0).trans rfl
          have b1 : (_ : Option Value) = some (.int .i64 (atZ g' i)) := (blk_cell (HS.out.blk 2 rfl) i).trans (ats_at g' hlt)
          have hgd : ZF.Good n g' := HS.out.get 0 rfl
          have hi5 : (i : Int) ≤ 200 := by omega
          have HC := Aside0.mk hlt
          obtain ⟨vs, hsl⟩ := HS.out.arr 5 rfl
          cases hon : g'.on i with
          | true =>
            have C := at_on hsl hlt hon
            have hx := hgd.pos i hlt hon
            rw [show atZ g' i = g'.xs.getD i 0 by unfold atZ; rw [if_pos hon]] at b1
            clear hon hgd hsl vs
            generalize g'.xs.getD i 0 = x at *
            have q1 : (x != 0) = true := bne_iff_ne.2 hx
            have q2 : (x != x) = false := by simp
            have C := Aside0.mk C
            clear hx
            go_wp2_with fail
            refine C.out.mono ?_
            clear C
            rintro e w5 ⟨rfl, rfl⟩
            go_wp2
            go_roundg (n - i)
            case measure => have := HQ.out; have := HC.out; omega
            case rel => exact ⟨i + 1, by go_num, by have := HC.out; omega, ⟨by omega⟩, rfl⟩
          | false =>
            have C := at_off hsl (i := (i : Int)) (.inr (.inr (by rw [Int.toNat_natCast]; exact hon)))
            rw [show atZ g' i = 0 by unfold atZ; rw [hon]; rfl] at b1
            clear hon hgd hsl vs
            have C := Aside0.mk C
            go_wp2_with fail
            refine C.out.mono ?_
            clear C
            rintro e w5 ⟨rfl, rfl⟩
            go_wp2
            go_roundg (n - i)
            case measure => have := HQ.out; have := HC.out; omega
            case rel => exact ⟨i + 1, by go_num, by have := HC.out; omega, ⟨by omega⟩, rfl⟩
        · obtain rfl : i = n := by omega
          clear hlt
          have C := Aside0.mk (awake_any _ (Kd.C_below HT.out HS.out.below))
          go_wp2_with fail
          refine C.out.mono ?_
          clear C
          rintro e w30 ⟨rfl, hb⟩
          replace HS := Aside0.mk (HS.out.step hb)
          clear hb
          go_wp2
          (try rw [Exit.noGoto_ret])
          go_ret
          exact ⟨rfl, HS.out.below⟩
set_option maxRecDepth 100000 in
set_option maxHeartbeats 4000000 in
theorem law_even_yes (hT : Tb w) (hr : Kd.C (Kd.int .i64) w A l.length l) (hl : l.length ≤ 9223372036854775807) (hs : -9223372036854775808 ≤ s ∧ s ≤ 9223372036854775807) {a k : Int} (hw : winB (nOf s) a k = true) :
    Calls Tryd.prog 5 #[.agg #[.int .i64 s, .slice A l.length c], .agg #[.int .i64 a, .int .i64 k], .int .i64 0] w fun e w' => e = .returned (.bool true) ∧ Below w.heap.size w w' := by
  obtain ⟨f, q, ha, hk, h1, h2, h3⟩ := win_nat hw
  have hR := evenR_run (f := f) (k := q) (g := G7 s l) (G7_len s l) h2 h3 h1
  have HW := Aside0.mk (And.intro ha (And.intro hk (And.intro h1 (And.intro h2 h3))))
  clear ha hk h1 h2 h3 hw
  have HT := Aside0.mk hT
  have HS := Aside0.mk (((Sep.nil w).new_blk #[.int .i64 s, .slice A l.length c] 24).new_blk #[.int .i64 a, .int .i64 k] 46)
  simp only [World.size_alloc] at HS
  have C := Aside0.mk (made_any (c := c) (Kd.C_below hr HS.out.below) hl hs)
  have c0 : (_ : Option Value) = some (.int .i64 s) := (blk_cell (HS.out.blk 0 rfl) 0).trans rfl
  have c1 : (_ : Option Value) = some (.slice A l.length c) := (blk_cell (HS.out.blk 0 rfl) 1).trans rfl
  have hn := (nOf_le s).2.1
  have hg := G7_good s l
  generalize G7 s l = g at *
  generalize nOf s = n at *
  have HG := Aside0.mk hg
  have lv : (vals (ons g.on g.xs n)).length = cntF g.on n := by rw [vals, List.length_map, ons_length]
  have lk : (keys (ons g.on g.xs n)).length = cntF g.on n := by rw [keys, List.length_map, ons_length]
  clear hT hr hl hs hg
  go_enter Tryd.func5, Tryd.ntmps5
  go_wp2_with fail
  refine C.out.mono ?_
  clear C c0 c1
  rintro e w1 ⟨p, sb, ob, wb, r, lb, rfl, hs1⟩
  have HS : Aside0 (Sep w w1 [S1.Blk w.heap.size #[.int .i64 s, .slice A l.length c] 24, S1.Blk (w.heap.size + 1) #[.int .i64 a, .int .i64 k] 46, S1.Arr p sb ob wb n g]) := ⟨(HS.out.append hs1).take 3⟩
  clear hs1
  obtain ⟨vs, hs⟩ := HS.out.arr 2 rfl
  have C := Aside0.mk (cap_any hs)
  clear hs vs
  go_wp2_with fail
  refine C.out.mono ?_
  clear C
  rintro e wc ⟨rfl, rfl⟩
  have hmk := make_ints n (by omega)
  have HS : Aside0 (Sep w (((w1.alloc (.cells #[.int .i64 (n : Int)] 3)).alloc (.cells (nums .i64 (List.replicate n 0)).toArray 3)).alloc (.cells #[.slice (some ⟨w1.heap.size + 1, 0, none⟩) n n] 22)) [S1.Blk w.heap.size #[.int .i64 s, .slice A l.length c] 24, S1.Blk (w.heap.size + 1) #[.int .i64 a, .int .i64 k] 46, S1.Arr p sb ob wb n g, S1.Blk w1.heap.size #[.int .i64 (n : Int)] 3, S1.Blk (w1.heap.size + 1) (nums .i64 (List.replicate n 0)).toArray 3, S1.Blk (w1.heap.size + 1 + 1) #[.slice (some ⟨w1.heap.size + 1, 0, none⟩) n n] 22]) := ⟨by
    have h := ((HS.out.new_blk #[.int .i64 (n : Int)] 3).new_blk (nums .i64 (List.replicate n 0)).toArray 3).new_blk #[.slice (some ⟨w1.heap.size + 1, 0, none⟩) n n] 22
    simp only [World.size_alloc] at h
    exact h⟩
  have C := places_any (HS.out.arr 2 rfl).choose_spec (Kd.C_below HT.out HS.out.below)
  have C := Aside0.mk C
  go_wp2_with fail
  refine C.out.mono ?_
  clear C
  rintro e w2 ⟨A1, c1, rfl, g1, g2, g3, hb⟩
  rw [← lk] at g3
  replace HS := Aside0.mk (HS.out.new_own hb g3)
  clear g1 g2 g3 hb
  generalize hb1 : w1.heap.size = bn at *
  obtain ⟨ba, hb2⟩ : ∃ ba, bn + 1 = ba := ⟨_, rfl⟩
  rw [hb2] at HS ⊢
  obtain ⟨bc, hb3⟩ : ∃ bc, ba + 1 = bc := ⟨_, rfl⟩
  rw [hb3] at HS ⊢
  clear hb1 hb2 hb3 hmk
  have C := items_any (HS.out.arr 2 rfl).choose_spec (Kd.C_below HT.out HS.out.below)
  have C := Aside0.mk C
  go_wp2_with fail
  refine C.out.mono ?_
  clear C
  rintro e w3 ⟨A2, c2, rfl, g1, g2, g3, hb⟩
  rw [← lv] at g3
  replace HS := HS.out.new_own hb g3
  rw [lk, lv] at HS
  have HS := Aside0.mk HS
  clear g1 g2 g3 hb
  have HF := Aside0.mk (fill_ats (n := n) (g := g))
  have HK : Aside0 (∀ t, t < cntF g.on n → ∃ q : Nat, (keys (ons g.on g.xs n)).getD t 0 = (q : Int) ∧ q < n) := ⟨fun t ht => by
    obtain ⟨q, h1, h2, _⟩ := ons_at (f := g.on) (xs := g.xs) (n := n) (k := t) (by rw [ons_length]; exact ht)
    exact ⟨q, (keys_get h1).1, h2⟩⟩
  have HM : Aside0 (cntF g.on n ≤ 200) := ⟨Nat.le_trans (cntF_le _ _) hn⟩
  generalize hkk : keys (ons g.on g.xs n) = kk at *
  generalize hvv : vals (ons g.on g.xs n) = v at *
  generalize hmm : cntF g.on n = m at *
  have HL := Aside0.mk (And.intro lk lv)
  have HKK := Aside0.mk (And.intro hkk hmm)
  clear lk lv hkk hvv hmm
  go_wp2
  go_loopg [13] (m + 1) (fun kq v13 W => ∃ t : Nat, v13 = .int .i64 (t : Int) ∧ t ≤ m ∧ Aside0 (m + 1 - t ≤ kq) ∧ Aside0 (Sep w W [S1.Blk w.heap.size #[.int .i64 s, .slice A l.length c] 24, S1.Blk (w.heap.size + 1) #[.int .i64 a, .int .i64 k] 46, S1.Arr p sb ob wb n g, S1.Blk bn #[.int .i64 (n : Int)] 3, S1.Blk ba (nums .i64 (fillP n kk v t)).toArray 3, S1.Blk bc #[.slice (some ⟨ba, 0, none⟩) n n] 22, S1.Own (.slice A1 m c1) kk, S1.Own (.slice A2 m c2) v]))
  case atStart => exact ⟨0, rfl, by omega, ⟨by omega⟩, HS⟩
  case round =>
    clear HS
    obtain ⟨t, rfl, ht, HQ, HS⟩ := hrel
    by_cases hlt : t < m
    · obtain ⟨q, hq, hqn⟩ := HK.out t hlt
      have HC := Aside0.mk hlt
      have ht2 : (t : Int) ≤ 200 := by have := HM.out; omega
      obtain ⟨x, hxv⟩ : ∃ x, v.getD t 0 = x := ⟨_, rfl⟩
      obtain ⟨ad1, rfl⟩ : ∃ ad, A1 = some ad := by
        obtain ⟨A', c', e', _, h2⟩ := G9.own_C (HS.out.own 6 rfl)
        injection e' with e1 e2 e3
        subst e1
        rw [HL.out.1] at h2
        obtain ⟨ad, e, hx⟩ := Kd.at_int h2 (t : Int) (by omega) (by omega)
        exact ⟨ad, e⟩
      obtain ⟨ad2, rfl⟩ : ∃ ad, A2 = some ad := by
        obtain ⟨A', c', e', _, h2⟩ := G9.own_C (HS.out.own 7 rfl)
        injection e' with e1 e2 e3
        subst e1
        rw [HL.out.2] at h2
        obtain ⟨ad, e, hx⟩ := Kd.at_int h2 (t : Int) (by omega) (by omega)
        exact ⟨ad, e⟩
      have d1 : (_ : Option Value) = some (.int .i64 (n : Int)) := (blk_cell (HS.out.blk 3 rfl) 0).trans rfl
      have d3 : (_ : Option Value) = some (.slice (some ⟨ba, 0, none⟩) n n) := (blk_cell (HS.out.blk 5 rfl) 0).trans rfl
      have f1 := blk_frozen (HS.out.blk 4 rfl) q
      obtain ⟨zq, b1⟩ : ∃ z, (wr).cell? ⟨ba, q, none⟩ = some (.int .i64 z) := ⟨_, (blk_cell (HS.out.blk 4 rfl) q).trans (show (nums .i64 (fillP n kk v t)).toArray[q]? = some (.int .i64 ((fillP n kk v t).getD q 0)) by simp [nums, fill_len, hqn])⟩
      have hx : (wr).cell? (ad1.add t) = some (.int .i64 (q : Int)) := by
        obtain ⟨A', c', e', _, h2⟩ := G9.own_C (HS.out.own 6 rfl)
        injection e' with e1 e2 e3
        subst e1
        rw [HL.out.1] at h2
        obtain ⟨ad, e, hx⟩ := Kd.at_int h2 (t : Int) (by omega) (by have := HC.out; omega)
        rw [Int.toNat_natCast, show rd kk (t : Int) = kk.getD t 0 from rfl, hq] at hx
        cases e
        exact hx
      have hy : (wr).cell? (ad2.add t) = some (.int .i64 x) := by
        obtain ⟨A', c', e', _, h2⟩ := G9.own_C (HS.out.own 7 rfl)
        injection e' with e1 e2 e3
        subst e1
        rw [HL.out.2] at h2
        obtain ⟨ad, e, hx⟩ := Kd.at_int h2 (t : Int) (by omega) (by have := HC.out; omega)
        rw [Int.toNat_natCast, show rd v (t : Int) = v.getD t 0 from rfl, hxv] at hx
        cases e
        exact hx
      have p0 : decide ((q : Int) < 0) = false := decide_eq_false (by omega)
      have p1 : decide (n ≤ q) = false := decide_eq_false (by omega)
      go_wp2
      go_quiet (fail)
      clear d1 d3 hx hy b1 f1
      replace HS := Aside0.mk (HS.out.step (pw_below_drewN (Below.refl _ wr) nq))
      generalize wr.drewN nq = w5 at *
      have d1 : (_ : Option Value) = some (.int .i64 (n : Int)) := (blk_cell (HS.out.blk 3 rfl) 0).trans rfl
      have d3 : (_ : Option Value) = some (.slice (some ⟨ba, 0, none⟩) n n) := (blk_cell (HS.out.blk 5 rfl) 0).trans rfl
      have f1 := blk_frozen (HS.out.blk 4 rfl) q
      obtain ⟨zq, b1⟩ : ∃ z, (w5).cell? ⟨ba, q, none⟩ = some (.int .i64 z) := ⟨_, (blk_cell (HS.out.blk 4 rfl) q).trans (show (nums .i64 (fillP n kk v t)).toArray[q]? = some (.int .i64 ((fillP n kk v t).getD q 0)) by simp [nums, fill_len, hqn])⟩
      have hx : (w5).cell? (ad1.add t) = some (.int .i64 (q : Int)) := by
        obtain ⟨A', c', e', _, h2⟩ := G9.own_C (HS.out.own 6 rfl)
        injection e' with e1 e2 e3
        subst e1
        rw [HL.out.1] at h2
        obtain ⟨ad, e, hx⟩ := Kd.at_int h2 (t : Int) (by omega) (by have := HC.out; omega)
        rw [Int.toNat_natCast, show rd kk (t : Int) = kk.getD t 0 from rfl, hq] at hx
        cases e
        exact hx
      have hy : (w5).cell? (ad2.add t) = some (.int .i64 x) := by
        obtain ⟨A', c', e', _, h2⟩ := G9.own_C (HS.out.own 7 rfl)
        injection e' with e1 e2 e3
        subst e1
        rw [HL.out.2] at h2
        obtain ⟨ad, e, hx⟩ := Kd.at_int h2 (t : Int) (by omega) (by have := HC.out; omega)
        rw [Int.toNat_natCast, show rd v (t : Int) = v.getD t 0 from rfl, hxv] at hx
        cases e
        exact hx
      go_wp2
      go_still_tail 10, (by kernel_rfl)
      change wpList _ _ _ _ _ w5.drew
      clear d1 d3 hx hy b1 f1
      replace HS := Aside0.mk (HS.out.step (below_drew (Below.refl _ w5)))
      generalize w5.drew = w6 at *
      have d1 : (_ : Option Value) = some (.int .i64 (n : Int)) := (blk_cell (HS.out.blk 3 rfl) 0).trans rfl
      have d3 : (_ : Option Value) = some (.slice (some ⟨ba, 0, none⟩) n n) := (blk_cell (HS.out.blk 5 rfl) 0).trans rfl
      have f1 := blk_frozen (HS.out.blk 4 rfl) q
      obtain ⟨zq, b1⟩ : ∃ z, (w6).cell? ⟨ba, q, none⟩ = some (.int .i64 z) := ⟨_, (blk_cell (HS.out.blk 4 rfl) q).trans (show (nums .i64 (fillP n kk v t)).toArray[q]? = some (.int .i64 ((fillP n kk v t).getD q 0)) by simp [nums, fill_len, hqn])⟩
      have hx : (w6).cell? (ad1.add t) = some (.int .i64 (q : Int)) := by
        obtain ⟨A', c', e', _, h2⟩ := G9.own_C (HS.out.own 6 rfl)
        injection e' with e1 e2 e3
        subst e1
        rw [HL.out.1] at h2
        obtain ⟨ad, e, hx⟩ := Kd.at_int h2 (t : Int) (by omega) (by have := HC.out; omega)
        rw [Int.toNat_natCast, show rd kk (t : Int) = kk.getD t 0 from rfl, hq] at hx
        cases e
        exact hx
      have hy : (w6).cell? (ad2.add t) = some (.int .i64 x) := by
        obtain ⟨A', c', e', _, h2⟩ := G9.own_C (HS.out.own 7 rfl)
        injection e' with e1 e2 e3
        subst e1
        rw [HL.out.2] at h2
        obtain ⟨ad, e, hx⟩ := Kd.at_int h2 (t : Int) (by omega) (by have := HC.out; omega)
        rw [Int.toNat_natCast, show rd v (t : Int) = v.getD t 0 from rfl, hxv] at hx
        cases e
        exact hx
      have HS2 := HS.out.turn_blk 4 rfl q (.int .i64 x)
      rw [nums_set, show (fillP n kk v t).set q x = fillP n kk v (t + 1) by show _ = (fillP n kk v t).set (kk.getD t 0).toNat (v.getD t 0); rw [hq, Int.toNat_natCast, hxv]] at HS2
      have HS2 := Aside0.mk HS2
      clear hq hxv
      go_wp2
      go_roundg (m - t)
      case measure => have := HQ.out; have := HC.out; omega
      case rel => exact ⟨t + 1, by go_num, by have := HC.out; omega, ⟨by omega⟩, HS2⟩
    · obtain rfl : t = m := by omega
      rw [HF.out] at HS
      obtain ⟨br, hbr⟩ : ∃ br, wr.heap.size = br := ⟨_, rfl⟩
      have HS : Aside0 (Sep w (wr.alloc (.cells #[.bool true] 4)) (TF n g bn ba bc br () [] ++ (S1.Arr p sb ob wb n g :: [S1.Blk (w.heap.size + 1) #[.int .i64 a, .int .i64 k] 46, S1.Own (.slice A1 t c1) kk, S1.Blk w.heap.size #[.int .i64 s, .slice A l.length c] 24, S1.Own (.slice A2 t c2) v]))) := ⟨by
        have h := (HS.out.new_blk #[.bool true] 4).push (Below.refl _ _) (FactO (ZF.Good n g)) HG.out (fun k hk => by cases hk)
        rw [hbr] at h
        exact h.perm perm10⟩
      have d0 : (_ : Option Value) = some (.int .i64 a) := (blk_cell (HS.out.blk 6 rfl) 0).trans rfl
      have d1 : (_ : Option Value) = some (.int .i64 k) := (blk_cell (HS.out.blk 6 rfl) 1).trans rfl
      obtain ⟨hnn⟩ : Aside0 (n ≤ 100000) := ⟨by omega⟩
      have hc : ¬ t < t := by omega
      clear hlt ht HQ HF HK hnn
      have HRun := Aside0.mk hR
      have C := even_any (s := ()) (T := TF n g bn ba bc br) (tell_F w (by omega) g bn ba bc br) HT.out HS.out HG.out.len HW.out.2.2.2.1 HW.out.2.2.2.2 HW.out.2.2.1
      rw [← HW.out.1, ← HW.out.2.1] at C
      have C := Aside0.mk C
      clear hR
      go_wp2_with fail
      refine C.out.mono ?_
      clear C d0 d1 hbr
      rintro e w3 ⟨rfl, _, hs3⟩
      replace HS := Aside0.mk hs3
      clear hs3
      generalize evenR n f q g = E at *
      obtain ⟨g', ms⟩ := E
      dsimp only at HS HRun
      generalize ms.length = nm at *
      have HS : Aside0 (Sep w w3 [FactO (ZF.Good n g'), S1.Blk bn #[.int .i64 (n : Int)] 3, S1.Blk ba (ats n g').toArray 3, S1.Blk bc #[.slice (some ⟨ba, 0, none⟩) n n] 22, S1.Blk br #[.bool true] 4, S1.Arr p sb ob wb n g', S1.Blk (w.heap.size + 1) #[.int .i64 a, .int .i64 k] 46, S1.Own (.slice A1 t c1) kk, S1.Blk w.heap.size #[.int .i64 s, .slice A l.length c] 24, S1.Own (.slice A2 t c2) v]) := ⟨by
        have h := HS.out
        unfold TF at h
        rw [HRun.out] at h
        exact h⟩
      have LC := Aside0.mk (fun m => Calls.quiet_of_same (n := m) (w := w3) ((cap_any ((HS.out.step (pw_below_drewN (Below.refl _ w3) m)).arr 5 rfl).choose_spec).mono fun _ _ ⟨he, hm⟩ => ⟨he, hm.symm⟩))
      have d1 : (_ : Option Value) = some (.int .i64 (n : Int)) := (blk_cell (HS.out.blk 1 rfl) 0).trans rfl
      have d4 : (_ : Option Value) = some (.bool true) := (blk_cell (HS.out.blk 4 rfl) 0).trans rfl
      go_wp2
      go_quiet ((go_at_call 28; exact LC.out _))
      clear LC d1 d4
      replace HS := Aside0.mk (HS.out.step (pw_below_drewN (Below.refl _ w3) nq))
      generalize w3.drewN nq = w4 at *
      go_wp2
      go_loopg [17] (n + 1) (fun kq v17 V => ∃ i : Nat, v17 = .int .i64 (i : Int) ∧ i ≤ n ∧ Aside0 (n + 1 - i ≤ kq) ∧ w4 = V)
      case atStart => exact ⟨0, rfl, by omega, ⟨by omega⟩, rfl⟩
      case round =>
        obtain ⟨i, rfl, hi, HQ, rfl⟩ := hrel
        have d1 : (_ : Option Value) = some (.int .i64 (n : Int)) := (blk_cell (HS.out.blk 1 rfl) 0).trans rfl
        by_cases hlt : i < n
        · have d3 : (_ : Option Value) = some (.slice (some ⟨ba, 0, none⟩) n n) := (blk_cell (HS.out.blk 3 rfl) 0).trans rfl
          have b1 : (_ : Option Value) = some (.int .i64 (atZ g' i)) := (blk_cell (HS.out.blk 2 rfl) i).trans (ats_at g' hlt)
          have hgd : ZF.Good n g' := HS.out.get 0 rfl
          have hi5 : (i : Int) ≤ 200 := by omega
          have HC := Aside0.mk hlt
          obtain ⟨vs, hsl⟩ := HS.out.arr 5 rfl
          cases hon : g'.on i with
          | true =>
            have C := at_on hsl hlt hon
            have hx := hgd.pos i hlt hon
            rw [show atZ g' i = g'.xs.getD i 0 by unfold atZ; rw [if_pos hon]] at b1
            clear hon hgd hsl vs
            generalize g'.xs.getD i 0 = x at *
            have q1 : (x != 0) = true := bne_iff_ne.2 hx
            have q2 : (x != x) = false := by simp
            have C := Aside0.mk C
            clear hx
            go_wp2_with fail
            refine C.out.mono ?_
            clear C
            rintro e w5 ⟨rfl, rfl⟩
            go_wp2
            go_roundg (n - i)
            case measure => have := HQ.out; have := HC.out; omega
            case rel => exact ⟨i + 1, by go_num, by have := HC.out; omega, ⟨by omega⟩, rfl⟩
          | false =>
            have C := at_off hsl (i := (i : Int)) (.inr (.inr (by rw [Int.toNat_natCast]; exact hon)))
            rw [show atZ g' i = 0 by unfold atZ; rw [hon]; rfl] at b1
            clear hon hgd hsl vs
            have C := Aside0.mk C
            go_wp2_with fail
            refine C.out.mono ?_
            clear C
            rintro e w5 ⟨rfl, rfl⟩
            go_wp2
            go_roundg (n - i)
            case measure => have := HQ.out; have := HC.out; omega
            case rel => exact ⟨i + 1, by go_num, by have := HC.out; omega, ⟨by omega⟩, rfl⟩
        · obtain rfl : i = n := by omega
          clear hlt
          have C := Aside0.mk (awake_any _ (Kd.C_below HT.out HS.out.below))
          go_wp2_with fail
          refine C.out.mono ?_
          clear C
          rintro e w30 ⟨rfl, hb⟩
          replace HS := Aside0.mk (HS.out.step hb)
          clear hb
          go_wp2
          (try rw [Exit.noGoto_ret])
          go_ret
          exact ⟨rfl, HS.out.below⟩
set_option maxRecDepth 100000 in
set_option maxHeartbeats 4000000 in
theorem law_left_no (hT : Tb w) (hr : Kd.C (Kd.int .i64) w A l.length l) (hl : l.length ≤ 9223372036854775807) (hs : -9223372036854775808 ≤ s ∧ s ≤ 9223372036854775807) {a k : Int} (hw : winB (nOf s) a k = false) :
    Calls Tryd.prog 5 #[.agg #[.int .i64 s, .slice A l.length c], .agg #[.int .i64 a, .int .i64 k], .int .i64 1] w fun e w' => e = .returned (.bool true) ∧ Below w.heap.size w w' := by
  have HT := Aside0.mk hT
  have HS := Aside0.mk (((Sep.nil w).new_blk #[.int .i64 s, .slice A l.length c] 24).new_blk #[.int .i64 a, .int .i64 k] 46)
  simp only [World.size_alloc] at HS
  have C := Aside0.mk (made_any (c := c) (Kd.C_below hr HS.out.below) hl hs)
  have c0 : (_ : Option Value) = some (.int .i64 s) := (blk_cell (HS.out.blk 0 rfl) 0).trans rfl
  have c1 : (_ : Option Value) = some (.slice A l.length c) := (blk_cell (HS.out.blk 0 rfl) 1).trans rfl
  have hn := (nOf_le s).2.1
  have hg := G7_good s l
  generalize G7 s l = g at *
  generalize nOf s = n at *
  have HG := Aside0.mk hg
  have lv : (vals (ons g.on g.xs n)).length = cntF g.on n := by rw [vals, List.length_map, ons_length]
  have lk : (keys (ons g.on g.xs n)).length = cntF g.on n := by rw [keys, List.length_map, ons_length]
  clear hT hr hl hs hg
  go_enter Tryd.func5, Tryd.ntmps5
  go_wp2_with fail
  refine C.out.mono ?_
  clear C c0 c1
  rintro e w1 ⟨p, sb, ob, wb, r, lb, rfl, hs1⟩
  have HS : Aside0 (Sep w w1 [S1.Blk w.heap.size #[.int .i64 s, .slice A l.length c] 24, S1.Blk (w.heap.size + 1) #[.int .i64 a, .int .i64 k] 46, S1.Arr p sb ob wb n g]) := ⟨(HS.out.append hs1).take 3⟩
  clear hs1
  obtain ⟨vs, hs⟩ := HS.out.arr 2 rfl
  have C := Aside0.mk (cap_any hs)
  clear hs vs
  go_wp2_with fail
  refine C.out.mono ?_
  clear C
  rintro e wc ⟨rfl, rfl⟩
  have hmk := make_ints n (by omega)
  have HS : Aside0 (Sep w (((w1.alloc (.cells #[.int .i64 (n : Int)] 3)).alloc (.cells (nums .i64 (List.replicate n 0)).toArray 3)).alloc (.cells #[.slice (some ⟨w1.heap.size + 1, 0, none⟩) n n] 22)) [S1.Blk w.heap.size #[.int .i64 s, .slice A l.length c] 24, S1.Blk (w.heap.size + 1) #[.int .i64 a, .int .i64 k] 46, S1.Arr p sb ob wb n g, S1.Blk w1.heap.size #[.int .i64 (n : Int)] 3, S1.Blk (w1.heap.size + 1) (nums .i64 (List.replicate n 0)).toArray 3, S1.Blk (w1.heap.size + 1 + 1) #[.slice (some ⟨w1.heap.size + 1, 0, none⟩) n n] 22]) := ⟨by
    have h := ((HS.out.new_blk #[.int .i64 (n : Int)] 3).new_blk (nums .i64 (List.replicate n 0)).toArray 3).new_blk #[.slice (some ⟨w1.heap.size + 1, 0, none⟩) n n] 22
    simp only [World.size_alloc] at h
    exact h⟩
  have C := places_any (HS.out.arr 2 rfl).choose_spec (Kd.C_below HT.out HS.out.below)
  have C := Aside0.mk C
  go_wp2_with fail
  refine C.out.mono ?_
  clear C
  rintro e w2 ⟨A1, c1, rfl, g1, g2, g3, hb⟩
  rw [← lk] at g3
  replace HS := Aside0.mk (HS.out.new_own hb g3)
  clear g1 g2 g3 hb
  generalize hb1 : w1.heap.size = bn at *
  obtain ⟨ba, hb2⟩ : ∃ ba, bn + 1 = ba := ⟨_, rfl⟩
  rw [hb2] at HS ⊢
  obtain ⟨bc, hb3⟩ : ∃ bc, ba + 1 = bc := ⟨_, rfl⟩
  rw [hb3] at HS ⊢
  clear hb1 hb2 hb3 hmk
  have C := items_any (HS.out.arr 2 rfl).choose_spec (Kd.C_below HT.out HS.out.below)
  have C := Aside0.mk C
  go_wp2_with fail
  refine C.out.mono ?_
  clear C
  rintro e w3 ⟨A2, c2, rfl, g1, g2, g3, hb⟩
  rw [← lv] at g3
  replace HS := HS.out.new_own hb g3
  rw [lk, lv] at HS
  have HS := Aside0.mk HS
  clear g1 g2 g3 hb
  have HF := Aside0.mk (fill_ats (n := n) (g := g))
  have HK : Aside0 (∀ t, t < cntF g.on n → ∃ q : Nat, (keys (ons g.on g.xs n)).getD t 0 = (q : Int) ∧ q < n) := ⟨fun t ht => by
    obtain ⟨q, h1, h2, _⟩ := ons_at (f := g.on) (xs := g.xs) (n := n) (k := t) (by rw [ons_length]; exact ht)
    exact ⟨q, (keys_get h1).1, h2⟩⟩
  have HM : Aside0 (cntF g.on n ≤ 200) := ⟨Nat.le_trans (cntF_le _ _) hn⟩
  generalize hkk : keys (ons g.on g.xs n) = kk at *
  generalize hvv : vals (ons g.on g.xs n) = v at *
  generalize hmm : cntF g.on n = m at *
  have HL := Aside0.mk (And.intro lk lv)
  have HKK := Aside0.mk (And.intro hkk hmm)
  clear lk lv hkk hvv hmm
  go_wp2
  go_loopg [13] (m + 1) (fun kq v13 W => ∃ t : Nat, v13 = .int .i64 (t : Int) ∧ t ≤ m ∧ Aside0 (m + 1 - t ≤ kq) ∧ Aside0 (Sep w W [S1.Blk w.heap.size #[.int .i64 s, .slice A l.length c] 24, S1.Blk (w.heap.size + 1) #[.int .i64 a, .int .i64 k] 46, S1.Arr p sb ob wb n g, S1.Blk bn #[.int .i64 (n : Int)] 3, S1.Blk ba (nums .i64 (fillP n kk v t)).toArray 3, S1.Blk bc #[.slice (some ⟨ba, 0, none⟩) n n] 22, S1.Own (.slice A1 m c1) kk, S1.Own (.slice A2 m c2) v]))
  case atStart => exact ⟨0, rfl, by omega, ⟨by omega⟩, HS⟩
  case round =>
    clear HS
    obtain ⟨t, rfl, ht, HQ, HS⟩ := hrel
    by_cases hlt : t < m
    · obtain ⟨q, hq, hqn⟩ := HK.out t hlt
      have HC := Aside0.mk hlt
      have ht2 : (t : Int) ≤ 200 := by have := HM.out; omega
      obtain ⟨x, hxv⟩ : ∃ x, v.getD t 0 = x := ⟨_, rfl⟩
      obtain ⟨ad1, rfl⟩ : ∃ ad, A1 = some ad := by
        obtain ⟨A', c', e', _, h2⟩ := G9.own_C (HS.out.own 6 rfl)
        injection e' with e1 e2 e3
        subst e1
        rw [HL.out.1] at h2
        obtain ⟨ad, e, hx⟩ := Kd.at_int h2 (t : Int) (by omega) (by omega)
        exact ⟨ad, e⟩
      obtain ⟨ad2, rfl⟩ : ∃ ad, A2 = some ad := by
        obtain ⟨A', c', e', _, h2⟩ := G9.own_C (HS.out.own 7 rfl)
        injection e' with e1 e2 e3
        subst e1
        rw [HL.out.2] at h2
        obtain ⟨ad, e, hx⟩ := Kd.at_int h2 (t : Int) (by omega) (by omega)
        exact ⟨ad, e⟩
      have d1 : (_ : Option Value) = some (.int .i64 (n : Int)) := (blk_cell (HS.out.blk 3 rfl) 0).trans rfl
      have d3 : (_ : Option Value) = some (.slice (some ⟨ba, 0, none⟩) n n) := (blk_cell (HS.out.blk 5 rfl) 0).trans rfl
      have f1 := blk_frozen (HS.out.blk 4 rfl) q
      obtain ⟨zq, b1⟩ : ∃ z, (wr).cell? ⟨ba, q, none⟩ = some (.int .i64 z) := ⟨_, (blk_cell (HS.out.blk 4 rfl) q).trans (show (nums .i64 (fillP n kk v t)).toArray[q]? = some (.int .i64 ((fillP n kk v t).getD q 0)) by simp [nums, fill_len, hqn])⟩
      have hx : (wr).cell? (ad1.add t) = some (.int .i64 (q : Int)) := by
        obtain ⟨A', c', e', _, h2⟩ := G9.own_C (HS.out.own 6 rfl)
        injection e' with e1 e2 e3
        subst e1
        rw [HL.out.1] at h2
        obtain ⟨ad, e, hx⟩ := Kd.at_int h2 (t : Int) (by omega) (by have := HC.out; omega)
        rw [Int.toNat_natCast, show rd kk (t : Int) = kk.getD t 0 from rfl, hq] at hx
        cases e
        exact hx
      have hy : (wr).cell? (ad2.add t) = some (.int .i64 x) := by
        obtain ⟨A', c', e', _, h2⟩ := G9.own_C (HS.out.own 7 rfl)
        injection e' with e1 e2 e3
        subst e1
        rw [HL.out.2] at h2
        obtain ⟨ad, e, hx⟩ := Kd.at_int h2 (t : Int) (by omega) (by have := HC.out; omega)
        rw [Int.toNat_natCast, show rd v (t : Int) = v.getD t 0 from rfl, hxv] at hx
        cases e
        exact hx
      have p0 : decide ((q : Int) < 0) = false := decide_eq_false (by omega)
      have p1 : decide (n ≤ q) = false := decide_eq_false (by omega)
      go_wp2
      go_quiet (fail)
      clear d1 d3 hx hy b1 f1
      replace HS := Aside0.mk (HS.out.step (pw_below_drewN (Below.refl _ wr) nq))
      generalize wr.drewN nq = w5 at *
      have d1 : (_ : Option Value) = some (.int .i64 (n : Int)) := (blk_cell (HS.out.blk 3 rfl) 0).trans rfl
      have d3 : (_ : Option Value) = some (.slice (some ⟨ba, 0, none⟩) n n) := (blk_cell (HS.out.blk 5 rfl) 0).trans rfl
      have f1 := blk_frozen (HS.out.blk 4 rfl) q
      obtain ⟨zq, b1⟩ : ∃ z, (w5).cell? ⟨ba, q, none⟩ = some (.int .i64 z) := ⟨_, (blk_cell (HS.out.blk 4 rfl) q).trans (show (nums .i64 (fillP n kk v t)).toArray[q]? = some (.int .i64 ((fillP n kk v t).getD q 0)) by simp [nums, fill_len, hqn])⟩
      have hx : (w5).cell? (ad1.add t) = some (.int .i64 (q : Int)) := by
        obtain ⟨A', c', e', _, h2⟩ := G9.own_C (HS.out.own 6 rfl)
        injection e' with e1 e2 e3
        subst e1
        rw [HL.out.1] at h2
        obtain ⟨ad, e, hx⟩ := Kd.at_int h2 (t : Int) (by omega) (by have := HC.out; omega)
        rw [Int.toNat_natCast, show rd kk (t : Int) = kk.getD t 0 from rfl, hq] at hx
        cases e
        exact hx
      have hy : (w5).cell? (ad2.add t) = some (.int .i64 x) := by
        obtain ⟨A', c', e', _, h2⟩ := G9.own_C (HS.out.own 7 rfl)
        injection e' with e1 e2 e3
        subst e1
        rw [HL.out.2] at h2
        obtain ⟨ad, e, hx⟩ := Kd.at_int h2 (t : Int) (by omega) (by have := HC.out; omega)
        rw [Int.toNat_natCast, show rd v (t : Int) = v.getD t 0 from rfl, hxv] at hx
        cases e
        exact hx
      go_wp2
      go_still_tail 10, (by kernel_rfl)
      change wpList _ _ _ _ _ w5.drew
      clear d1 d3 hx hy b1 f1
      replace HS := Aside0.mk (HS.out.step (below_drew (Below.refl _ w5)))
      generalize w5.drew = w6 at *
      have d1 : (_ : Option Value) = some (.int .i64 (n : Int)) := (blk_cell (HS.out.blk 3 rfl) 0).trans rfl
      have d3 : (_ : Option Value) = some (.slice (some ⟨ba, 0, none⟩) n n) := (blk_cell (HS.out.blk 5 rfl) 0).trans rfl
      have f1 := blk_frozen (HS.out.blk 4 rfl) q
      obtain ⟨zq, b1⟩ : ∃ z, (w6).cell? ⟨ba, q, none⟩ = some (.int .i64 z) := ⟨_, (blk_cell (HS.out.blk 4 rfl) q).trans (show (nums .i64 (fillP n kk v t)).toArray[q]? = some (.int .i64 ((fillP n kk v t).getD q 0)) by simp [nums, fill_len, hqn])⟩
      have hx : (w6).cell? (ad1.add t) = some (.int .i64 (q : Int)) := by
        obtain ⟨A', c', e', _, h2⟩ := G9.own_C (HS.out.own 6 rfl)
        injection e' with e1 e2 e3
        subst e1
        rw [HL.out.1] at h2
        obtain ⟨ad, e, hx⟩ := Kd.at_int h2 (t : Int) (by omega) (by have := HC.out; omega)
        rw [Int.toNat_natCast, show rd kk (t : Int) = kk.getD t 0 from rfl, hq] at hx
        cases e
        exact hx
      have hy : (w6).cell? (ad2.add t) = some (.int .i64 x) := by
        obtain ⟨A', c', e', _, h2⟩ := G9.own_C (HS.out.own 7 rfl)
        injection e' with e1 e2 e3
        subst e1
        rw [HL.out.2] at h2
        obtain ⟨ad, e, hx⟩ := Kd.at_int h2 (t : Int) (by omega) (by have := HC.out; omega)
        rw [Int.toNat_natCast, show rd v (t : Int) = v.getD t 0 from rfl, hxv] at hx
        cases e
        exact hx
      have HS2 := HS.out.turn_blk 4 rfl q (.int .i64 x)
      rw [nums_set, show (fillP n kk v t).set q x = fillP n kk v (t + 1) by show _ = (fillP n kk v t).set (kk.getD t 0).toNat (v.getD t 0); rw [hq, Int.toNat_natCast, hxv]] at HS2
      have HS2 := Aside0.mk HS2
      clear hq hxv
      go_wp2
      go_roundg (m - t)
      case measure => have := HQ.out; have := HC.out; omega
      case rel => exact ⟨t + 1, by go_num, by have := HC.out; omega, ⟨by omega⟩, HS2⟩
    · obtain rfl : t = m := by omega
      rw [HF.out] at HS
      obtain ⟨br, hbr⟩ : ∃ br, wr.heap.size = br := ⟨_, rfl⟩
      have HS : Aside0 (Sep w (wr.alloc (.cells #[.bool true] 4)) (TF n g bn ba bc br () [] ++ (S1.Arr p sb ob wb n g :: [S1.Blk (w.heap.size + 1) #[.int .i64 a, .int .i64 k] 46, S1.Own (.slice A1 t c1) kk, S1.Blk w.heap.size #[.int .i64 s, .slice A l.length c] 24, S1.Own (.slice A2 t c2) v]))) := ⟨by
        have h := (HS.out.new_blk #[.bool true] 4).push (Below.refl _ _) (FactO (ZF.Good n g)) HG.out (fun k hk => by cases hk)
        rw [hbr] at h
        exact h.perm perm10⟩
      have d0 : (_ : Option Value) = some (.int .i64 a) := (blk_cell (HS.out.blk 6 rfl) 0).trans rfl
      have d1 : (_ : Option Value) = some (.int .i64 k) := (blk_cell (HS.out.blk 6 rfl) 1).trans rfl
      obtain ⟨hnn⟩ : Aside0 (n ≤ 100000) := ⟨by omega⟩
      have hc : ¬ t < t := by omega
      clear hlt ht HQ HF HK hnn
      have HRun : Aside0 (runM n g [] = g) := ⟨rfl⟩
      have C := Aside0.mk (left_no (HS.out.arr 5 rfl) hw (fnF bn bc br) (.inr ⟨_, _, rfl⟩))
      clear hw
      go_wp2_with fail
      refine C.out.mono ?_
      clear C d0 d1 hbr
      rintro e w3 ⟨rfl, rfl⟩
      generalize wr.alloc (.cells #[.bool true] 4) = w3 at *
      have HS : Aside0 (Sep w w3 [FactO (ZF.Good n g), S1.Blk bn #[.int .i64 (n : Int)] 3, S1.Blk ba (ats n g).toArray 3, S1.Blk bc #[.slice (some ⟨ba, 0, none⟩) n n] 22, S1.Blk br #[.bool true] 4, S1.Arr p sb ob wb n g, S1.Blk (w.heap.size + 1) #[.int .i64 a, .int .i64 k] 46, S1.Own (.slice A1 t c1) kk, S1.Blk w.heap.size #[.int .i64 s, .slice A l.length c] 24, S1.Own (.slice A2 t c2) v]) := ⟨by
        have h := HS.out
        unfold TF at h
        rw [HRun.out] at h
        exact h⟩
      have LC := Aside0.mk (fun m => Calls.quiet_of_same (n := m) (w := w3) ((cap_any ((HS.out.step (pw_below_drewN (Below.refl _ w3) m)).arr 5 rfl).choose_spec).mono fun _ _ ⟨he, hm⟩ => ⟨he, hm.symm⟩))
      have d1 : (_ : Option Value) = some (.int .i64 (n : Int)) := (blk_cell (HS.out.blk 1 rfl) 0).trans rfl
      have d4 : (_ : Option Value) = some (.bool true) := (blk_cell (HS.out.blk 4 rfl) 0).trans rfl
      go_wp2
      go_quiet ((go_at_call 28; exact LC.out _))
      clear LC d1 d4
      replace HS := Aside0.mk (HS.out.step (pw_below_drewN (Below.refl _ w3) nq))
      generalize w3.drewN nq = w4 at *
      go_wp2
      go_loopg [17] (n + 1) (fun kq v17 V => ∃ i : Nat, v17 = .int .i64 (i : Int) ∧ i ≤ n ∧ Aside0 (n + 1 - i ≤ kq) ∧ w4 = V)
      case atStart => exact ⟨0, rfl, by omega, ⟨by omega⟩, rfl⟩
      case round =>
        obtain ⟨i, rfl, hi, HQ, rfl⟩ := hrel
        have d1 : (_ : Option Value) = some (.int .i64 (n : Int)) := (blk_cell (HS.out.blk 1 rfl) 0).trans rfl
        by_cases hlt : i < n
        · have d3 : (_ : Option Value) = some (.slice (some ⟨ba, 0, none⟩) n n) := (blk_cell (HS.out.blk 3 rfl) 0).trans rfl
          have b1 : (_ : Option Value) = some (.int .i64 (atZ g i)) := (blk_cell (HS.out.blk 2 rfl) i).trans (ats_at g hlt)
          have hgd : ZF.Good n g := HS.out.get 0 rfl
          have hi5 : (i : Int) ≤ 200 := by omega
          have HC := Aside0.mk hlt
          obtain ⟨vs, hsl⟩ := HS.out.arr 5 rfl
          cases hon : g.on i with
          | true =>
            have C := at_on hsl hlt hon
            have hx := hgd.pos i hlt hon
            rw [show atZ g i = g.xs.getD i 0 by unfold atZ; rw [if_pos hon]] at b1
            clear hon hgd hsl vs
            generalize g.xs.getD i 0 = x at *
            have q1 : (x != 0) = true := bne_iff_ne.2 hx
            have q2 : (x != x) = false := by simp
            have C := Aside0.mk C
            clear hx
            go_wp2_with fail
            refine C.out.mono ?_
            clear C
            rintro e w5 ⟨rfl, rfl⟩
            go_wp2
            go_roundg (n - i)
            case measure => have := HQ.out; have := HC.out; omega
            case rel => exact ⟨i + 1, by go_num, by have := HC.out; omega, ⟨by omega⟩, rfl⟩
          | false =>
            have C := at_off hsl (i := (i : Int)) (.inr (.inr (by rw [Int.toNat_natCast]; exact hon)))
            rw [show atZ g i = 0 by unfold atZ; rw [hon]; rfl] at b1
            clear hon hgd hsl vs
            have C := Aside0.mk C
            go_wp2_with fail
            refine C.out.mono ?_
            clear C
            rintro e w5 ⟨rfl, rfl⟩
            go_wp2
            go_roundg (n - i)
            case measure => have := HQ.out; have := HC.out; omega
            case rel => exact ⟨i + 1, by go_num, by have := HC.out; omega, ⟨by omega⟩, rfl⟩
        · obtain rfl : i = n := by omega
          clear hlt
          obtain ⟨vs, hsl⟩ := HS.out.arr 5 rfl
          have C := places_any hsl (Kd.C_below HT.out HS.out.below)
          rw [HKK.out.1, HKK.out.2] at C
          have C := Aside0.mk C
          clear hsl vs
          go_wp2_with fail
          refine C.out.mono ?_
          clear C
          rintro e w6 ⟨A3, c3, rfl, g1, g2, g3, hb⟩
          replace HS := Aside0.mk (HS.out.step hb)
          obtain ⟨A', c', e', h1, h2⟩ := G9.own_C (HS.out.own 7 rfl)
          injection e' with e1 e2 e3
          subst e1
          subst e3
          rw [HL.out.1] at h1 h2
          have C := ints_any g2 g1 h2 h1 (by rw [HL.out.1]; have := HM.out; omega)
          rw [decide_eq_true rfl] at C
          have C := Aside0.mk C
          clear g1 g2 g3 hb h1 h2 e2
          go_wp2_with fail
          refine C.out.mono ?_
          clear C
          rintro e w7 ⟨rfl, hd⟩
          replace HS := Aside0.mk (HS.out.step hd.below)
          clear hd
          have C := Aside0.mk (awake_any _ (Kd.C_below HT.out HS.out.below))
          go_wp2_with fail
          refine C.out.mono ?_
          clear C
          rintro e w30 ⟨rfl, hb⟩
          replace HS := Aside0.mk (HS.out.step hb)
          clear hb
          go_wp2
          (try rw [Exit.noGoto_ret])
          go_ret
          exact ⟨rfl, HS.out.below⟩
set_option maxRecDepth 100000 in
set_option maxHeartbeats 4000000 in
theorem law_even_no (hT : Tb w) (hr : Kd.C (Kd.int .i64) w A l.length l) (hl : l.length ≤ 9223372036854775807) (hs : -9223372036854775808 ≤ s ∧ s ≤ 9223372036854775807) {a k : Int} (hw : winB (nOf s) a k = false) :
    Calls Tryd.prog 5 #[.agg #[.int .i64 s, .slice A l.length c], .agg #[.int .i64 a, .int .i64 k], .int .i64 0] w fun e w' => e = .returned (.bool true) ∧ Below w.heap.size w w' := by
  have HT := Aside0.mk hT
  have HS := Aside0.mk (((Sep.nil w).new_blk #[.int .i64 s, .slice A l.length c] 24).new_blk #[.int .i64 a, .int .i64 k] 46)
  simp only [World.size_alloc] at HS
  have C := Aside0.mk (made_any (c := c) (Kd.C_below hr HS.out.below) hl hs)
  have c0 : (_ : Option Value) = some (.int .i64 s) := (blk_cell (HS.out.blk 0 rfl) 0).trans rfl
  have c1 : (_ : Option Value) = some (.slice A l.length c) := (blk_cell (HS.out.blk 0 rfl) 1).trans rfl
  have hn := (nOf_le s).2.1
  have hg := G7_good s l
  generalize G7 s l = g at *
  generalize nOf s = n at *
  have HG := Aside0.mk hg
  have lv : (vals (ons g.on g.xs n)).length = cntF g.on n := by rw [vals, List.length_map, ons_length]
  have lk : (keys (ons g.on g.xs n)).length = cntF g.on n := by rw [keys, List.length_map, ons_length]
  clear hT hr hl hs hg
  go_enter Tryd.func5, Tryd.ntmps5
  go_wp2_with fail
  refine C.out.mono ?_
  clear C c0 c1
  rintro e w1 ⟨p, sb, ob, wb, r, lb, rfl, hs1⟩
  have HS : Aside0 (Sep w w1 [S1.Blk w.heap.size #[.int .i64 s, .slice A l.length c] 24, S1.Blk (w.heap.size + 1) #[.int .i64 a, .int .i64 k] 46, S1.Arr p sb ob wb n g]) := ⟨(HS.out.append hs1).take 3⟩
  clear hs1
  obtain ⟨vs, hs⟩ := HS.out.arr 2 rfl
  have C := Aside0.mk (cap_any hs)
  clear hs vs
  go_wp2_with fail
  refine C.out.mono ?_
  clear C
  rintro e wc ⟨rfl, rfl⟩
  have hmk := make_ints n (by omega)
  have HS : Aside0 (Sep w (((w1.alloc (.cells #[.int .i64 (n : Int)] 3)).alloc (.cells (nums .i64 (List.replicate n 0)).toArray 3)).alloc (.cells #[.slice (some ⟨w1.heap.size + 1, 0, none⟩) n n] 22)) [S1.Blk w.heap.size #[.int .i64 s, .slice A l.length c] 24, S1.Blk (w.heap.size + 1) #[.int .i64 a, .int .i64 k] 46, S1.Arr p sb ob wb n g, S1.Blk w1.heap.size #[.int .i64 (n : Int)] 3, S1.Blk (w1.heap.size + 1) (nums .i64 (List.replicate n 0)).toArray 3, S1.Blk (w1.heap.size + 1 + 1) #[.slice (some ⟨w1.heap.size + 1, 0, none⟩) n n] 22]) := ⟨by
    have h := ((HS.out.new_blk #[.int .i64 (n : Int)] 3).new_blk (nums .i64 (List.replicate n 0)).toArray 3).new_blk #[.slice (some ⟨w1.heap.size + 1, 0, none⟩) n n] 22
    simp only [World.size_alloc] at h
    exact h⟩
  have C := places_any (HS.out.arr 2 rfl).choose_spec (Kd.C_below HT.out HS.out.below)
  have C := Aside0.mk C
  go_wp2_with fail
  refine C.out.mono ?_
  clear C
  rintro e w2 ⟨A1, c1, rfl, g1, g2, g3, hb⟩
  rw [← lk] at g3
  replace HS := Aside0.mk (HS.out.new_own hb g3)
  clear g1 g2 g3 hb
  generalize hb1 : w1.heap.size = bn at *
  obtain ⟨ba, hb2⟩ : ∃ ba, bn + 1 = ba := ⟨_, rfl⟩
  rw [hb2] at HS ⊢
  obtain ⟨bc, hb3⟩ : ∃ bc, ba + 1 = bc := ⟨_, rfl⟩
  rw [hb3] at HS ⊢
  clear hb1 hb2 hb3 hmk
  have C := items_any (HS.out.arr 2 rfl).choose_spec (Kd.C_below HT.out HS.out.below)
  have C := Aside0.mk C
  go_wp2_with fail
  refine C.out.mono ?_
  clear C
  rintro e w3 ⟨A2, c2, rfl, g1, g2, g3, hb⟩
  rw [← lv] at g3
  replace HS := HS.out.new_own hb g3
  rw [lk, lv] at HS
  have HS := Aside0.mk HS
  clear g1 g2 g3 hb
  have HF := Aside0.mk (fill_ats (n := n) (g := g))
  have HK : Aside0 (∀ t, t < cntF g.on n → ∃ q : Nat, (keys (ons g.on g.xs n)).getD t 0 = (q : Int) ∧ q < n) := ⟨fun t ht => by
    obtain ⟨q, h1, h2, _⟩ := ons_at (f := g.on) (xs := g.xs) (n := n) (k := t) (by rw [ons_length]; exact ht)
    exact ⟨q, (keys_get h1).1, h2⟩⟩
  have HM : Aside0 (cntF g.on n ≤ 200) := ⟨Nat.le_trans (cntF_le _ _) hn⟩
  generalize hkk : keys (ons g.on g.xs n) = kk at *
  generalize hvv : vals (ons g.on g.xs n) = v at *
  generalize hmm : cntF g.on n = m at *
  have HL := Aside0.mk (And.intro lk lv)
  have HKK := Aside0.mk (And.intro hkk hmm)
  clear lk lv hkk hvv hmm
  go_wp2
  go_loopg [13] (m + 1) (fun kq v13 W => ∃ t : Nat, v13 = .int .i64 (t : Int) ∧ t ≤ m ∧ Aside0 (m + 1 - t ≤ kq) ∧ Aside0 (Sep w W [S1.Blk w.heap.size #[.int .i64 s, .slice A l.length c] 24, S1.Blk (w.heap.size + 1) #[.int .i64 a, .int .i64 k] 46, S1.Arr p sb ob wb n g, S1.Blk bn #[.int .i64 (n : Int)] 3, S1.Blk ba (nums .i64 (fillP n kk v t)).toArray 3, S1.Blk bc #[.slice (some ⟨ba, 0, none⟩) n n] 22, S1.Own (.slice A1 m c1) kk, S1.Own (.slice A2 m c2) v]))
  case atStart => exact ⟨0, rfl, by omega, ⟨by omega⟩, HS⟩
  case round =>
    clear HS
    obtain ⟨t, rfl, ht, HQ, HS⟩ := hrel
    by_cases hlt : t < m
    · obtain ⟨q, hq, hqn⟩ := HK.out t hlt
      have HC := Aside0.mk hlt
      have ht2 : (t : Int) ≤ 200 := by have := HM.out; omega
      obtain ⟨x, hxv⟩ : ∃ x, v.getD t 0 = x := ⟨_, rfl⟩
      obtain ⟨ad1, rfl⟩ : ∃ ad, A1 = some ad := by
        obtain ⟨A', c', e', _, h2⟩ := G9.own_C (HS.out.own 6 rfl)
        injection e' with e1 e2 e3
        subst e1
        rw [HL.out.1] at h2
        obtain ⟨ad, e, hx⟩ := Kd.at_int h2 (t : Int) (by omega) (by omega)
        exact ⟨ad, e⟩
      obtain ⟨ad2, rfl⟩ : ∃ ad, A2 = some ad := by
        obtain ⟨A', c', e', _, h2⟩ := G9.own_C (HS.out.own 7 rfl)
        injection e' with e1 e2 e3
        subst e1
        rw [HL.out.2] at h2
        obtain ⟨ad, e, hx⟩ := Kd.at_int h2 (t : Int) (by omega) (by omega)
        exact ⟨ad, e⟩
      have d1 : (_ : Option Value) = some (.int .i64 (n : Int)) := (blk_cell (HS.out.blk 3 rfl) 0).trans rfl
      have d3 : (_ : Option Value) = some (.slice (some ⟨ba, 0, none⟩) n n) := (blk_cell (HS.out.blk 5 rfl) 0).trans rfl
      have f1 := blk_frozen (HS.out.blk 4 rfl) q
      obtain ⟨zq, b1⟩ : ∃ z, (wr).cell? ⟨ba, q, none⟩ = some (.int .i64 z) := ⟨_, (blk_cell (HS.out.blk 4 rfl) q).trans (show (nums .i64 (fillP n kk v t)).toArray[q]? = some (.int .i64 ((fillP n kk v t).getD q 0)) by simp [nums, fill_len, hqn])⟩
      have hx : (wr).cell? (ad1.add t) = some (.int .i64 (q : Int)) := by
        obtain ⟨A', c', e', _, h2⟩ := G9.own_C (HS.out.own 6 rfl)
        injection e' with e1 e2 e3
        subst e1
        rw [HL.out.1] at h2
        obtain ⟨ad, e, hx⟩ := Kd.at_int h2 (t : Int) (by omega) (by have := HC.out; omega)
        rw [Int.toNat_natCast, show rd kk (t : Int) = kk.getD t 0 from rfl, hq] at hx
        cases e
        exact hx
      have hy : (wr).cell? (ad2.add t) = some (.int .i64 x) := by
        obtain ⟨A', c', e', _, h2⟩ := G9.own_C (HS.out.own 7 rfl)
        injection e' with e1 e2 e3
        subst e1
        rw [HL.out.2] at h2
        obtain ⟨ad, e, hx⟩ := Kd.at_int h2 (t : Int) (by omega) (by have := HC.out; omega)
        rw [Int.toNat_natCast, show rd v (t : Int) = v.getD t 0 from rfl, hxv] at hx
        cases e
        exact hx
      have p0 : decide ((q : Int) < 0) = false := decide_eq_false (by omega)
      have p1 : decide (n ≤ q) = false := decide_eq_false (by omega)
      go_wp2
      go_quiet (fail)
      clear d1 d3 hx hy b1 f1
      replace HS := Aside0.mk (HS.out.step (pw_below_drewN (Below.refl _ wr) nq))
      generalize wr.drewN nq = w5 at *
      have d1 : (_ : Option Value) = some (.int .i64 (n : Int)) := (blk_cell (HS.out.blk 3 rfl) 0).trans rfl
      have d3 : (_ : Option Value) = some (.slice (some ⟨ba, 0, none⟩) n n) := (blk_cell (HS.out.blk 5 rfl) 0).trans rfl
      have f1 := blk_frozen (HS.out.blk 4 rfl) q
      obtain ⟨zq, b1⟩ : ∃ z, (w5).cell? ⟨ba, q, none⟩ = some (.int .i64 z) := ⟨_, (blk_cell (HS.out.blk 4 rfl) q).trans (show (nums .i64 (fillP n kk v t)).toArray[q]? = some (.int .i64 ((fillP n kk v t).getD q 0)) by simp [nums, fill_len, hqn])⟩
      have hx : (w5).cell? (ad1.add t) = some (.int .i64 (q : Int)) := by
        obtain ⟨A', c', e', _, h2⟩ := G9.own_C (HS.out.own 6 rfl)
        injection e' with e1 e2 e3
        subst e1
        rw [HL.out.1] at h2
        obtain ⟨ad, e, hx⟩ := Kd.at_int h2 (t : Int) (by omega) (by have := HC.out; omega)
        rw [Int.toNat_natCast, show rd kk (t : Int) = kk.getD t 0 from rfl, hq] at hx
        cases e
        exact hx
      have hy : (w5).cell? (ad2.add t) = some (.int .i64 x) := by
        obtain ⟨A', c', e', _, h2⟩ := G9.own_C (HS.out.own 7 rfl)
        injection e' with e1 e2 e3
        subst e1
        rw [HL.out.2] at h2
        obtain ⟨ad, e, hx⟩ := Kd.at_int h2 (t : Int) (by omega) (by have := HC.out; omega)
        rw [Int.toNat_natCast, show rd v (t : Int) = v.getD t 0 from rfl, hxv] at hx
        cases e
        exact hx
      go_wp2
      go_still_tail 10, (by kernel_rfl)
      change wpList _ _ _ _ _ w5.drew
      clear d1 d3 hx hy b1 f1
      replace HS := Aside0.mk (HS.out.step (below_drew (Below.refl _ w5)))
      generalize w5.drew = w6 at *
      have d1 : (_ : Option Value) = some (.int .i64 (n : Int)) := (blk_cell (HS.out.blk 3 rfl) 0).trans rfl
      have d3 : (_ : Option Value) = some (.slice (some ⟨ba, 0, none⟩) n n) := (blk_cell (HS.out.blk 5 rfl) 0).trans rfl
      have f1 := blk_frozen (HS.out.blk 4 rfl) q
      obtain ⟨zq, b1⟩ : ∃ z, (w6).cell? ⟨ba, q, none⟩ = some (.int .i64 z) := ⟨_, (blk_cell (HS.out.blk 4 rfl) q).trans (show (nums .i64 (fillP n kk v t)).toArray[q]? = some (.int .i64 ((fillP n kk v t).getD q 0)) by simp [nums, fill_len, hqn])⟩
      have hx : (w6).cell? (ad1.add t) = some (.int .i64 (q : Int)) := by
        obtain ⟨A', c', e', _, h2⟩ := G9.own_C (HS.out.own 6 rfl)
        injection e' with e1 e2 e3
        subst e1
        rw [HL.out.1] at h2
        obtain ⟨ad, e, hx⟩ := Kd.at_int h2 (t : Int) (by omega) (by have := HC.out; omega)
        rw [Int.toNat_natCast, show rd kk (t : Int) = kk.getD t 0 from rfl, hq] at hx
        cases e
        exact hx
      have hy : (w6).cell? (ad2.add t) = some (.int .i64 x) := by
        obtain ⟨A', c', e', _, h2⟩ := G9.own_C (HS.out.own 7 rfl)
        injection e' with e1 e2 e3
        subst e1
        rw [HL.out.2] at h2
        obtain ⟨ad, e, hx⟩ := Kd.at_int h2 (t : Int) (by omega) (by have := HC.out; omega)
        rw [Int.toNat_natCast, show rd v (t : Int) = v.getD t 0 from rfl, hxv] at hx
        cases e
        exact hx
      have HS2 := HS.out.turn_blk 4 rfl q (.int .i64 x)
      rw [nums_set, show (fillP n kk v t).set q x = fillP n kk v (t + 1) by show _ = (fillP n kk v t).set (kk.getD t 0).toNat (v.getD t 0); rw [hq, Int.toNat_natCast, hxv]] at HS2
      have HS2 := Aside0.mk HS2
      clear hq hxv
      go_wp2
      go_roundg (m - t)
      case measure => have := HQ.out; have := HC.out; omega
      case rel => exact ⟨t + 1, by go_num, by have := HC.out; omega, ⟨by omega⟩, HS2⟩
    · obtain rfl : t = m := by omega
      rw [HF.out] at HS
      obtain ⟨br, hbr⟩ : ∃ br, wr.heap.size = br := ⟨_, rfl⟩
      have HS : Aside0 (Sep w (wr.alloc (.cells #[.bool true] 4)) (TF n g bn ba bc br () [] ++ (S1.Arr p sb ob wb n g :: [S1.Blk (w.heap.size + 1) #[.int .i64 a, .int .i64 k] 46, S1.Own (.slice A1 t c1) kk, S1.Blk w.heap.size #[.int .i64 s, .slice A l.length c] 24, S1.Own (.slice A2 t c2) v]))) := ⟨by
        have h := (HS.out.new_blk #[.bool true] 4).push (Below.refl _ _) (FactO (ZF.Good n g)) HG.out (fun k hk => by cases hk)
        rw [hbr] at h
        exact h.perm perm10⟩
      have d0 : (_ : Option Value) = some (.int .i64 a) := (blk_cell (HS.out.blk 6 rfl) 0).trans rfl
      have d1 : (_ : Option Value) = some (.int .i64 k) := (blk_cell (HS.out.blk 6 rfl) 1).trans rfl
      obtain ⟨hnn⟩ : Aside0 (n ≤ 100000) := ⟨by omega⟩
      have hc : ¬ t < t := by omega
      clear hlt ht HQ HF HK hnn
      have HRun : Aside0 (runM n g [] = g) := ⟨rfl⟩
      have C := Aside0.mk (even_no (HS.out.arr 5 rfl) hw (fnF bn bc br) (.inr ⟨_, _, rfl⟩))
      clear hw
      go_wp2_with fail
      refine C.out.mono ?_
      clear C d0 d1 hbr
      rintro e w3 ⟨rfl, rfl⟩
      generalize wr.alloc (.cells #[.bool true] 4) = w3 at *
      have HS : Aside0 (Sep w w3 [FactO (ZF.Good n g), S1.Blk bn #[.int .i64 (n : Int)] 3, S1.Blk ba (ats n g).toArray 3, S1.Blk bc #[.slice (some ⟨ba, 0, none⟩) n n] 22, S1.Blk br #[.bool true] 4, S1.Arr p sb ob wb n g, S1.Blk (w.heap.size + 1) #[.int .i64 a, .int .i64 k] 46, S1.Own (.slice A1 t c1) kk, S1.Blk w.heap.size #[.int .i64 s, .slice A l.length c] 24, S1.Own (.slice A2 t c2) v]) := ⟨by
        have h := HS.out
        unfold TF at h
        rw [HRun.out] at h
        exact h⟩
      have LC := Aside0.mk (fun m => Calls.quiet_of_same (n := m) (w := w3) ((cap_any ((HS.out.step (pw_below_drewN (Below.refl _ w3) m)).arr 5 rfl).choose_spec).mono fun _ _ ⟨he, hm⟩ => ⟨he, hm.symm⟩))
      have d1 : (_ : Option Value) = some (.int .i64 (n : Int)) := (blk_cell (HS.out.blk 1 rfl) 0).trans rfl
      have d4 : (_ : Option Value) = some (.bool true) := (blk_cell (HS.out.blk 4 rfl) 0).trans rfl
      go_wp2
      go_quiet ((go_at_call 28; exact LC.out _))
      clear LC d1 d4
      replace HS := Aside0.mk (HS.out.step (pw_below_drewN (Below.refl _ w3) nq))
      generalize w3.drewN nq = w4 at *
      go_wp2
      go_loopg [17] (n + 1) (fun kq v17 V => ∃ i : Nat, v17 = .int .i64 (i : Int) ∧ i ≤ n ∧ Aside0 (n + 1 - i ≤ kq) ∧ w4 = V)
      case atStart => exact ⟨0, rfl, by omega, ⟨by omega⟩, rfl⟩
      case round =>
        obtain ⟨i, rfl, hi, HQ, rfl⟩ := hrel
        have d1 : (_ : Option Value) = some (.int .i64 (n : Int)) := (blk_cell (HS.out.blk 1 rfl) 0).trans rfl
        by_cases hlt : i < n
        · have d3 : (_ : Option Value) = some (.slice (some ⟨ba, 0, none⟩) n n) := (blk_cell (HS.out.blk 3 rfl) 0).trans rfl
          have b1 : (_ : Option Value) = some (.int .i64 (atZ g i)) := (blk_cell (HS.out.blk 2 rfl) i).trans (ats_at g hlt)
          have hgd : ZF.Good n g := HS.out.get 0 rfl
          have hi5 : (i : Int) ≤ 200 := by omega
          have HC := Aside0.mk hlt
          obtain ⟨vs, hsl⟩ := HS.out.arr 5 rfl
          cases hon : g.on i with
          | true =>
            have C := at_on hsl hlt hon
            have hx := hgd.pos i hlt hon
            rw [show atZ g i = g.xs.getD i 0 by unfold atZ; rw [if_pos hon]] at b1
            clear hon hgd hsl vs
            generalize g.xs.getD i 0 = x at *
            have q1 : (x != 0) = true := bne_iff_ne.2 hx
            have q2 : (x != x) = false := by simp
            have C := Aside0.mk C
            clear hx
            go_wp2_with fail
            refine C.out.mono ?_
            clear C
            rintro e w5 ⟨rfl, rfl⟩
            go_wp2
            go_roundg (n - i)
            case measure => have := HQ.out; have := HC.out; omega
            case rel => exact ⟨i + 1, by go_num, by have := HC.out; omega, ⟨by omega⟩, rfl⟩
          | false =>
            have C := at_off hsl (i := (i : Int)) (.inr (.inr (by rw [Int.toNat_natCast]; exact hon)))
            rw [show atZ g i = 0 by unfold atZ; rw [hon]; rfl] at b1
            clear hon hgd hsl vs
            have C := Aside0.mk C
            go_wp2_with fail
            refine C.out.mono ?_
            clear C
            rintro e w5 ⟨rfl, rfl⟩
            go_wp2
            go_roundg (n - i)
            case measure => have := HQ.out; have := HC.out; omega
            case rel => exact ⟨i + 1, by go_num, by have := HC.out; omega, ⟨by omega⟩, rfl⟩
        · obtain rfl : i = n := by omega
          clear hlt
          obtain ⟨vs, hsl⟩ := HS.out.arr 5 rfl
          have C := places_any hsl (Kd.C_below HT.out HS.out.below)
          rw [HKK.out.1, HKK.out.2] at C
          have C := Aside0.mk C
          clear hsl vs
          go_wp2_with fail
          refine C.out.mono ?_
          clear C
          rintro e w6 ⟨A3, c3, rfl, g1, g2, g3, hb⟩
          replace HS := Aside0.mk (HS.out.step hb)
          obtain ⟨A', c', e', h1, h2⟩ := G9.own_C (HS.out.own 7 rfl)
          injection e' with e1 e2 e3
          subst e1
          subst e3
          rw [HL.out.1] at h1 h2
          have C := ints_any g2 g1 h2 h1 (by rw [HL.out.1]; have := HM.out; omega)
          rw [decide_eq_true rfl] at C
          have C := Aside0.mk C
          clear g1 g2 g3 hb h1 h2 e2
          go_wp2_with fail
          refine C.out.mono ?_
          clear C
          rintro e w7 ⟨rfl, hd⟩
          replace HS := Aside0.mk (HS.out.step hd.below)
          clear hd
          have C := Aside0.mk (awake_any _ (Kd.C_below HT.out HS.out.below))
          go_wp2_with fail
          refine C.out.mono ?_
          clear C
          rintro e w30 ⟨rfl, hb⟩
          replace HS := Aside0.mk (HS.out.step hb)
          clear hb
          go_wp2
          (try rw [Exit.noGoto_ret])
          go_ret
          exact ⟨rfl, HS.out.below⟩
set_option maxRecDepth 100000 in
set_option maxHeartbeats 4000000 in
theorem law_open_yes (hT : Tb w) (hr : Kd.C (Kd.int .i64) w A l.length l) (hl : l.length ≤ 9223372036854775807) (hs : -9223372036854775808 ≤ s ∧ s ≤ 9223372036854775807) {q : Nat} {a k d : Int} (ha : a = (q : Int)) (hq : 8 * q + 8 ≤ nOf s) (hw : winB (nOf s) (q : Int) 1 = true) (h0 : (d == 0) = false) (h1 : (d == 1) = false) (h2 : -1000 ≤ d) (h3 : d ≤ 9223372036854775807) :
    Calls Tryd.prog 5 #[.agg #[.int .i64 s, .slice A l.length c], .agg #[.int .i64 a, .int .i64 k], .int .i64 d] w fun e w' => e = .returned (.bool true) ∧ Below w.heap.size w w' := by
  have hR := openR_run (bh := d - 2) (g := G7 s l) (G7_len s l) hq
  have HA := Aside0.mk ha
  have p9 : decide (d < -1000) = false := decide_eq_false (by omega)
  clear ha hq
  have HT := Aside0.mk hT
  have HS := Aside0.mk (((Sep.nil w).new_blk #[.int .i64 s, .slice A l.length c] 24).new_blk #[.int .i64 a, .int .i64 k] 46)
  simp only [World.size_alloc] at HS
  have C := Aside0.mk (made_any (c := c) (Kd.C_below hr HS.out.below) hl hs)
  have c0 : (_ : Option Value) = some (.int .i64 s) := (blk_cell (HS.out.blk 0 rfl) 0).trans rfl
  have c1 : (_ : Option Value) = some (.slice A l.length c) := (blk_cell (HS.out.blk 0 rfl) 1).trans rfl
  have hn := (nOf_le s).2.1
  have hg := G7_good s l
  generalize G7 s l = g at *
  generalize nOf s = n at *
  have HG := Aside0.mk hg
  have lv : (vals (ons g.on g.xs n)).length = cntF g.on n := by rw [vals, List.length_map, ons_length]
  have lk : (keys (ons g.on g.xs n)).length = cntF g.on n := by rw [keys, List.length_map, ons_length]
  clear hT hr hl hs hg
  go_enter Tryd.func5, Tryd.ntmps5
  go_wp2_with fail
  refine C.out.mono ?_
  clear C c0 c1
  rintro e w1 ⟨p, sb, ob, wb, r, lb, rfl, hs1⟩
  have HS : Aside0 (Sep w w1 [S1.Blk w.heap.size #[.int .i64 s, .slice A l.length c] 24, S1.Blk (w.heap.size + 1) #[.int .i64 a, .int .i64 k] 46, S1.Arr p sb ob wb n g]) := ⟨(HS.out.append hs1).take 3⟩
  clear hs1
  obtain ⟨vs, hs⟩ := HS.out.arr 2 rfl
  have C := Aside0.mk (cap_any hs)
  clear hs vs
  go_wp2_with fail
  refine C.out.mono ?_
  clear C
  rintro e wc ⟨rfl, rfl⟩
  have hmk := make_ints n (by omega)
  have HS : Aside0 (Sep w (((w1.alloc (.cells #[.int .i64 (n : Int)] 3)).alloc (.cells (nums .i64 (List.replicate n 0)).toArray 3)).alloc (.cells #[.slice (some ⟨w1.heap.size + 1, 0, none⟩) n n] 22)) [S1.Blk w.heap.size #[.int .i64 s, .slice A l.length c] 24, S1.Blk (w.heap.size + 1) #[.int .i64 a, .int .i64 k] 46, S1.Arr p sb ob wb n g, S1.Blk w1.heap.size #[.int .i64 (n : Int)] 3, S1.Blk (w1.heap.size + 1) (nums .i64 (List.replicate n 0)).toArray 3, S1.Blk (w1.heap.size + 1 + 1) #[.slice (some ⟨w1.heap.size + 1, 0, none⟩) n n] 22]) := ⟨by
    have h := ((HS.out.new_blk #[.int .i64 (n : Int)] 3).new_blk (nums .i64 (List.replicate n 0)).toArray 3).new_blk #[.slice (some ⟨w1.heap.size + 1, 0, none⟩) n n] 22
    simp only [World.size_alloc] at h
    exact h⟩
  have C := places_any (HS.out.arr 2 rfl).choose_spec (Kd.C_below HT.out HS.out.below)
  have C := Aside0.mk C
  go_wp2_with fail
  refine C.out.mono ?_
  clear C
  rintro e w2 ⟨A1, c1, rfl, g1, g2, g3, hb⟩
  rw [← lk] at g3
  replace HS := Aside0.mk (HS.out.new_own hb g3)
  clear g1 g2 g3 hb
  generalize hb1 : w1.heap.size = bn at *
  obtain ⟨ba, hb2⟩ : ∃ ba, bn + 1 = ba := ⟨_, rfl⟩
  rw [hb2] at HS ⊢
  obtain ⟨bc, hb3⟩ : ∃ bc, ba + 1 = bc := ⟨_, rfl⟩
  rw [hb3] at HS ⊢
  clear hb1 hb2 hb3 hmk
  have C := items_any (HS.out.arr 2 rfl).choose_spec (Kd.C_below HT.out HS.out.below)
  have C := Aside0.mk C
  go_wp2_with fail
  refine C.out.mono ?_
  clear C
  rintro e w3 ⟨A2, c2, rfl, g1, g2, g3, hb⟩
  rw [← lv] at g3
  replace HS := HS.out.new_own hb g3
  rw [lk, lv] at HS
  have HS := Aside0.mk HS
  clear g1 g2 g3 hb
  have HF := Aside0.mk (fill_ats (n := n) (g := g))
  have HK : Aside0 (∀ t, t < cntF g.on n → ∃ q : Nat, (keys (ons g.on g.xs n)).getD t 0 = (q : Int) ∧ q < n) := ⟨fun t ht => by
    obtain ⟨q, h1, h2, _⟩ := ons_at (f := g.on) (xs := g.xs) (n := n) (k := t) (by rw [ons_length]; exact ht)
    exact ⟨q, (keys_get h1).1, h2⟩⟩
  have HM : Aside0 (cntF g.on n ≤ 200) := ⟨Nat.le_trans (cntF_le _ _) hn⟩
  generalize hkk : keys (ons g.on g.xs n) = kk at *
  generalize hvv : vals (ons g.on g.xs n) = v at *
  generalize hmm : cntF g.on n = m at *
  have HL := Aside0.mk (And.intro lk lv)
  have HKK := Aside0.mk (And.intro hkk hmm)
  clear lk lv hkk hvv hmm
  go_wp2
  go_loopg [13] (m + 1) (fun kq v13 W => ∃ t : Nat, v13 = .int .i64 (t : Int) ∧ t ≤ m ∧ Aside0 (m + 1 - t ≤ kq) ∧ Aside0 (Sep w W [S1.Blk w.heap.size #[.int .i64 s, .slice A l.length c] 24, S1.Blk (w.heap.size + 1) #[.int .i64 a, .int .i64 k] 46, S1.Arr p sb ob wb n g, S1.Blk bn #[.int .i64 (n : Int)] 3, S1.Blk ba (nums .i64 (fillP n kk v t)).toArray 3, S1.Blk bc #[.slice (some ⟨ba, 0, none⟩) n n] 22, S1.Own (.slice A1 m c1) kk, S1.Own (.slice A2 m c2) v]))
  case atStart => exact ⟨0, rfl, by omega, ⟨by omega⟩, HS⟩
  case round =>
    clear HS
    obtain ⟨t, rfl, ht, HQ, HS⟩ := hrel
    by_cases hlt : t < m
    · obtain ⟨q, hq, hqn⟩ := HK.out t hlt
      have HC := Aside0.mk hlt
      have ht2 : (t : Int) ≤ 200 := by have := HM.out; omega
      obtain ⟨x, hxv⟩ : ∃ x, v.getD t 0 = x := ⟨_, rfl⟩
      obtain ⟨ad1, rfl⟩ : ∃ ad, A1 = some ad := by
        obtain ⟨A', c', e', _, h2⟩ := G9.own_C (HS.out.own 6 rfl)
        injection e' with e1 e2 e3
        subst e1
        rw [HL.out.1] at h2
        obtain ⟨ad, e, hx⟩ := Kd.at_int h2 (t : Int) (by omega) (by omega)
        exact ⟨ad, e⟩
      obtain ⟨ad2, rfl⟩ : ∃ ad, A2 = some ad := by
        obtain ⟨A', c', e', _, h2⟩ := G9.own_C (HS.out.own 7 rfl)
        injection e' with e1 e2 e3
        subst e1
        rw [HL.out.2] at h2
        obtain ⟨ad, e, hx⟩ := Kd.at_int h2 (t : Int) (by omega) (by omega)
        exact ⟨ad, e⟩
      have d1 : (_ : Option Value) = some (.int .i64 (n : Int)) := (blk_cell (HS.out.blk 3 rfl) 0).trans rfl
      have d3 : (_ : Option Value) = some (.slice (some ⟨ba, 0, none⟩) n n) := (blk_cell (HS.out.blk 5 rfl) 0).trans rfl
      have f1 := blk_frozen (HS.out.blk 4 rfl) q
      obtain ⟨zq, b1⟩ : ∃ z, (wr).cell? ⟨ba, q, none⟩ = some (.int .i64 z) := ⟨_, (blk_cell (HS.out.blk 4 rfl) q).trans (show (nums .i64 (fillP n kk v t)).toArray[q]? = some (.int .i64 ((fillP n kk v t).getD q 0)) by simp [nums, fill_len, hqn])⟩
      have hx : (wr).cell? (ad1.add t) = some (.int .i64 (q : Int)) := by
        obtain ⟨A', c', e', _, h2⟩ := G9.own_C (HS.out.own 6 rfl)
        injection e' with e1 e2 e3
        subst e1
        rw [HL.out.1] at h2
        obtain ⟨ad, e, hx⟩ := Kd.at_int h2 (t : Int) (by omega) (by have := HC.out; omega)
        rw [Int.toNat_natCast, show rd kk (t : Int) = kk.getD t 0 from rfl, hq] at hx
        cases e
        exact hx
      have hy : (wr).cell? (ad2.add t) = some (.int .i64 x) := by
        obtain ⟨A', c', e', _, h2⟩ := G9.own_C (HS.out.own 7 rfl)
        injection e' with e1 e2 e3
        subst e1
        rw [HL.out.2] at h2
        obtain ⟨ad, e, hx⟩ := Kd.at_int h2 (t : Int) (by omega) (by have := HC.out; omega)
        rw [Int.toNat_natCast, show rd v (t : Int) = v.getD t 0 from rfl, hxv] at hx
        cases e
        exact hx
      have p0 : decide ((q : Int) < 0) = false := decide_eq_false (by omega)
      have p1 : decide (n ≤ q) = false := decide_eq_false (by omega)
      go_wp2
      go_quiet (fail)
      clear d1 d3 hx hy b1 f1
      replace HS := Aside0.mk (HS.out.step (pw_below_drewN (Below.refl _ wr) nq))
      generalize wr.drewN nq = w5 at *
      have d1 : (_ : Option Value) = some (.int .i64 (n : Int)) := (blk_cell (HS.out.blk 3 rfl) 0).trans rfl
      have d3 : (_ : Option Value) = some (.slice (some ⟨ba, 0, none⟩) n n) := (blk_cell (HS.out.blk 5 rfl) 0).trans rfl
      have f1 := blk_frozen (HS.out.blk 4 rfl) q
      obtain ⟨zq, b1⟩ : ∃ z, (w5).cell? ⟨ba, q, none⟩ = some (.int .i64 z) := ⟨_, (blk_cell (HS.out.blk 4 rfl) q).trans (show (nums .i64 (fillP n kk v t)).toArray[q]? = some (.int .i64 ((fillP n kk v t).getD q 0)) by simp [nums, fill_len, hqn])⟩
      have hx : (w5).cell? (ad1.add t) = some (.int .i64 (q : Int)) := by
        obtain ⟨A', c', e', _, h2⟩ := G9.own_C (HS.out.own 6 rfl)
        injection e' with e1 e2 e3
        subst e1
        rw [HL.out.1] at h2
        obtain ⟨ad, e, hx⟩ := Kd.at_int h2 (t : Int) (by omega) (by have := HC.out; omega)
        rw [Int.toNat_natCast, show rd kk (t : Int) = kk.getD t 0 from rfl, hq] at hx
        cases e
        exact hx
      have hy : (w5).cell? (ad2.add t) = some (.int .i64 x) := by
        obtain ⟨A', c', e', _, h2⟩ := G9.own_C (HS.out.own 7 rfl)
        injection e' with e1 e2 e3
        subst e1
        rw [HL.out.2] at h2
        obtain ⟨ad, e, hx⟩ := Kd.at_int h2 (t : Int) (by omega) (by have := HC.out; omega)
        rw [Int.toNat_natCast, show rd v (t : Int) = v.getD t 0 from rfl, hxv] at hx
        cases e
        exact hx
      go_wp2
      go_still_tail 10, (by kernel_rfl)
      change wpList _ _ _ _ _ w5.drew
      clear d1 d3 hx hy b1 f1
      replace HS := Aside0.mk (HS.out.step (below_drew (Below.refl _ w5)))
      generalize w5.drew = w6 at *
      have d1 : (_ : Option Value) = some (.int .i64 (n : Int)) := (blk_cell (HS.out.blk 3 rfl) 0).trans rfl
      have d3 : (_ : Option Value) = some (.slice (some ⟨ba, 0, none⟩) n n) := (blk_cell (HS.out.blk 5 rfl) 0).trans rfl
      have f1 := blk_frozen (HS.out.blk 4 rfl) q
      obtain ⟨zq, b1⟩ : ∃ z, (w6).cell? ⟨ba, q, none⟩ = some (.int .i64 z) := ⟨_, (blk_cell (HS.out.blk 4 rfl) q).trans (show (nums .i64 (fillP n kk v t)).toArray[q]? = some (.int .i64 ((fillP n kk v t).getD q 0)) by simp [nums, fill_len, hqn])⟩
      have hx : (w6).cell? (ad1.add t) = some (.int .i64 (q : Int)) := by
        obtain ⟨A', c', e', _, h2⟩ := G9.own_C (HS.out.own 6 rfl)
        injection e' with e1 e2 e3
        subst e1
        rw [HL.out.1] at h2
        obtain ⟨ad, e, hx⟩ := Kd.at_int h2 (t : Int) (by omega) (by have := HC.out; omega)
        rw [Int.toNat_natCast, show rd kk (t : Int) = kk.getD t 0 from rfl, hq] at hx
        cases e
        exact hx
      have hy : (w6).cell? (ad2.add t) = some (.int .i64 x) := by
        obtain ⟨A', c', e', _, h2⟩ := G9.own_C (HS.out.own 7 rfl)
        injection e' with e1 e2 e3
        subst e1
        rw [HL.out.2] at h2
        obtain ⟨ad, e, hx⟩ := Kd.at_int h2 (t : Int) (by omega) (by have := HC.out; omega)
        rw [Int.toNat_natCast, show rd v (t : Int) = v.getD t 0 from rfl, hxv] at hx
        cases e
        exact hx
      have HS2 := HS.out.turn_blk 4 rfl q (.int .i64 x)
      rw [nums_set, show (fillP n kk v t).set q x = fillP n kk v (t + 1) by show _ = (fillP n kk v t).set (kk.getD t 0).toNat (v.getD t 0); rw [hq, Int.toNat_natCast, hxv]] at HS2
      have HS2 := Aside0.mk HS2
      clear hq hxv
      go_wp2
      go_roundg (m - t)
      case measure => have := HQ.out; have := HC.out; omega
      case rel => exact ⟨t + 1, by go_num, by have := HC.out; omega, ⟨by omega⟩, HS2⟩
    · obtain rfl : t = m := by omega
      rw [HF.out] at HS
      obtain ⟨br, hbr⟩ : ∃ br, wr.heap.size = br := ⟨_, rfl⟩
      have HS : Aside0 (Sep w (wr.alloc (.cells #[.bool true] 4)) (TF n g bn ba bc br () [] ++ (S1.Arr p sb ob wb n g :: [S1.Blk (w.heap.size + 1) #[.int .i64 a, .int .i64 k] 46, S1.Own (.slice A1 t c1) kk, S1.Blk w.heap.size #[.int .i64 s, .slice A l.length c] 24, S1.Own (.slice A2 t c2) v]))) := ⟨by
        have h := (HS.out.new_blk #[.bool true] 4).push (Below.refl _ _) (FactO (ZF.Good n g)) HG.out (fun k hk => by cases hk)
        rw [hbr] at h
        exact h.perm perm10⟩
      have d0 : (_ : Option Value) = some (.int .i64 a) := (blk_cell (HS.out.blk 6 rfl) 0).trans rfl
      have d1 : (_ : Option Value) = some (.int .i64 k) := (blk_cell (HS.out.blk 6 rfl) 1).trans rfl
      obtain ⟨hnn⟩ : Aside0 (n ≤ 100000) := ⟨by omega⟩
      have hc : ¬ t < t := by omega
      clear hlt ht HQ HF HK hnn
      have HRun := Aside0.mk hR.1
      have HErr := Aside0.mk hR.2
      have C := open_any (st := ()) (T := TF n g bn ba bc br) (tell_F w (by omega) g bn ba bc br) HS.out HG.out.len hw (d - 2)
      rw [← HA.out] at C
      have C := Aside0.mk C
      clear hR hw
      go_wp2_with fail
      refine C.out.mono ?_
      clear C d0 d1 hbr
      rintro e w3 ⟨rfl, _, hs3⟩
      replace HS := Aside0.mk hs3
      clear hs3
      generalize openR n q (d - 2) g = E at *
      obtain ⟨kk2, ee, g', ms⟩ := E
      dsimp only at HS HRun HErr
      by_cases hee : ee = 0
      · subst hee
        have HS : Aside0 (Sep w w3 [FactO (ZF.Good n g'), S1.Blk bn #[.int .i64 (n : Int)] 3, S1.Blk ba (ats n g').toArray 3, S1.Blk bc #[.slice (some ⟨ba, 0, none⟩) n n] 22, S1.Blk br #[.bool true] 4, S1.Arr p sb ob wb n g', S1.Blk (w.heap.size + 1) #[.int .i64 a, .int .i64 k] 46, S1.Own (.slice A1 t c1) kk, S1.Blk w.heap.size #[.int .i64 s, .slice A l.length c] 24, S1.Own (.slice A2 t c2) v]) := ⟨by
          have h := HS.out
          unfold TF at h
          rw [HRun.out] at h
          exact h⟩
        have LC := Aside0.mk (fun m => Calls.quiet_of_same (n := m) (w := w3) ((cap_any ((HS.out.step (pw_below_drewN (Below.refl _ w3) m)).arr 5 rfl).choose_spec).mono fun _ _ ⟨he, hm⟩ => ⟨he, hm.symm⟩))
        have d1 : (_ : Option Value) = some (.int .i64 (n : Int)) := (blk_cell (HS.out.blk 1 rfl) 0).trans rfl
        have d4 : (_ : Option Value) = some (.bool true) := (blk_cell (HS.out.blk 4 rfl) 0).trans rfl
        go_wp2
        go_quiet ((go_at_call 28; exact LC.out _))
        clear LC d1 d4
        replace HS := Aside0.mk (HS.out.step (pw_below_drewN (Below.refl _ w3) nq))
        generalize w3.drewN nq = w4 at *
        go_wp2
        go_loopg [17] (n + 1) (fun kq v17 V => ∃ i : Nat, v17 = .int .i64 (i : Int) ∧ i ≤ n ∧ Aside0 (n + 1 - i ≤ kq) ∧ w4 = V)
        case atStart => exact ⟨0, rfl, by omega, ⟨by omega⟩, rfl⟩
        case round =>
          obtain ⟨i, rfl, hi, HQ, rfl⟩ := hrel
          have d1 : (_ : Option Value) = some (.int .i64 (n : Int)) := (blk_cell (HS.out.blk 1 rfl) 0).trans rfl
          by_cases hlt : i < n
          · have d3 : (_ : Option Value) = some (.slice (some ⟨ba, 0, none⟩) n n) := (blk_cell (HS.out.blk 3 rfl) 0).trans rfl
            have b1 : (_ : Option Value) = some (.int .i64 (atZ g' i)) := (blk_cell (HS.out.blk 2 rfl) i).trans (ats_at g' hlt)
            have hgd : ZF.Good n g' := HS.out.get 0 rfl
            have hi5 : (i : Int) ≤ 200 := by omega
            have HC := Aside0.mk hlt
            obtain ⟨vs, hsl⟩ := HS.out.arr 5 rfl
            cases hon : g'.on i with
            | true =>
              have C := at_on hsl hlt hon
              have hx := hgd.pos i hlt hon
              rw [show atZ g' i = g'.xs.getD i 0 by unfold atZ; rw [if_pos hon]] at b1
              clear hon hgd hsl vs
              generalize g'.xs.getD i 0 = x at *
              have q1 : (x != 0) = true := bne_iff_ne.2 hx
              have q2 : (x != x) = false := by simp
              have C := Aside0.mk C
              clear hx
              go_wp2_with fail
              refine C.out.mono ?_
              clear C
              rintro e w5 ⟨rfl, rfl⟩
              go_wp2
              go_roundg (n - i)
              case measure => have := HQ.out; have := HC.out; omega
              case rel => exact ⟨i + 1, by go_num, by have := HC.out; omega, ⟨by omega⟩, rfl⟩
            | false =>
              have C := at_off hsl (i := (i : Int)) (.inr (.inr (by rw [Int.toNat_natCast]; exact hon)))
              rw [show atZ g' i = 0 by unfold atZ; rw [hon]; rfl] at b1
              clear hon hgd hsl vs
              have C := Aside0.mk C
              go_wp2_with fail
              refine C.out.mono ?_
              clear C
              rintro e w5 ⟨rfl, rfl⟩
              go_wp2
              go_roundg (n - i)
              case measure => have := HQ.out; have := HC.out; omega
              case rel => exact ⟨i + 1, by go_num, by have := HC.out; omega, ⟨by omega⟩, rfl⟩
          · obtain rfl : i = n := by omega
            clear hlt
            have C := Aside0.mk (awake_any _ (Kd.C_below HT.out HS.out.below))
            go_wp2_with fail
            refine C.out.mono ?_
            clear C
            rintro e w30 ⟨rfl, hb⟩
            replace HS := Aside0.mk (HS.out.step hb)
            clear hb
            go_wp2
            (try rw [Exit.noGoto_ret])
            go_ret
            exact ⟨rfl, HS.out.below⟩
      · obtain rfl : g' = g := by
          rcases HErr.out with h | h
          · exact absurd h hee
          · exact h
        have q9 : (ee == 0) = false := beq_eq_false_iff_ne.2 hee
        clear hee HErr
        have HS : Aside0 (Sep w w3 [FactO (ZF.Good n g'), S1.Blk bn #[.int .i64 (n : Int)] 3, S1.Blk ba (ats n g').toArray 3, S1.Blk bc #[.slice (some ⟨ba, 0, none⟩) n n] 22, S1.Blk br #[.bool true] 4, S1.Arr p sb ob wb n g', S1.Blk (w.heap.size + 1) #[.int .i64 a, .int .i64 k] 46, S1.Own (.slice A1 t c1) kk, S1.Blk w.heap.size #[.int .i64 s, .slice A l.length c] 24, S1.Own (.slice A2 t c2) v]) := ⟨by
          have h := HS.out
          unfold TF at h
          rw [HRun.out] at h
          exact h⟩
        have LC := Aside0.mk (fun m => Calls.quiet_of_same (n := m) (w := w3) ((cap_any ((HS.out.step (pw_below_drewN (Below.refl _ w3) m)).arr 5 rfl).choose_spec).mono fun _ _ ⟨he, hm⟩ => ⟨he, hm.symm⟩))
        have d1 : (_ : Option Value) = some (.int .i64 (n : Int)) := (blk_cell (HS.out.blk 1 rfl) 0).trans rfl
        have d4 : (_ : Option Value) = some (.bool true) := (blk_cell (HS.out.blk 4 rfl) 0).trans rfl
        go_wp2
        go_quiet ((go_at_call 28; exact LC.out _))
        clear LC d1 d4
        replace HS := Aside0.mk (HS.out.step (pw_below_drewN (Below.refl _ w3) nq))
        generalize w3.drewN nq = w4 at *
        go_wp2
        go_loopg [17] (n + 1) (fun kq v17 V => ∃ i : Nat, v17 = .int .i64 (i : Int) ∧ i ≤ n ∧ Aside0 (n + 1 - i ≤ kq) ∧ w4 = V)
        case atStart => exact ⟨0, rfl, by omega, ⟨by omega⟩, rfl⟩
        case round =>
          obtain ⟨i, rfl, hi, HQ, rfl⟩ := hrel
          have d1 : (_ : Option Value) = some (.int .i64 (n : Int)) := (blk_cell (HS.out.blk 1 rfl) 0).trans rfl
          by_cases hlt : i < n
          · have d3 : (_ : Option Value) = some (.slice (some ⟨ba, 0, none⟩) n n) := (blk_cell (HS.out.blk 3 rfl) 0).trans rfl
            have b1 : (_ : Option Value) = some (.int .i64 (atZ g' i)) := (blk_cell (HS.out.blk 2 rfl) i).trans (ats_at g' hlt)
            have hgd : ZF.Good n g' := HS.out.get 0 rfl
            have hi5 : (i : Int) ≤ 200 := by omega
            have HC := Aside0.mk hlt
            obtain ⟨vs, hsl⟩ := HS.out.arr 5 rfl
            cases hon : g'.on i with
            | true =>
              have C := at_on hsl hlt hon
              have hx := hgd.pos i hlt hon
              rw [show atZ g' i = g'.xs.getD i 0 by unfold atZ; rw [if_pos hon]] at b1
              clear hon hgd hsl vs
              generalize g'.xs.getD i 0 = x at *
              have q1 : (x != 0) = true := bne_iff_ne.2 hx
              have q2 : (x != x) = false := by simp
              have C := Aside0.mk C
              clear hx
              go_wp2_with fail
              refine C.out.mono ?_
              clear C
              rintro e w5 ⟨rfl, rfl⟩
              go_wp2
              go_roundg (n - i)
              case measure => have := HQ.out; have := HC.out; omega
              case rel => exact ⟨i + 1, by go_num, by have := HC.out; omega, ⟨by omega⟩, rfl⟩
            | false =>
              have C := at_off hsl (i := (i : Int)) (.inr (.inr (by rw [Int.toNat_natCast]; exact hon)))
              rw [show atZ g' i = 0 by unfold atZ; rw [hon]; rfl] at b1
              clear hon hgd hsl vs
              have C := Aside0.mk C
              go_wp2_with fail
              refine C.out.mono ?_
              clear C
              rintro e w5 ⟨rfl, rfl⟩
              go_wp2
              go_roundg (n - i)
              case measure => have := HQ.out; have := HC.out; omega
              case rel => exact ⟨i + 1, by go_num, by have := HC.out; omega, ⟨by omega⟩, rfl⟩
          · obtain rfl : i = n := by omega
            clear hlt
            obtain ⟨vs, hsl⟩ := HS.out.arr 5 rfl
            have C := places_any hsl (Kd.C_below HT.out HS.out.below)
            rw [HKK.out.1, HKK.out.2] at C
            have C := Aside0.mk C
            clear hsl vs
            go_wp2_with fail
            refine C.out.mono ?_
            clear C
            rintro e w6 ⟨A3, c3, rfl, g1, g2, g3, hb⟩
            replace HS := Aside0.mk (HS.out.step hb)
            obtain ⟨A', c', e', h1, h2⟩ := G9.own_C (HS.out.own 7 rfl)
            injection e' with e1 e2 e3
            subst e1
            subst e3
            rw [HL.out.1] at h1 h2
            have C := ints_any g2 g1 h2 h1 (by rw [HL.out.1]; have := HM.out; omega)
            rw [decide_eq_true rfl] at C
            have C := Aside0.mk C
            clear g1 g2 g3 hb h1 h2 e2
            go_wp2_with fail
            refine C.out.mono ?_
            clear C
            rintro e w7 ⟨rfl, hd⟩
            replace HS := Aside0.mk (HS.out.step hd.below)
            clear hd
            have C := Aside0.mk (awake_any _ (Kd.C_below HT.out HS.out.below))
            go_wp2_with fail
            refine C.out.mono ?_
            clear C
            rintro e w30 ⟨rfl, hb⟩
            replace HS := Aside0.mk (HS.out.step hb)
            clear hb
            go_wp2
            (try rw [Exit.noGoto_ret])
            go_ret
            exact ⟨rfl, HS.out.below⟩
set_option maxRecDepth 100000 in
set_option maxHeartbeats 4000000 in
theorem law_open_low (hT : Tb w) (hr : Kd.C (Kd.int .i64) w A l.length l) (hl : l.length ≤ 9223372036854775807) (hs : -9223372036854775808 ≤ s ∧ s ≤ 9223372036854775807) {q : Nat} {a k d : Int} (ha : a = (q : Int)) (hq : 8 * q + 8 ≤ nOf s) (hw : winB (nOf s) (q : Int) 1 = true) (h0 : (d == 0) = false) (h1 : (d == 1) = false) (h2 : d < -1000) :
    Calls Tryd.prog 5 #[.agg #[.int .i64 s, .slice A l.length c], .agg #[.int .i64 a, .int .i64 k], .int .i64 d] w fun e w' => e = .returned (.bool true) ∧ Below w.heap.size w w' := by
  have hR := openR_run (bh := -1002) (g := G7 s l) (G7_len s l) hq
  have HA := Aside0.mk ha
  clear ha hq
  have HT := Aside0.mk hT
  have HS := Aside0.mk (((Sep.nil w).new_blk #[.int .i64 s, .slice A l.length c] 24).new_blk #[.int .i64 a, .int .i64 k] 46)
  simp only [World.size_alloc] at HS
  have C := Aside0.mk (made_any (c := c) (Kd.C_below hr HS.out.below) hl hs)
  have c0 : (_ : Option Value) = some (.int .i64 s) := (blk_cell (HS.out.blk 0 rfl) 0).trans rfl
  have c1 : (_ : Option Value) = some (.slice A l.length c) := (blk_cell (HS.out.blk 0 rfl) 1).trans rfl
  have hn := (nOf_le s).2.1
  have hg := G7_good s l
  generalize G7 s l = g at *
  generalize nOf s = n at *
  have HG := Aside0.mk hg
  have lv : (vals (ons g.on g.xs n)).length = cntF g.on n := by rw [vals, List.length_map, ons_length]
  have lk : (keys (ons g.on g.xs n)).length = cntF g.on n := by rw [keys, List.length_map, ons_length]
  clear hT hr hl hs hg
  go_enter Tryd.func5, Tryd.ntmps5
  go_wp2_with fail
  refine C.out.mono ?_
  clear C c0 c1
  rintro e w1 ⟨p, sb, ob, wb, r, lb, rfl, hs1⟩
  have HS : Aside0 (Sep w w1 [S1.Blk w.heap.size #[.int .i64 s, .slice A l.length c] 24, S1.Blk (w.heap.size + 1) #[.int .i64 a, .int .i64 k] 46, S1.Arr p sb ob wb n g]) := ⟨(HS.out.append hs1).take 3⟩
  clear hs1
  obtain ⟨vs, hs⟩ := HS.out.arr 2 rfl
  have C := Aside0.mk (cap_any hs)
  clear hs vs
  go_wp2_with fail
  refine C.out.mono ?_
  clear C
  rintro e wc ⟨rfl, rfl⟩
  have hmk := make_ints n (by omega)
  have HS : Aside0 (Sep w (((w1.alloc (.cells #[.int .i64 (n : Int)] 3)).alloc (.cells (nums .i64 (List.replicate n 0)).toArray 3)).alloc (.cells #[.slice (some ⟨w1.heap.size + 1, 0, none⟩) n n] 22)) [S1.Blk w.heap.size #[.int .i64 s, .slice A l.length c] 24, S1.Blk (w.heap.size + 1) #[.int .i64 a, .int .i64 k] 46, S1.Arr p sb ob wb n g, S1.Blk w1.heap.size #[.int .i64 (n : Int)] 3, S1.Blk (w1.heap.size + 1) (nums .i64 (List.replicate n 0)).toArray 3, S1.Blk (w1.heap.size + 1 + 1) #[.slice (some ⟨w1.heap.size + 1, 0, none⟩) n n] 22]) := ⟨by
    have h := ((HS.out.new_blk #[.int .i64 (n : Int)] 3).new_blk (nums .i64 (List.replicate n 0)).toArray 3).new_blk #[.slice (some ⟨w1.heap.size + 1, 0, none⟩) n n] 22
    simp only [World.size_alloc] at h
    exact h⟩
  have C := places_any (HS.out.arr 2 rfl).choose_spec (Kd.C_below HT.out HS.out.below)
  have C := Aside0.mk C
  go_wp2_with fail
  refine C.out.mono ?_
  clear C
  rintro e w2 ⟨A1, c1, rfl, g1, g2, g3, hb⟩
  rw [← lk] at g3
  replace HS := Aside0.mk (HS.out.new_own hb g3)
  clear g1 g2 g3 hb
  generalize hb1 : w1.heap.size = bn at *
  obtain ⟨ba, hb2⟩ : ∃ ba, bn + 1 = ba := ⟨_, rfl⟩
  rw [hb2] at HS ⊢
  obtain ⟨bc, hb3⟩ : ∃ bc, ba + 1 = bc := ⟨_, rfl⟩
  rw [hb3] at HS ⊢
  clear hb1 hb2 hb3 hmk
  have C := items_any (HS.out.arr 2 rfl).choose_spec (Kd.C_below HT.out HS.out.below)
  have C := Aside0.mk C
  go_wp2_with fail
  refine C.out.mono ?_
  clear C
  rintro e w3 ⟨A2, c2, rfl, g1, g2, g3, hb⟩
  rw [← lv] at g3
  replace HS := HS.out.new_own hb g3
  rw [lk, lv] at HS
  have HS := Aside0.mk HS
  clear g1 g2 g3 hb
  have HF := Aside0.mk (fill_ats (n := n) (g := g))
  have HK : Aside0 (∀ t, t < cntF g.on n → ∃ q : Nat, (keys (ons g.on g.xs n)).getD t 0 = (q : Int) ∧ q < n) := ⟨fun t ht => by
    obtain ⟨q, h1, h2, _⟩ := ons_at (f := g.on) (xs := g.xs) (n := n) (k := t) (by rw [ons_length]; exact ht)
    exact ⟨q, (keys_get h1).1, h2⟩⟩
  have HM : Aside0 (cntF g.on n ≤ 200) := ⟨Nat.le_trans (cntF_le _ _) hn⟩
  generalize hkk : keys (ons g.on g.xs n) = kk at *
  generalize hvv : vals (ons g.on g.xs n) = v at *
  generalize hmm : cntF g.on n = m at *
  have HL := Aside0.mk (And.intro lk lv)
  have HKK := Aside0.mk (And.intro hkk hmm)
  clear lk lv hkk hvv hmm
  go_wp2
  go_loopg [13] (m + 1) (fun kq v13 W => ∃ t : Nat, v13 = .int .i64 (t : Int) ∧ t ≤ m ∧ Aside0 (m + 1 - t ≤ kq) ∧ Aside0 (Sep w W [S1.Blk w.heap.size #[.int .i64 s, .slice A l.length c] 24, S1.Blk (w.heap.size + 1) #[.int .i64 a, .int .i64 k] 46, S1.Arr p sb ob wb n g, S1.Blk bn #[.int .i64 (n : Int)] 3, S1.Blk ba (nums .i64 (fillP n kk v t)).toArray 3, S1.Blk bc #[.slice (some ⟨ba, 0, none⟩) n n] 22, S1.Own (.slice A1 m c1) kk, S1.Own (.slice A2 m c2) v]))
  case atStart => exact ⟨0, rfl, by omega, ⟨by omega⟩, HS⟩
  case round =>
    clear HS
    obtain ⟨t, rfl, ht, HQ, HS⟩ := hrel
    by_cases hlt : t < m
    · obtain ⟨q, hq, hqn⟩ := HK.out t hlt
      have HC := Aside0.mk hlt
      have ht2 : (t : Int) ≤ 200 := by have := HM.out; omega
      obtain ⟨x, hxv⟩ : ∃ x, v.getD t 0 = x := ⟨_, rfl⟩
      obtain ⟨ad1, rfl⟩ : ∃ ad, A1 = some ad := by
        obtain ⟨A', c', e', _, h2⟩ := G9.own_C (HS.out.own 6 rfl)
        injection e' with e1 e2 e3
        subst e1
        rw [HL.out.1] at h2
        obtain ⟨ad, e, hx⟩ := Kd.at_int h2 (t : Int) (by omega) (by omega)
        exact ⟨ad, e⟩
      obtain ⟨ad2, rfl⟩ : ∃ ad, A2 = some ad := by
        obtain ⟨A', c', e', _, h2⟩ := G9.own_C (HS.out.own 7 rfl)
        injection e' with e1 e2 e3
        subst e1
        rw [HL.out.2] at h2
        obtain ⟨ad, e, hx⟩ := Kd.at_int h2 (t : Int) (by omega) (by omega)
        exact ⟨ad, e⟩
      have d1 : (_ : Option Value) = some (.int .i64 (n : Int)) := (blk_cell (HS.out.blk 3 rfl) 0).trans rfl
      have d3 : (_ : Option Value) = some (.slice (some ⟨ba, 0, none⟩) n n) := (blk_cell (HS.out.blk 5 rfl) 0).trans rfl
      have f1 := blk_frozen (HS.out.blk 4 rfl) q
      obtain ⟨zq, b1⟩ : ∃ z, (wr).cell? ⟨ba, q, none⟩ = some (.int .i64 z) := ⟨_, (blk_cell (HS.out.blk 4 rfl) q).trans (show (nums .i64 (fillP n kk v t)).toArray[q]? = some (.int .i64 ((fillP n kk v t).getD q 0)) by simp [nums, fill_len, hqn])⟩
      have hx : (wr).cell? (ad1.add t) = some (.int .i64 (q : Int)) := by
        obtain ⟨A', c', e', _, h2⟩ := G9.own_C (HS.out.own 6 rfl)
        injection e' with e1 e2 e3
        subst e1
        rw [HL.out.1] at h2
        obtain ⟨ad, e, hx⟩ := Kd.at_int h2 (t : Int) (by omega) (by have := HC.out; omega)
        rw [Int.toNat_natCast, show rd kk (t : Int) = kk.getD t 0 from rfl, hq] at hx
        cases e
        exact hx
      have hy : (wr).cell? (ad2.add t) = some (.int .i64 x) := by
        obtain ⟨A', c', e', _, h2⟩ := G9.own_C (HS.out.own 7 rfl)
        injection e' with e1 e2 e3
        subst e1
        rw [HL.out.2] at h2
        obtain ⟨ad, e, hx⟩ := Kd.at_int h2 (t : Int) (by omega) (by have := HC.out; omega)
        rw [Int.toNat_natCast, show rd v (t : Int) = v.getD t 0 from rfl, hxv] at hx
        cases e
        exact hx
      have p0 : decide ((q : Int) < 0) = false := decide_eq_false (by omega)
      have p1 : decide (n ≤ q) = false := decide_eq_false (by omega)
      go_wp2
      go_quiet (fail)
      clear d1 d3 hx hy b1 f1
      replace HS := Aside0.mk (HS.out.step (pw_below_drewN (Below.refl _ wr) nq))
      generalize wr.drewN nq = w5 at *
      have d1 : (_ : Option Value) = some (.int .i64 (n : Int)) := (blk_cell (HS.out.blk 3 rfl) 0).trans rfl
      have d3 : (_ : Option Value) = some (.slice (some ⟨ba, 0, none⟩) n n) := (blk_cell (HS.out.blk 5 rfl) 0).trans rfl
      have f1 := blk_frozen (HS.out.blk 4 rfl) q
      obtain ⟨zq, b1⟩ : ∃ z, (w5).cell? ⟨ba, q, none⟩ = some (.int .i64 z) := ⟨_, (blk_cell (HS.out.blk 4 rfl) q).trans (show (nums .i64 (fillP n kk v t)).toArray[q]? = some (.int .i64 ((fillP n kk v t).getD q 0)) by simp [nums, fill_len, hqn])⟩
      have hx : (w5).cell? (ad1.add t) = some (.int .i64 (q : Int)) := by
        obtain ⟨A', c', e', _, h2⟩ := G9.own_C (HS.out.own 6 rfl)
        injection e' with e1 e2 e3
        subst e1
        rw [HL.out.1] at h2
        obtain ⟨ad, e, hx⟩ := Kd.at_int h2 (t : Int) (by omega) (by have := HC.out; omega)
        rw [Int.toNat_natCast, show rd kk (t : Int) = kk.getD t 0 from rfl, hq] at hx
        cases e
        exact hx
      have hy : (w5).cell? (ad2.add t) = some (.int .i64 x) := by
        obtain ⟨A', c', e', _, h2⟩ := G9.own_C (HS.out.own 7 rfl)
        injection e' with e1 e2 e3
        subst e1
        rw [HL.out.2] at h2
        obtain ⟨ad, e, hx⟩ := Kd.at_int h2 (t : Int) (by omega) (by have := HC.out; omega)
        rw [Int.toNat_natCast, show rd v (t : Int) = v.getD t 0 from rfl, hxv] at hx
        cases e
        exact hx
      go_wp2
      go_still_tail 10, (by kernel_rfl)
      change wpList _ _ _ _ _ w5.drew
      clear d1 d3 hx hy b1 f1
      replace HS := Aside0.mk (HS.out.step (below_drew (Below.refl _ w5)))
      generalize w5.drew = w6 at *
      have d1 : (_ : Option Value) = some (.int .i64 (n : Int)) := (blk_cell (HS.out.blk 3 rfl) 0).trans rfl
      have d3 : (_ : Option Value) = some (.slice (some ⟨ba, 0, none⟩) n n) := (blk_cell (HS.out.blk 5 rfl) 0).trans rfl
      have f1 := blk_frozen (HS.out.blk 4 rfl) q
      obtain ⟨zq, b1⟩ : ∃ z, (w6).cell? ⟨ba, q, none⟩ = some (.int .i64 z) := ⟨_, (blk_cell (HS.out.blk 4 rfl) q).trans (show (nums .i64 (fillP n kk v t)).toArray[q]? = some (.int .i64 ((fillP n kk v t).getD q 0)) by simp [nums, fill_len, hqn])⟩
      have hx : (w6).cell? (ad1.add t) = some (.int .i64 (q : Int)) := by
        obtain ⟨A', c', e', _, h2⟩ := G9.own_C (HS.out.own 6 rfl)
        injection e' with e1 e2 e3
        subst e1
        rw [HL.out.1] at h2
        obtain ⟨ad, e, hx⟩ := Kd.at_int h2 (t : Int) (by omega) (by have := HC.out; omega)
        rw [Int.toNat_natCast, show rd kk (t : Int) = kk.getD t 0 from rfl, hq] at hx
        cases e
        exact hx
      have hy : (w6).cell? (ad2.add t) = some (.int .i64 x) := by
        obtain ⟨A', c', e', _, h2⟩ := G9.own_C (HS.out.own 7 rfl)
        injection e' with e1 e2 e3
        subst e1
        rw [HL.out.2] at h2
        obtain ⟨ad, e, hx⟩ := Kd.at_int h2 (t : Int) (by omega) (by have := HC.out; omega)
        rw [Int.toNat_natCast, show rd v (t : Int) = v.getD t 0 from rfl, hxv] at hx
        cases e
        exact hx
      have HS2 := HS.out.turn_blk 4 rfl q (.int .i64 x)
      rw [nums_set, show (fillP n kk v t).set q x = fillP n kk v (t + 1) by show _ = (fillP n kk v t).set (kk.getD t 0).toNat (v.getD t 0); rw [hq, Int.toNat_natCast, hxv]] at HS2
      have HS2 := Aside0.mk HS2
      clear hq hxv
      go_wp2
      go_roundg (m - t)
      case measure => have := HQ.out; have := HC.out; omega
      case rel => exact ⟨t + 1, by go_num, by have := HC.out; omega, ⟨by omega⟩, HS2⟩
    · obtain rfl : t = m := by omega
      rw [HF.out] at HS
      obtain ⟨br, hbr⟩ : ∃ br, wr.heap.size = br := ⟨_, rfl⟩
      have HS : Aside0 (Sep w (wr.alloc (.cells #[.bool true] 4)) (TF n g bn ba bc br () [] ++ (S1.Arr p sb ob wb n g :: [S1.Blk (w.heap.size + 1) #[.int .i64 a, .int .i64 k] 46, S1.Own (.slice A1 t c1) kk, S1.Blk w.heap.size #[.int .i64 s, .slice A l.length c] 24, S1.Own (.slice A2 t c2) v]))) := ⟨by
        have h := (HS.out.new_blk #[.bool true] 4).push (Below.refl _ _) (FactO (ZF.Good n g)) HG.out (fun k hk => by cases hk)
        rw [hbr] at h
        exact h.perm perm10⟩
      have d0 : (_ : Option Value) = some (.int .i64 a) := (blk_cell (HS.out.blk 6 rfl) 0).trans rfl
      have d1 : (_ : Option Value) = some (.int .i64 k) := (blk_cell (HS.out.blk 6 rfl) 1).trans rfl
      obtain ⟨hnn⟩ : Aside0 (n ≤ 100000) := ⟨by omega⟩
      have hc : ¬ t < t := by omega
      clear hlt ht HQ HF HK hnn
      have HRun := Aside0.mk hR.1
      have HErr := Aside0.mk hR.2
      have C := open_any (st := ()) (T := TF n g bn ba bc br) (tell_F w (by omega) g bn ba bc br) HS.out HG.out.len hw (-1002)
      rw [← HA.out] at C
      have C := Aside0.mk C
      clear hR hw
      go_wp2_with fail
      refine C.out.mono ?_
      clear C d0 d1 hbr
      rintro e w3 ⟨rfl, _, hs3⟩
      replace HS := Aside0.mk hs3
      clear hs3
      generalize openR n q (-1002) g = E at *
      obtain ⟨kk2, ee, g', ms⟩ := E
      dsimp only at HS HRun HErr
      by_cases hee : ee = 0
      · subst hee
        have HS : Aside0 (Sep w w3 [FactO (ZF.Good n g'), S1.Blk bn #[.int .i64 (n : Int)] 3, S1.Blk ba (ats n g').toArray 3, S1.Blk bc #[.slice (some ⟨ba, 0, none⟩) n n] 22, S1.Blk br #[.bool true] 4, S1.Arr p sb ob wb n g', S1.Blk (w.heap.size + 1) #[.int .i64 a, .int .i64 k] 46, S1.Own (.slice A1 t c1) kk, S1.Blk w.heap.size #[.int .i64 s, .slice A l.length c] 24, S1.Own (.slice A2 t c2) v]) := ⟨by
          have h := HS.out
          unfold TF at h
          rw [HRun.out] at h
          exact h⟩
        have LC := Aside0.mk (fun m => Calls.quiet_of_same (n := m) (w := w3) ((cap_any ((HS.out.step (pw_below_drewN (Below.refl _ w3) m)).arr 5 rfl).choose_spec).mono fun _ _ ⟨he, hm⟩ => ⟨he, hm.symm⟩))
        have d1 : (_ : Option Value) = some (.int .i64 (n : Int)) := (blk_cell (HS.out.blk 1 rfl) 0).trans rfl
        have d4 : (_ : Option Value) = some (.bool true) := (blk_cell (HS.out.blk 4 rfl) 0).trans rfl
        go_wp2
        go_quiet ((go_at_call 28; exact LC.out _))
        clear LC d1 d4
        replace HS := Aside0.mk (HS.out.step (pw_below_drewN (Below.refl _ w3) nq))
        generalize w3.drewN nq = w4 at *
        go_wp2
        go_loopg [17] (n + 1) (fun kq v17 V => ∃ i : Nat, v17 = .int .i64 (i : Int) ∧ i ≤ n ∧ Aside0 (n + 1 - i ≤ kq) ∧ w4 = V)
        case atStart => exact ⟨0, rfl, by omega, ⟨by omega⟩, rfl⟩
        case round =>
          obtain ⟨i, rfl, hi, HQ, rfl⟩ := hrel
          have d1 : (_ : Option Value) = some (.int .i64 (n : Int)) := (blk_cell (HS.out.blk 1 rfl) 0).trans rfl
          by_cases hlt : i < n
          · have d3 : (_ : Option Value) = some (.slice (some ⟨ba, 0, none⟩) n n) := (blk_cell (HS.out.blk 3 rfl) 0).trans rfl
            have b1 : (_ : Option Value) = some (.int .i64 (atZ g' i)) := (blk_cell (HS.out.blk 2 rfl) i).trans (ats_at g' hlt)
            have hgd : ZF.Good n g' := HS.out.get 0 rfl
            have hi5 : (i : Int) ≤ 200 := by omega
            have HC := Aside0.mk hlt
            obtain ⟨vs, hsl⟩ := HS.out.arr 5 rfl
            cases hon : g'.on i with
            | true =>
              have C := at_on hsl hlt hon
              have hx := hgd.pos i hlt hon
              rw [show atZ g' i = g'.xs.getD i 0 by unfold atZ; rw [if_pos hon]] at b1
              clear hon hgd hsl vs
              generalize g'.xs.getD i 0 = x at *
              have q1 : (x != 0) = true := bne_iff_ne.2 hx
              have q2 : (x != x) = false := by simp
              have C := Aside0.mk C
              clear hx
              go_wp2_with fail
              refine C.out.mono ?_
              clear C
              rintro e w5 ⟨rfl, rfl⟩
              go_wp2
              go_roundg (n - i)
              case measure => have := HQ.out; have := HC.out; omega
              case rel => exact ⟨i + 1, by go_num, by have := HC.out; omega, ⟨by omega⟩, rfl⟩
            | false =>
              have C := at_off hsl (i := (i : Int)) (.inr (.inr (by rw [Int.toNat_natCast]; exact hon)))
              rw [show atZ g' i = 0 by unfold atZ; rw [hon]; rfl] at b1
              clear hon hgd hsl vs
              have C := Aside0.mk C
              go_wp2_with fail
              refine C.out.mono ?_
              clear C
              rintro e w5 ⟨rfl, rfl⟩
              go_wp2
              go_roundg (n - i)
              case measure => have := HQ.out; have := HC.out; omega
              case rel => exact ⟨i + 1, by go_num, by have := HC.out; omega, ⟨by omega⟩, rfl⟩
          · obtain rfl : i = n := by omega
            clear hlt
            have C := Aside0.mk (awake_any _ (Kd.C_below HT.out HS.out.below))
            go_wp2_with fail
            refine C.out.mono ?_
            clear C
            rintro e w30 ⟨rfl, hb⟩
            replace HS := Aside0.mk (HS.out.step hb)
            clear hb
            go_wp2
            (try rw [Exit.noGoto_ret])
            go_ret
            exact ⟨rfl, HS.out.below⟩
      · obtain rfl : g' = g := by
          rcases HErr.out with h | h
          · exact absurd h hee
          · exact h
        have q9 : (ee == 0) = false := beq_eq_false_iff_ne.2 hee
        clear hee HErr
        have HS : Aside0 (Sep w w3 [FactO (ZF.Good n g'), S1.Blk bn #[.int .i64 (n : Int)] 3, S1.Blk ba (ats n g').toArray 3, S1.Blk bc #[.slice (some ⟨ba, 0, none⟩) n n] 22, S1.Blk br #[.bool true] 4, S1.Arr p sb ob wb n g', S1.Blk (w.heap.size + 1) #[.int .i64 a, .int .i64 k] 46, S1.Own (.slice A1 t c1) kk, S1.Blk w.heap.size #[.int .i64 s, .slice A l.length c] 24, S1.Own (.slice A2 t c2) v]) := ⟨by
          have h := HS.out
          unfold TF at h
          rw [HRun.out] at h
          exact h⟩
        have LC := Aside0.mk (fun m => Calls.quiet_of_same (n := m) (w := w3) ((cap_any ((HS.out.step (pw_below_drewN (Below.refl _ w3) m)).arr 5 rfl).choose_spec).mono fun _ _ ⟨he, hm⟩ => ⟨he, hm.symm⟩))
        have d1 : (_ : Option Value) = some (.int .i64 (n : Int)) := (blk_cell (HS.out.blk 1 rfl) 0).trans rfl
        have d4 : (_ : Option Value) = some (.bool true) := (blk_cell (HS.out.blk 4 rfl) 0).trans rfl
        go_wp2
        go_quiet ((go_at_call 28; exact LC.out _))
        clear LC d1 d4
        replace HS := Aside0.mk (HS.out.step (pw_below_drewN (Below.refl _ w3) nq))
        generalize w3.drewN nq = w4 at *
        go_wp2
        go_loopg [17] (n + 1) (fun kq v17 V => ∃ i : Nat, v17 = .int .i64 (i : Int) ∧ i ≤ n ∧ Aside0 (n + 1 - i ≤ kq) ∧ w4 = V)
        case atStart => exact ⟨0, rfl, by omega, ⟨by omega⟩, rfl⟩
        case round =>
          obtain ⟨i, rfl, hi, HQ, rfl⟩ := hrel
          have d1 : (_ : Option Value) = some (.int .i64 (n : Int)) := (blk_cell (HS.out.blk 1 rfl) 0).trans rfl
          by_cases hlt : i < n
          · have d3 : (_ : Option Value) = some (.slice (some ⟨ba, 0, none⟩) n n) := (blk_cell (HS.out.blk 3 rfl) 0).trans rfl
            have b1 : (_ : Option Value) = some (.int .i64 (atZ g' i)) := (blk_cell (HS.out.blk 2 rfl) i).trans (ats_at g' hlt)
            have hgd : ZF.Good n g' := HS.out.get 0 rfl
            have hi5 : (i : Int) ≤ 200 := by omega
            have HC := Aside0.mk hlt
            obtain ⟨vs, hsl⟩ := HS.out.arr 5 rfl
            cases hon : g'.on i with
            | true =>
              have C := at_on hsl hlt hon
              have hx := hgd.pos i hlt hon
              rw [show atZ g' i = g'.xs.getD i 0 by unfold atZ; rw [if_pos hon]] at b1
              clear hon hgd hsl vs
              generalize g'.xs.getD i 0 = x at *
              have q1 : (x != 0) = true := bne_iff_ne.2 hx
              have q2 : (x != x) = false := by simp
              have C := Aside0.mk C
              clear hx
              go_wp2_with fail
              refine C.out.mono ?_
              clear C
              rintro e w5 ⟨rfl, rfl⟩
              go_wp2
              go_roundg (n - i)
              case measure => have := HQ.out; have := HC.out; omega
              case rel => exact ⟨i + 1, by go_num, by have := HC.out; omega, ⟨by omega⟩, rfl⟩
            | false =>
              have C := at_off hsl (i := (i : Int)) (.inr (.inr (by rw [Int.toNat_natCast]; exact hon)))
              rw [show atZ g' i = 0 by unfold atZ; rw [hon]; rfl] at b1
              clear hon hgd hsl vs
              have C := Aside0.mk C
              go_wp2_with fail
              refine C.out.mono ?_
              clear C
              rintro e w5 ⟨rfl, rfl⟩
              go_wp2
              go_roundg (n - i)
              case measure => have := HQ.out; have := HC.out; omega
              case rel => exact ⟨i + 1, by go_num, by have := HC.out; omega, ⟨by omega⟩, rfl⟩
          · obtain rfl : i = n := by omega
            clear hlt
            obtain ⟨vs, hsl⟩ := HS.out.arr 5 rfl
            have C := places_any hsl (Kd.C_below HT.out HS.out.below)
            rw [HKK.out.1, HKK.out.2] at C
            have C := Aside0.mk C
            clear hsl vs
            go_wp2_with fail
            refine C.out.mono ?_
            clear C
            rintro e w6 ⟨A3, c3, rfl, g1, g2, g3, hb⟩
            replace HS := Aside0.mk (HS.out.step hb)
            obtain ⟨A', c', e', h1, h2⟩ := G9.own_C (HS.out.own 7 rfl)
            injection e' with e1 e2 e3
            subst e1
            subst e3
            rw [HL.out.1] at h1 h2
            have C := ints_any g2 g1 h2 h1 (by rw [HL.out.1]; have := HM.out; omega)
            rw [decide_eq_true rfl] at C
            have C := Aside0.mk C
            clear g1 g2 g3 hb h1 h2 e2
            go_wp2_with fail
            refine C.out.mono ?_
            clear C
            rintro e w7 ⟨rfl, hd⟩
            replace HS := Aside0.mk (HS.out.step hd.below)
            clear hd
            have C := Aside0.mk (awake_any _ (Kd.C_below HT.out HS.out.below))
            go_wp2_with fail
            refine C.out.mono ?_
            clear C
            rintro e w30 ⟨rfl, hb⟩
            replace HS := Aside0.mk (HS.out.step hb)
            clear hb
            go_wp2
            (try rw [Exit.noGoto_ret])
            go_ret
            exact ⟨rfl, HS.out.below⟩
set_option maxRecDepth 100000 in
set_option maxHeartbeats 4000000 in
theorem law_open_no (hT : Tb w) (hr : Kd.C (Kd.int .i64) w A l.length l) (hl : l.length ≤ 9223372036854775807) (hs : -9223372036854775808 ≤ s ∧ s ≤ 9223372036854775807) {a k d : Int} (hw : winB (nOf s) a 1 = false) (h0 : (d == 0) = false) (h1 : (d == 1) = false) (h2 : -1000 ≤ d) (h3 : d ≤ 9223372036854775807) :
    Calls Tryd.prog 5 #[.agg #[.int .i64 s, .slice A l.length c], .agg #[.int .i64 a, .int .i64 k], .int .i64 d] w fun e w' => e = .returned (.bool true) ∧ Below w.heap.size w w' := by
  have p9 : decide (d < -1000) = false := decide_eq_false (by omega)
  have HT := Aside0.mk hT
  have HS := Aside0.mk (((Sep.nil w).new_blk #[.int .i64 s, .slice A l.length c] 24).new_blk #[.int .i64 a, .int .i64 k] 46)
  simp only [World.size_alloc] at HS
  have C := Aside0.mk (made_any (c := c) (Kd.C_below hr HS.out.below) hl hs)
  have c0 : (_ : Option Value) = some (.int .i64 s) := (blk_cell (HS.out.blk 0 rfl) 0).trans rfl
  have c1 : (_ : Option Value) = some (.slice A l.length c) := (blk_cell (HS.out.blk 0 rfl) 1).trans rfl
  have hn := (nOf_le s).2.1
  have hg := G7_good s l
  generalize G7 s l = g at *
  generalize nOf s = n at *
  have HG := Aside0.mk hg
  have lv : (vals (ons g.on g.xs n)).length = cntF g.on n := by rw [vals, List.length_map, ons_length]
  have lk : (keys (ons g.on g.xs n)).length = cntF g.on n := by rw [keys, List.length_map, ons_length]
  clear hT hr hl hs hg
  go_enter Tryd.func5, Tryd.ntmps5
  go_wp2_with fail
  refine C.out.mono ?_
  clear C c0 c1
  rintro e w1 ⟨p, sb, ob, wb, r, lb, rfl, hs1⟩
  have HS : Aside0 (Sep w w1 [S1.Blk w.heap.size #[.int .i64 s, .slice A l.length c] 24, S1.Blk (w.heap.size + 1) #[.int .i64 a, .int .i64 k] 46, S1.Arr p sb ob wb n g]) := ⟨(HS.out.append hs1).take 3⟩
  clear hs1
  obtain ⟨vs, hs⟩ := HS.out.arr 2 rfl
  have C := Aside0.mk (cap_any hs)
  clear hs vs
  go_wp2_with fail
  refine C.out.mono ?_
  clear C
  rintro e wc ⟨rfl, rfl⟩
  have hmk := make_ints n (by omega)
  have HS : Aside0 (Sep w (((w1.alloc (.cells #[.int .i64 (n : Int)] 3)).alloc (.cells (nums .i64 (List.replicate n 0)).toArray 3)).alloc (.cells #[.slice (some ⟨w1.heap.size + 1, 0, none⟩) n n] 22)) [S1.Blk w.heap.size #[.int .i64 s, .slice A l.length c] 24, S1.Blk (w.heap.size + 1) #[.int .i64 a, .int .i64 k] 46, S1.Arr p sb ob wb n g, S1.Blk w1.heap.size #[.int .i64 (n : Int)] 3, S1.Blk (w1.heap.size + 1) (nums .i64 (List.replicate n 0)).toArray 3, S1.Blk (w1.heap.size + 1 + 1) #[.slice (some ⟨w1.heap.size + 1, 0, none⟩) n n] 22]) := ⟨by
    have h := ((HS.out.new_blk #[.int .i64 (n : Int)] 3).new_blk (nums .i64 (List.replicate n 0)).toArray 3).new_blk #[.slice (some ⟨w1.heap.size + 1, 0, none⟩) n n] 22
    simp only [World.size_alloc] at h
    exact h⟩
  have C := places_any (HS.out.arr 2 rfl).choose_spec (Kd.C_below HT.out HS.out.below)
  have C := Aside0.mk C
  go_wp2_with fail
  refine C.out.mono ?_
  clear C
  rintro e w2 ⟨A1, c1, rfl, g1, g2, g3, hb⟩
  rw [← lk] at g3
  replace HS := Aside0.mk (HS.out.new_own hb g3)
  clear g1 g2 g3 hb
  generalize hb1 : w1.heap.size = bn at *
  obtain ⟨ba, hb2⟩ : ∃ ba, bn + 1 = ba := ⟨_, rfl⟩
  rw [hb2] at HS ⊢
  obtain ⟨bc, hb3⟩ : ∃ bc, ba + 1 = bc := ⟨_, rfl⟩
  rw [hb3] at HS ⊢
  clear hb1 hb2 hb3 hmk
  have C := items_any (HS.out.arr 2 rfl).choose_spec (Kd.C_below HT.out HS.out.below)
  have C := Aside0.mk C
  go_wp2_with fail
  refine C.out.mono ?_
  clear C
  rintro e w3 ⟨A2, c2, rfl, g1, g2, g3, hb⟩
  rw [← lv] at g3
  replace HS := HS.out.new_own hb g3
  rw [lk, lv] at HS
  have HS := Aside0.mk HS
  clear g1 g2 g3 hb
  have HF := Aside0.mk (fill_ats (n := n) (g := g))
  have HK : Aside0 (∀ t, t < cntF g.on n → ∃ q : Nat, (keys (ons g.on g.xs n)).getD t 0 = (q : Int) ∧ q < n) := ⟨fun t ht => by
    obtain ⟨q, h1, h2, _⟩ := ons_at (f := g.on) (xs := g.xs) (n := n) (k := t) (by rw [ons_length]; exact ht)
    exact ⟨q, (keys_get h1).1, h2⟩⟩
  have HM : Aside0 (cntF g.on n ≤ 200) := ⟨Nat.le_trans (cntF_le _ _) hn⟩
  generalize hkk : keys (ons g.on g.xs n) = kk at *
  generalize hvv : vals (ons g.on g.xs n) = v at *
  generalize hmm : cntF g.on n = m at *
  have HL := Aside0.mk (And.intro lk lv)
  have HKK := Aside0.mk (And.intro hkk hmm)
  clear lk lv hkk hvv hmm
  go_wp2
  go_loopg [13] (m + 1) (fun kq v13 W => ∃ t : Nat, v13 = .int .i64 (t : Int) ∧ t ≤ m ∧ Aside0 (m + 1 - t ≤ kq) ∧ Aside0 (Sep w W [S1.Blk w.heap.size #[.int .i64 s, .slice A l.length c] 24, S1.Blk (w.heap.size + 1) #[.int .i64 a, .int .i64 k] 46, S1.Arr p sb ob wb n g, S1.Blk bn #[.int .i64 (n : Int)] 3, S1.Blk ba (nums .i64 (fillP n kk v t)).toArray 3, S1.Blk bc #[.slice (some ⟨ba, 0, none⟩) n n] 22, S1.Own (.slice A1 m c1) kk, S1.Own (.slice A2 m c2) v]))
  case atStart => exact ⟨0, rfl, by omega, ⟨by omega⟩, HS⟩
  case round =>
    clear HS
    obtain ⟨t, rfl, ht, HQ, HS⟩ := hrel
    by_cases hlt : t < m
    · obtain ⟨q, hq, hqn⟩ := HK.out t hlt
      have HC := Aside0.mk hlt
      have ht2 : (t : Int) ≤ 200 := by have := HM.out; omega
      obtain ⟨x, hxv⟩ : ∃ x, v.getD t 0 = x := ⟨_, rfl⟩
      obtain ⟨ad1, rfl⟩ : ∃ ad, A1 = some ad := by
        obtain ⟨A', c', e', _, h2⟩ := G9.own_C (HS.out.own 6 rfl)
        injection e' with e1 e2 e3
        subst e1
        rw [HL.out.1] at h2
        obtain ⟨ad, e, hx⟩ := Kd.at_int h2 (t : Int) (by omega) (by omega)
        exact ⟨ad, e⟩
      obtain ⟨ad2, rfl⟩ : ∃ ad, A2 = some ad := by
        obtain ⟨A', c', e', _, h2⟩ := G9.own_C (HS.out.own 7 rfl)
        injection e' with e1 e2 e3
        subst e1
        rw [HL.out.2] at h2
        obtain ⟨ad, e, hx⟩ := Kd.at_int h2 (t : Int) (by omega) (by omega)
        exact ⟨ad, e⟩
      have d1 : (_ : Option Value) = some (.int .i64 (n : Int)) := (blk_cell (HS.out.blk 3 rfl) 0).trans rfl
      have d3 : (_ : Option Value) = some (.slice (some ⟨ba, 0, none⟩) n n) := (blk_cell (HS.out.blk 5 rfl) 0).trans rfl
      have f1 := blk_frozen (HS.out.blk 4 rfl) q
      obtain ⟨zq, b1⟩ : ∃ z, (wr).cell? ⟨ba, q, none⟩ = some (.int .i64 z) := ⟨_, (blk_cell (HS.out.blk 4 rfl) q).trans (show (nums .i64 (fillP n kk v t)).toArray[q]? = some (.int .i64 ((fillP n kk v t).getD q 0)) by simp [nums, fill_len, hqn])⟩
      have hx : (wr).cell? (ad1.add t) = some (.int .i64 (q : Int)) := by
        obtain ⟨A', c', e', _, h2⟩ := G9.own_C (HS.out.own 6 rfl)
        injection e' with e1 e2 e3
        subst e1
        rw [HL.out.1] at h2
        obtain ⟨ad, e, hx⟩ := Kd.at_int h2 (t : Int) (by omega) (by have := HC.out; omega)
        rw [Int.toNat_natCast, show rd kk (t : Int) = kk.getD t 0 from rfl, hq] at hx
        cases e
        exact hx
      have hy : (wr).cell? (ad2.add t) = some (.int .i64 x) := by
        obtain ⟨A', c', e', _, h2⟩ := G9.own_C (HS.out.own 7 rfl)
        injection e' with e1 e2 e3
        subst e1
        rw [HL.out.2] at h2
        obtain ⟨ad, e, hx⟩ := Kd.at_int h2 (t : Int) (by omega) (by have := HC.out; omega)
        rw [Int.toNat_natCast, show rd v (t : Int) = v.getD t 0 from rfl, hxv] at hx
        cases e
        exact hx
      have p0 : decide ((q : Int) < 0) = false := decide_eq_false (by omega)
      have p1 : decide (n ≤ q) = false := decide_eq_false (by omega)
      go_wp2
      go_quiet (fail)
      clear d1 d3 hx hy b1 f1
      replace HS := Aside0.mk (HS.out.step (pw_below_drewN (Below.refl _ wr) nq))
      generalize wr.drewN nq = w5 at *
      have d1 : (_ : Option Value) = some (.int .i64 (n : Int)) := (blk_cell (HS.out.blk 3 rfl) 0).trans rfl
      have d3 : (_ : Option Value) = some (.slice (some ⟨ba, 0, none⟩) n n) := (blk_cell (HS.out.blk 5 rfl) 0).trans rfl
      have f1 := blk_frozen (HS.out.blk 4 rfl) q
      obtain ⟨zq, b1⟩ : ∃ z, (w5).cell? ⟨ba, q, none⟩ = some (.int .i64 z) := ⟨_, (blk_cell (HS.out.blk 4 rfl) q).trans (show (nums .i64 (fillP n kk v t)).toArray[q]? = some (.int .i64 ((fillP n kk v t).getD q 0)) by simp [nums, fill_len, hqn])⟩
      have hx : (w5).cell? (ad1.add t) = some (.int .i64 (q : Int)) := by
        obtain ⟨A', c', e', _, h2⟩ := G9.own_C (HS.out.own 6 rfl)
        injection e' with e1 e2 e3
        subst e1
        rw [HL.out.1] at h2
        obtain ⟨ad, e, hx⟩ := Kd.at_int h2 (t : Int) (by omega) (by have := HC.out; omega)
        rw [Int.toNat_natCast, show rd kk (t : Int) = kk.getD t 0 from rfl, hq] at hx
        cases e
        exact hx
      have hy : (w5).cell? (ad2.add t) = some (.int .i64 x) := by
        obtain ⟨A', c', e', _, h2⟩ := G9.own_C (HS.out.own 7 rfl)
        injection e' with e1 e2 e3
        subst e1
        rw [HL.out.2] at h2
        obtain ⟨ad, e, hx⟩ := Kd.at_int h2 (t : Int) (by omega) (by have := HC.out; omega)
        rw [Int.toNat_natCast, show rd v (t : Int) = v.getD t 0 from rfl, hxv] at hx
        cases e
        exact hx
      go_wp2
      go_still_tail 10, (by kernel_rfl)
      change wpList _ _ _ _ _ w5.drew
      clear d1 d3 hx hy b1 f1
      replace HS := Aside0.mk (HS.out.step (below_drew (Below.refl _ w5)))
      generalize w5.drew = w6 at *
      have d1 : (_ : Option Value) = some (.int .i64 (n : Int)) := (blk_cell (HS.out.blk 3 rfl) 0).trans rfl
      have d3 : (_ : Option Value) = some (.slice (some ⟨ba, 0, none⟩) n n) := (blk_cell (HS.out.blk 5 rfl) 0).trans rfl
      have f1 := blk_frozen (HS.out.blk 4 rfl) q
      obtain ⟨zq, b1⟩ : ∃ z, (w6).cell? ⟨ba, q, none⟩ = some (.int .i64 z) := ⟨_, (blk_cell (HS.out.blk 4 rfl) q).trans (show (nums .i64 (fillP n kk v t)).toArray[q]? = some (.int .i64 ((fillP n kk v t).getD q 0)) by simp [nums, fill_len, hqn])⟩
      have hx : (w6).cell? (ad1.add t) = some (.int .i64 (q : Int)) := by
        obtain ⟨A', c', e', _, h2⟩ := G9.own_C (HS.out.own 6 rfl)
        injection e' with e1 e2 e3
        subst e1
        rw [HL.out.1] at h2
        obtain ⟨ad, e, hx⟩ := Kd.at_int h2 (t : Int) (by omega) (by have := HC.out; omega)
        rw [Int.toNat_natCast, show rd kk (t : Int) = kk.getD t 0 from rfl, hq] at hx
        cases e
        exact hx
      have hy : (w6).cell? (ad2.add t) = some (.int .i64 x) := by
        obtain ⟨A', c', e', _, h2⟩ := G9.own_C (HS.out.own 7 rfl)
        injection e' with e1 e2 e3
        subst e1
        rw [HL.out.2] at h2
        obtain ⟨ad, e, hx⟩ := Kd.at_int h2 (t : Int) (by omega) (by have := HC.out; omega)
        rw [Int.toNat_natCast, show rd v (t : Int) = v.getD t 0 from rfl, hxv] at hx
        cases e
        exact hx
      have HS2 := HS.out.turn_blk 4 rfl q (.int .i64 x)
      rw [nums_set, show (fillP n kk v t).set q x = fillP n kk v (t + 1) by show _ = (fillP n kk v t).set (kk.getD t 0).toNat (v.getD t 0); rw [hq, Int.toNat_natCast, hxv]] at HS2
      have HS2 := Aside0.mk HS2
      clear hq hxv
      go_wp2
      go_roundg (m - t)
      case measure => have := HQ.out; have := HC.out; omega
      case rel => exact ⟨t + 1, by go_num, by have := HC.out; omega, ⟨by omega⟩, HS2⟩
    · obtain rfl : t = m := by omega
      rw [HF.out] at HS
      obtain ⟨br, hbr⟩ : ∃ br, wr.heap.size = br := ⟨_, rfl⟩
      have HS : Aside0 (Sep w (wr.alloc (.cells #[.bool true] 4)) (TF n g bn ba bc br () [] ++ (S1.Arr p sb ob wb n g :: [S1.Blk (w.heap.size + 1) #[.int .i64 a, .int .i64 k] 46, S1.Own (.slice A1 t c1) kk, S1.Blk w.heap.size #[.int .i64 s, .slice A l.length c] 24, S1.Own (.slice A2 t c2) v]))) := ⟨by
        have h := (HS.out.new_blk #[.bool true] 4).push (Below.refl _ _) (FactO (ZF.Good n g)) HG.out (fun k hk => by cases hk)
        rw [hbr] at h
        exact h.perm perm10⟩
      have d0 : (_ : Option Value) = some (.int .i64 a) := (blk_cell (HS.out.blk 6 rfl) 0).trans rfl
      have d1 : (_ : Option Value) = some (.int .i64 k) := (blk_cell (HS.out.blk 6 rfl) 1).trans rfl
      obtain ⟨hnn⟩ : Aside0 (n ≤ 100000) := ⟨by omega⟩
      have hc : ¬ t < t := by omega
      clear hlt ht HQ HF HK hnn
      have HRun : Aside0 (runM n g [] = g) := ⟨rfl⟩
      have C := Aside0.mk (open_no (s := ()) (T := TF n g bn ba bc br) (tv := fnF bn bc br) HS.out hw (d - 2) (.inr ⟨_, _, rfl⟩))
      clear hw
      go_wp2_with fail
      refine C.out.mono ?_
      clear C d0 d1 hbr
      rintro e w3 ⟨rfl, _, _, hs3⟩
      replace HS := Aside0.mk hs3
      clear hs3
      have HS : Aside0 (Sep w w3 [FactO (ZF.Good n g), S1.Blk bn #[.int .i64 (n : Int)] 3, S1.Blk ba (ats n g).toArray 3, S1.Blk bc #[.slice (some ⟨ba, 0, none⟩) n n] 22, S1.Blk br #[.bool true] 4, S1.Arr p sb ob wb n g, S1.Blk (w.heap.size + 1) #[.int .i64 a, .int .i64 k] 46, S1.Own (.slice A1 t c1) kk, S1.Blk w.heap.size #[.int .i64 s, .slice A l.length c] 24, S1.Own (.slice A2 t c2) v]) := ⟨by
        have h := HS.out
        unfold TF at h
        rw [HRun.out] at h
        exact h⟩
      have LC := Aside0.mk (fun m => Calls.quiet_of_same (n := m) (w := w3) ((cap_any ((HS.out.step (pw_below_drewN (Below.refl _ w3) m)).arr 5 rfl).choose_spec).mono fun _ _ ⟨he, hm⟩ => ⟨he, hm.symm⟩))
      have d1 : (_ : Option Value) = some (.int .i64 (n : Int)) := (blk_cell (HS.out.blk 1 rfl) 0).trans rfl
      have d4 : (_ : Option Value) = some (.bool true) := (blk_cell (HS.out.blk 4 rfl) 0).trans rfl
      go_wp2
      go_quiet ((go_at_call 28; exact LC.out _))
      clear LC d1 d4
      replace HS := Aside0.mk (HS.out.step (pw_below_drewN (Below.refl _ w3) nq))
      generalize w3.drewN nq = w4 at *
      go_wp2
      go_loopg [17] (n + 1) (fun kq v17 V => ∃ i : Nat, v17 = .int .i64 (i : Int) ∧ i ≤ n ∧ Aside0 (n + 1 - i ≤ kq) ∧ w4 = V)
      case atStart => exact ⟨0, rfl, by omega, ⟨by omega⟩, rfl⟩
      case round =>
        obtain ⟨i, rfl, hi, HQ, rfl⟩ := hrel
        have d1 : (_ : Option Value) = some (.int .i64 (n : Int)) := (blk_cell (HS.out.blk 1 rfl) 0).trans rfl
        by_cases hlt : i < n
        · have d3 : (_ : Option Value) = some (.slice (some ⟨ba, 0, none⟩) n n) := (blk_cell (HS.out.blk 3 rfl) 0).trans rfl
          have b1 : (_ : Option Value) = some (.int .i64 (atZ g i)) := (blk_cell (HS.out.blk 2 rfl) i).trans (ats_at g hlt)
          have hgd : ZF.Good n g := HS.out.get 0 rfl
          have hi5 : (i : Int) ≤ 200 := by omega
          have HC := Aside0.mk hlt
          obtain ⟨vs, hsl⟩ := HS.out.arr 5 rfl
          cases hon : g.on i with
          | true =>
            have C := at_on hsl hlt hon
            have hx := hgd.pos i hlt hon
            rw [show atZ g i = g.xs.getD i 0 by unfold atZ; rw [if_pos hon]] at b1
            clear hon hgd hsl vs
            generalize g.xs.getD i 0 = x at *
            have q1 : (x != 0) = true := bne_iff_ne.2 hx
            have q2 : (x != x) = false := by simp
            have C := Aside0.mk C
            clear hx
            go_wp2_with fail
            refine C.out.mono ?_
            clear C
            rintro e w5 ⟨rfl, rfl⟩
            go_wp2
            go_roundg (n - i)
            case measure => have := HQ.out; have := HC.out; omega
            case rel => exact ⟨i + 1, by go_num, by have := HC.out; omega, ⟨by omega⟩, rfl⟩
          | false =>
            have C := at_off hsl (i := (i : Int)) (.inr (.inr (by rw [Int.toNat_natCast]; exact hon)))
            rw [show atZ g i = 0 by unfold atZ; rw [hon]; rfl] at b1
            clear hon hgd hsl vs
            have C := Aside0.mk C
            go_wp2_with fail
            refine C.out.mono ?_
            clear C
            rintro e w5 ⟨rfl, rfl⟩
            go_wp2
            go_roundg (n - i)
            case measure => have := HQ.out; have := HC.out; omega
            case rel => exact ⟨i + 1, by go_num, by have := HC.out; omega, ⟨by omega⟩, rfl⟩
        · obtain rfl : i = n := by omega
          clear hlt
          obtain ⟨vs, hsl⟩ := HS.out.arr 5 rfl
          have C := places_any hsl (Kd.C_below HT.out HS.out.below)
          rw [HKK.out.1, HKK.out.2] at C
          have C := Aside0.mk C
          clear hsl vs
          go_wp2_with fail
          refine C.out.mono ?_
          clear C
          rintro e w6 ⟨A3, c3, rfl, g1, g2, g3, hb⟩
          replace HS := Aside0.mk (HS.out.step hb)
          obtain ⟨A', c', e', h1, h2⟩ := G9.own_C (HS.out.own 7 rfl)
          injection e' with e1 e2 e3
          subst e1
          subst e3
          rw [HL.out.1] at h1 h2
          have C := ints_any g2 g1 h2 h1 (by rw [HL.out.1]; have := HM.out; omega)
          rw [decide_eq_true rfl] at C
          have C := Aside0.mk C
          clear g1 g2 g3 hb h1 h2 e2
          go_wp2_with fail
          refine C.out.mono ?_
          clear C
          rintro e w7 ⟨rfl, hd⟩
          replace HS := Aside0.mk (HS.out.step hd.below)
          clear hd
          have C := Aside0.mk (awake_any _ (Kd.C_below HT.out HS.out.below))
          go_wp2_with fail
          refine C.out.mono ?_
          clear C
          rintro e w30 ⟨rfl, hb⟩
          replace HS := Aside0.mk (HS.out.step hb)
          clear hb
          go_wp2
          (try rw [Exit.noGoto_ret])
          go_ret
          exact ⟨rfl, HS.out.below⟩
set_option maxRecDepth 100000 in
set_option maxHeartbeats 4000000 in
theorem law_open_nolow (hT : Tb w) (hr : Kd.C (Kd.int .i64) w A l.length l) (hl : l.length ≤ 9223372036854775807) (hs : -9223372036854775808 ≤ s ∧ s ≤ 9223372036854775807) {a k d : Int} (hw : winB (nOf s) a 1 = false) (h0 : (d == 0) = false) (h1 : (d == 1) = false) (h2 : d < -1000) :
    Calls Tryd.prog 5 #[.agg #[.int .i64 s, .slice A l.length c], .agg #[.int .i64 a, .int .i64 k], .int .i64 d] w fun e w' => e = .returned (.bool true) ∧ Below w.heap.size w w' := by
  have HT := Aside0.mk hT
  have HS := Aside0.mk (((Sep.nil w).new_blk #[.int .i64 s, .slice A l.length c] 24).new_blk #[.int .i64 a, .int .i64 k] 46)
  simp only [World.size_alloc] at HS
  have C := Aside0.mk (made_any (c := c) (Kd.C_below hr HS.out.below) hl hs)
  have c0 : (_ : Option Value) = some (.int .i64 s) := (blk_cell (HS.out.blk 0 rfl) 0).trans rfl
  have c1 : (_ : Option Value) = some (.slice A l.length c) := (blk_cell (HS.out.blk 0 rfl) 1).trans rfl
  have hn := (nOf_le s).2.1
  have hg := G7_good s l
  generalize G7 s l = g at *
  generalize nOf s = n at *
  have HG := Aside0.mk hg
  have lv : (vals (ons g.on g.xs n)).length = cntF g.on n := by rw [vals, List.length_map, ons_length]
  have lk : (keys (ons g.on g.xs n)).length = cntF g.on n := by rw [keys, List.length_map, ons_length]
  clear hT hr hl hs hg
  go_enter Tryd.func5, Tryd.ntmps5
  go_wp2_with fail
  refine C.out.mono ?_
  clear C c0 c1
  rintro e w1 ⟨p, sb, ob, wb, r, lb, rfl, hs1⟩
  have HS : Aside0 (Sep w w1 [S1.Blk w.heap.size #[.int .i64 s, .slice A l.length c] 24, S1.Blk (w.heap.size + 1) #[.int .i64 a, .int .i64 k] 46, S1.Arr p sb ob wb n g]) := ⟨(HS.out.append hs1).take 3⟩
  clear hs1
  obtain ⟨vs, hs⟩ := HS.out.arr 2 rfl
  have C := Aside0.mk (cap_any hs)
  clear hs vs
  go_wp2_with fail
  refine C.out.mono ?_
  clear C
  rintro e wc ⟨rfl, rfl⟩
  have hmk := make_ints n (by omega)
  have HS : Aside0 (Sep w (((w1.alloc (.cells #[.int .i64 (n : Int)] 3)).alloc (.cells (nums .i64 (List.replicate n 0)).toArray 3)).alloc (.cells #[.slice (some ⟨w1.heap.size + 1, 0, none⟩) n n] 22)) [S1.Blk w.heap.size #[.int .i64 s, .slice A l.length c] 24, S1.Blk (w.heap.size + 1) #[.int .i64 a, .int .i64 k] 46, S1.Arr p sb ob wb n g, S1.Blk w1.heap.size #[.int .i64 (n : Int)] 3, S1.Blk (w1.heap.size + 1) (nums .i64 (List.replicate n 0)).toArray 3, S1.Blk (w1.heap.size + 1 + 1) #[.slice (some ⟨w1.heap.size + 1, 0, none⟩) n n] 22]) := ⟨by
    have h := ((HS.out.new_blk #[.int .i64 (n : Int)] 3).new_blk (nums .i64 (List.replicate n 0)).toArray 3).new_blk #[.slice (some ⟨w1.heap.size + 1, 0, none⟩) n n] 22
    simp only [World.size_alloc] at h
    exact h⟩
  have C := places_any (HS.out.arr 2 rfl).choose_spec (Kd.C_below HT.out HS.out.below)
  have C := Aside0.mk C
  go_wp2_with fail
  refine C.out.mono ?_
  clear C
  rintro e w2 ⟨A1, c1, rfl, g1, g2, g3, hb⟩
  rw [← lk] at g3
  replace HS := Aside0.mk (HS.out.new_own hb g3)
  clear g1 g2 g3 hb
  generalize hb1 : w1.heap.size = bn at *
  obtain ⟨ba, hb2⟩ : ∃ ba, bn + 1 = ba := ⟨_, rfl⟩
  rw [hb2] at HS ⊢
  obtain ⟨bc, hb3⟩ : ∃ bc, ba + 1 = bc := ⟨_, rfl⟩
  rw [hb3] at HS ⊢
  clear hb1 hb2 hb3 hmk
  have C := items_any (HS.out.arr 2 rfl).choose_spec (Kd.C_below HT.out HS.out.below)
  have C := Aside0.mk C
  go_wp2_with fail
  refine C.out.mono ?_
  clear C
  rintro e w3 ⟨A2, c2, rfl, g1, g2, g3, hb⟩
  rw [← lv] at g3
  replace HS := HS.out.new_own hb g3
  rw [lk, lv] at HS
  have HS := Aside0.mk HS
  clear g1 g2 g3 hb
  have HF := Aside0.mk (fill_ats (n := n) (g := g))
  have HK : Aside0 (∀ t, t < cntF g.on n → ∃ q : Nat, (keys (ons g.on g.xs n)).getD t 0 = (q : Int) ∧ q < n) := ⟨fun t ht => by
    obtain ⟨q, h1, h2, _⟩ := ons_at (f := g.on) (xs := g.xs) (n := n) (k := t) (by rw [ons_length]; exact ht)
    exact ⟨q, (keys_get h1).1, h2⟩⟩
  have HM : Aside0 (cntF g.on n ≤ 200) := ⟨Nat.le_trans (cntF_le _ _) hn⟩
  generalize hkk : keys (ons g.on g.xs n) = kk at *
  generalize hvv : vals (ons g.on g.xs n) = v at *
  generalize hmm : cntF g.on n = m at *
  have HL := Aside0.mk (And.intro lk lv)
  have HKK := Aside0.mk (And.intro hkk hmm)
  clear lk lv hkk hvv hmm
  go_wp2
  go_loopg [13] (m + 1) (fun kq v13 W => ∃ t : Nat, v13 = .int .i64 (t : Int) ∧ t ≤ m ∧ Aside0 (m + 1 - t ≤ kq) ∧ Aside0 (Sep w W [S1.Blk w.heap.size #[.int .i64 s, .slice A l.length c] 24, S1.Blk (w.heap.size + 1) #[.int .i64 a, .int .i64 k] 46, S1.Arr p sb ob wb n g, S1.Blk bn #[.int .i64 (n : Int)] 3, S1.Blk ba (nums .i64 (fillP n kk v t)).toArray 3, S1.Blk bc #[.slice (some ⟨ba, 0, none⟩) n n] 22, S1.Own (.slice A1 m c1) kk, S1.Own (.slice A2 m c2) v]))
  case atStart => exact ⟨0, rfl, by omega, ⟨by omega⟩, HS⟩
  case round =>
    clear HS
    obtain ⟨t, rfl, ht, HQ, HS⟩ := hrel
    by_cases hlt : t < m
    · obtain ⟨q, hq, hqn⟩ := HK.out t hlt
      have HC := Aside0.mk hlt
      have ht2 : (t : Int) ≤ 200 := by have := HM.out; omega
      obtain ⟨x, hxv⟩ : ∃ x, v.getD t 0 = x := ⟨_, rfl⟩
      obtain ⟨ad1, rfl⟩ : ∃ ad, A1 = some ad := by
        obtain ⟨A', c', e', _, h2⟩ := G9.own_C (HS.out.own 6 rfl)
        injection e' with e1 e2 e3
        subst e1
        rw [HL.out.1] at h2
        obtain ⟨ad, e, hx⟩ := Kd.at_int h2 (t : Int) (by omega) (by omega)
        exact ⟨ad, e⟩
      obtain ⟨ad2, rfl⟩ : ∃ ad, A2 = some ad := by
        obtain ⟨A', c', e', _, h2⟩ := G9.own_C (HS.out.own 7 rfl)
        injection e' with e1 e2 e3
        subst e1
        rw [HL.out.2] at h2
        obtain ⟨ad, e, hx⟩ := Kd.at_int h2 (t : Int) (by omega) (by omega)
        exact ⟨ad, e⟩
      have d1 : (_ : Option Value) = some (.int .i64 (n : Int)) := (blk_cell (HS.out.blk 3 rfl) 0).trans rfl
      have d3 : (_ : Option Value) = some (.slice (some ⟨ba, 0, none⟩) n n) := (blk_cell (HS.out.blk 5 rfl) 0).trans rfl
      have f1 := blk_frozen (HS.out.blk 4 rfl) q
      obtain ⟨zq, b1⟩ : ∃ z, (wr).cell? ⟨ba, q, none⟩ = some (.int .i64 z) := ⟨_, (blk_cell (HS.out.blk 4 rfl) q).trans (show (nums .i64 (fillP n kk v t)).toArray[q]? = some (.int .i64 ((fillP n kk v t).getD q 0)) by simp [nums, fill_len, hqn])⟩
      have hx : (wr).cell? (ad1.add t) = some (.int .i64 (q : Int)) := by
        obtain ⟨A', c', e', _, h2⟩ := G9.own_C (HS.out.own 6 rfl)
        injection e' with e1 e2 e3
        subst e1
        rw [HL.out.1] at h2
        obtain ⟨ad, e, hx⟩ := Kd.at_int h2 (t : Int) (by omega) (by have := HC.out; omega)
        rw [Int.toNat_natCast, show rd kk (t : Int) = kk.getD t 0 from rfl, hq] at hx
        cases e
        exact hx
      have hy : (wr).cell? (ad2.add t) = some (.int .i64 x) := by
        obtain ⟨A', c', e', _, h2⟩ := G9.own_C (HS.out.own 7 rfl)
        injection e' with e1 e2 e3
        subst e1
        rw [HL.out.2] at h2
        obtain ⟨ad, e, hx⟩ := Kd.at_int h2 (t : Int) (by omega) (by have := HC.out; omega)
        rw [Int.toNat_natCast, show rd v (t : Int) = v.getD t 0 from rfl, hxv] at hx
        cases e
        exact hx
      have p0 : decide ((q : Int) < 0) = false := decide_eq_false (by omega)
      have p1 : decide (n ≤ q) = false := decide_eq_false (by omega)
      go_wp2
      go_quiet (fail)
      clear d1 d3 hx hy b1 f1
      replace HS := Aside0.mk (HS.out.step (pw_below_drewN (Below.refl _ wr) nq))
      generalize wr.drewN nq = w5 at *
      have d1 : (_ : Option Value) = some (.int .i64 (n : Int)) := (blk_cell (HS.out.blk 3 rfl) 0).trans rfl
      have d3 : (_ : Option Value) = some (.slice (some ⟨ba, 0, none⟩) n n) := (blk_cell (HS.out.blk 5 rfl) 0).trans rfl
      have f1 := blk_frozen (HS.out.blk 4 rfl) q
      obtain ⟨zq, b1⟩ : ∃ z, (w5).cell? ⟨ba, q, none⟩ = some (.int .i64 z) := ⟨_, (blk_cell (HS.out.blk 4 rfl) q).trans (show (nums .i64 (fillP n kk v t)).toArray[q]? = some (.int .i64 ((fillP n kk v t).getD q 0)) by simp [nums, fill_len, hqn])⟩
      have hx : (w5).cell? (ad1.add t) = some (.int .i64 (q : Int)) := by
        obtain ⟨A', c', e', _, h2⟩ := G9.own_C (HS.out.own 6 rfl)
        injection e' with e1 e2 e3
        subst e1
        rw [HL.out.1] at h2
        obtain ⟨ad, e, hx⟩ := Kd.at_int h2 (t : Int) (by omega) (by have := HC.out; omega)
        rw [Int.toNat_natCast, show rd kk (t : Int) = kk.getD t 0 from rfl, hq] at hx
        cases e
        exact hx
      have hy : (w5).cell? (ad2.add t) = some (.int .i64 x) := by
        obtain ⟨A', c', e', _, h2⟩ := G9.own_C (HS.out.own 7 rfl)
        injection e' with e1 e2 e3
        subst e1
        rw [HL.out.2] at h2
        obtain ⟨ad, e, hx⟩ := Kd.at_int h2 (t : Int) (by omega) (by have := HC.out; omega)
        rw [Int.toNat_natCast, show rd v (t : Int) = v.getD t 0 from rfl, hxv] at hx
        cases e
        exact hx
      go_wp2
      go_still_tail 10, (by kernel_rfl)
      change wpList _ _ _ _ _ w5.drew
      clear d1 d3 hx hy b1 f1
      replace HS := Aside0.mk (HS.out.step (below_drew (Below.refl _ w5)))
      generalize w5.drew = w6 at *
      have d1 : (_ : Option Value) = some (.int .i64 (n : Int)) := (blk_cell (HS.out.blk 3 rfl) 0).trans rfl
      have d3 : (_ : Option Value) = some (.slice (some ⟨ba, 0, none⟩) n n) := (blk_cell (HS.out.blk 5 rfl) 0).trans rfl
      have f1 := blk_frozen (HS.out.blk 4 rfl) q
      obtain ⟨zq, b1⟩ : ∃ z, (w6).cell? ⟨ba, q, none⟩ = some (.int .i64 z) := ⟨_, (blk_cell (HS.out.blk 4 rfl) q).trans (show (nums .i64 (fillP n kk v t)).toArray[q]? = some (.int .i64 ((fillP n kk v t).getD q 0)) by simp [nums, fill_len, hqn])⟩
      have hx : (w6).cell? (ad1.add t) = some (.int .i64 (q : Int)) := by
        obtain ⟨A', c', e', _, h2⟩ := G9.own_C (HS.out.own 6 rfl)
        injection e' with e1 e2 e3
        subst e1
        rw [HL.out.1] at h2
        obtain ⟨ad, e, hx⟩ := Kd.at_int h2 (t : Int) (by omega) (by have := HC.out; omega)
        rw [Int.toNat_natCast, show rd kk (t : Int) = kk.getD t 0 from rfl, hq] at hx
        cases e
        exact hx
      have hy : (w6).cell? (ad2.add t) = some (.int .i64 x) := by
        obtain ⟨A', c', e', _, h2⟩ := G9.own_C (HS.out.own 7 rfl)
        injection e' with e1 e2 e3
        subst e1
        rw [HL.out.2] at h2
        obtain ⟨ad, e, hx⟩ := Kd.at_int h2 (t : Int) (by omega) (by have := HC.out; omega)
        rw [Int.toNat_natCast, show rd v (t : Int) = v.getD t 0 from rfl, hxv] at hx
        cases e
        exact hx
      have HS2 := HS.out.turn_blk 4 rfl q (.int .i64 x)
      rw [nums_set, show (fillP n kk v t).set q x = fillP n kk v (t + 1) by show _ = (fillP n kk v t).set (kk.getD t 0).toNat (v.getD t 0); rw [hq, Int.toNat_natCast, hxv]] at HS2
      have HS2 := Aside0.mk HS2
      clear hq hxv
      go_wp2
      go_roundg (m - t)
      case measure => have := HQ.out; have := HC.out; omega
      case rel => exact ⟨t + 1, by go_num, by have := HC.out; omega, ⟨by omega⟩, HS2⟩
    · obtain rfl : t = m := by omega
      rw [HF.out] at HS
      obtain ⟨br, hbr⟩ : ∃ br, wr.heap.size = br := ⟨_, rfl⟩
      have HS : Aside0 (Sep w (wr.alloc (.cells #[.bool true] 4)) (TF n g bn ba bc br () [] ++ (S1.Arr p sb ob wb n g :: [S1.Blk (w.heap.size + 1) #[.int .i64 a, .int .i64 k] 46, S1.Own (.slice A1 t c1) kk, S1.Blk w.heap.size #[.int .i64 s, .slice A l.length c] 24, S1.Own (.slice A2 t c2) v]))) := ⟨by
        have h := (HS.out.new_blk #[.bool true] 4).push (Below.refl _ _) (FactO (ZF.Good n g)) HG.out (fun k hk => by cases hk)
        rw [hbr] at h
        exact h.perm perm10⟩
      have d0 : (_ : Option Value) = some (.int .i64 a) := (blk_cell (HS.out.blk 6 rfl) 0).trans rfl
      have d1 : (_ : Option Value) = some (.int .i64 k) := (blk_cell (HS.out.blk 6 rfl) 1).trans rfl
      obtain ⟨hnn⟩ : Aside0 (n ≤ 100000) := ⟨by omega⟩
      have hc : ¬ t < t := by omega
      clear hlt ht HQ HF HK hnn
      have HRun : Aside0 (runM n g [] = g) := ⟨rfl⟩
      have C := Aside0.mk (open_no (s := ()) (T := TF n g bn ba bc br) (tv := fnF bn bc br) HS.out hw (-1002) (.inr ⟨_, _, rfl⟩))
      clear hw
      go_wp2_with fail
      refine C.out.mono ?_
      clear C d0 d1 hbr
      rintro e w3 ⟨rfl, _, _, hs3⟩
      replace HS := Aside0.mk hs3
      clear hs3
      have HS : Aside0 (Sep w w3 [FactO (ZF.Good n g), S1.Blk bn #[.int .i64 (n : Int)] 3, S1.Blk ba (ats n g).toArray 3, S1.Blk bc #[.slice (some ⟨ba, 0, none⟩) n n] 22, S1.Blk br #[.bool true] 4, S1.Arr p sb ob wb n g, S1.Blk (w.heap.size + 1) #[.int .i64 a, .int .i64 k] 46, S1.Own (.slice A1 t c1) kk, S1.Blk w.heap.size #[.int .i64 s, .slice A l.length c] 24, S1.Own (.slice A2 t c2) v]) := ⟨by
        have h := HS.out
        unfold TF at h
        rw [HRun.out] at h
        exact h⟩
      have LC := Aside0.mk (fun m => Calls.quiet_of_same (n := m) (w := w3) ((cap_any ((HS.out.step (pw_below_drewN (Below.refl _ w3) m)).arr 5 rfl).choose_spec).mono fun _ _ ⟨he, hm⟩ => ⟨he, hm.symm⟩))
      have d1 : (_ : Option Value) = some (.int .i64 (n : Int)) := (blk_cell (HS.out.blk 1 rfl) 0).trans rfl
      have d4 : (_ : Option Value) = some (.bool true) := (blk_cell (HS.out.blk 4 rfl) 0).trans rfl
      go_wp2
      go_quiet ((go_at_call 28; exact LC.out _))
      clear LC d1 d4
      replace HS := Aside0.mk (HS.out.step (pw_below_drewN (Below.refl _ w3) nq))
      generalize w3.drewN nq = w4 at *
      go_wp2
      go_loopg [17] (n + 1) (fun kq v17 V => ∃ i : Nat, v17 = .int .i64 (i : Int) ∧ i ≤ n ∧ Aside0 (n + 1 - i ≤ kq) ∧ w4 = V)
      case atStart => exact ⟨0, rfl, by omega, ⟨by omega⟩, rfl⟩
      case round =>
        obtain ⟨i, rfl, hi, HQ, rfl⟩ := hrel
        have d1 : (_ : Option Value) = some (.int .i64 (n : Int)) := (blk_cell (HS.out.blk 1 rfl) 0).trans rfl
        by_cases hlt : i < n
        · have d3 : (_ : Option Value) = some (.slice (some ⟨ba, 0, none⟩) n n) := (blk_cell (HS.out.blk 3 rfl) 0).trans rfl
          have b1 : (_ : Option Value) = some (.int .i64 (atZ g i)) := (blk_cell (HS.out.blk 2 rfl) i).trans (ats_at g hlt)
          have hgd : ZF.Good n g := HS.out.get 0 rfl
          have hi5 : (i : Int) ≤ 200 := by omega
          have HC := Aside0.mk hlt
          obtain ⟨vs, hsl⟩ := HS.out.arr 5 rfl
          cases hon : g.on i with
          | true =>
            have C := at_on hsl hlt hon
            have hx := hgd.pos i hlt hon
            rw [show atZ g i = g.xs.getD i 0 by unfold atZ; rw [if_pos hon]] at b1
            clear hon hgd hsl vs
            generalize g.xs.getD i 0 = x at *
            have q1 : (x != 0) = true := bne_iff_ne.2 hx
            have q2 : (x != x) = false := by simp
            have C := Aside0.mk C
            clear hx
            go_wp2_with fail
            refine C.out.mono ?_
            clear C
            rintro e w5 ⟨rfl, rfl⟩
            go_wp2
            go_roundg (n - i)
            case measure => have := HQ.out; have := HC.out; omega
            case rel => exact ⟨i + 1, by go_num, by have := HC.out; omega, ⟨by omega⟩, rfl⟩
          | false =>
            have C := at_off hsl (i := (i : Int)) (.inr (.inr (by rw [Int.toNat_natCast]; exact hon)))
            rw [show atZ g i = 0 by unfold atZ; rw [hon]; rfl] at b1
            clear hon hgd hsl vs
            have C := Aside0.mk C
            go_wp2_with fail
            refine C.out.mono ?_
            clear C
            rintro e w5 ⟨rfl, rfl⟩
            go_wp2
            go_roundg (n - i)
            case measure => have := HQ.out; have := HC.out; omega
            case rel => exact ⟨i + 1, by go_num, by have := HC.out; omega, ⟨by omega⟩, rfl⟩
        · obtain rfl : i = n := by omega
          clear hlt
          obtain ⟨vs, hsl⟩ := HS.out.arr 5 rfl
          have C := places_any hsl (Kd.C_below HT.out HS.out.below)
          rw [HKK.out.1, HKK.out.2] at C
          have C := Aside0.mk C
          clear hsl vs
          go_wp2_with fail
          refine C.out.mono ?_
          clear C
          rintro e w6 ⟨A3, c3, rfl, g1, g2, g3, hb⟩
          replace HS := Aside0.mk (HS.out.step hb)
          obtain ⟨A', c', e', h1, h2⟩ := G9.own_C (HS.out.own 7 rfl)
          injection e' with e1 e2 e3
          subst e1
          subst e3
          rw [HL.out.1] at h1 h2
          have C := ints_any g2 g1 h2 h1 (by rw [HL.out.1]; have := HM.out; omega)
          rw [decide_eq_true rfl] at C
          have C := Aside0.mk C
          clear g1 g2 g3 hb h1 h2 e2
          go_wp2_with fail
          refine C.out.mono ?_
          clear C
          rintro e w7 ⟨rfl, hd⟩
          replace HS := Aside0.mk (HS.out.step hd.below)
          clear hd
          have C := Aside0.mk (awake_any _ (Kd.C_below HT.out HS.out.below))
          go_wp2_with fail
          refine C.out.mono ?_
          clear C
          rintro e w30 ⟨rfl, hb⟩
          replace HS := Aside0.mk (HS.out.step hb)
          clear hb
          go_wp2
          (try rw [Exit.noGoto_ret])
          go_ret
          exact ⟨rfl, HS.out.below⟩
end
theorem law (s : Int) (ws : (Lit.int .i64 s).wf = true) (A : Option Addr) (c : Nat) (l : List Int) {W0 : World} (g : Kd.C (Kd.int .i64) W0 A l.length l) (e : l.length ≤ c) (wl : ∀ x ∈ l, (Lit.int .i64 x).wf = true) (hl : l.length ≤ 9223372036854775807) (a : Int) (wa : (Lit.int .i64 a).wf = true) (k : Int) (wk : (Lit.int .i64 k).wf = true) (d : Int) (wd : (Lit.int .i64 d).wf = true) (W : World) (hT : Tb W) (hW : W = W0 := by rfl) :
    Calls Tryd.prog 5 #[.agg #[.int .i64 s, .slice A l.length c], .agg #[.int .i64 a, .int .i64 k], .int .i64 d] W fun e w' => e = .returned (.bool true) ∧ Below W.heap.size W w' := by
  subst hW
  have hs := wf_le ws
  have hd := wf_le wd
  by_cases h0 : d = 0
  · subst h0
    cases hw : winB (nOf s) a k with
    | false => exact law_even_no hT g hl hs hw
    | true => exact law_even_yes hT g hl hs hw
  · by_cases h1 : d = 1
    · subst h1
      cases hw : winB (nOf s) a k with
      | false => exact law_left_no hT g hl hs hw
      | true => exact law_left_yes hT g hl hs hw
    · have q0 : (d == 0) = false := beq_eq_false_iff_ne.2 h0
      have q1 : (d == 1) = false := beq_eq_false_iff_ne.2 h1
      by_cases h2 : d < -1000
      · cases hw : winB (nOf s) a 1 with
        | false => exact law_open_nolow hT g hl hs hw q0 q1 h2
        | true =>
          obtain ⟨f, m, rfl, h4, h5, h6, h7⟩ := win_nat hw
          exact law_open_low hT g hl hs rfl (by omega) hw q0 q1 h2
      · cases hw : winB (nOf s) a 1 with
        | false => exact law_open_no hT g hl hs hw q0 q1 (by omega) hd.2
        | true =>
          obtain ⟨f, m, rfl, h4, h5, h6, h7⟩ := win_nat hw
          exact law_open_yes hT g hl hs rfl (by omega) hw q0 q1 (by omega) hd.2
end Go.Proofs.YtofkkdjbilklcaaDoor.ZT

/- The document's array of slots (punnetref02), walked: made, put, taken, moved, its places, its items. -/
import Derived.Test.YtbjkncgpoengaaaDoorF3
import Derived.Maps.AppendAt
import Derived.StillTailTactics
namespace Go.Proofs.YtbjkncgpoengaaaDoor.R1
open Go.RowKit Go.Proofs.YtbjkncgpoengaaaDoorW.PrintWords Go.Proofs.YtbjkncgpoengaaaDoorW.PrintLast Go.Proofs.YtbjkncgpoengaaaDoorW.PrintMore G1 G0 Q1 G2 G3 G4 G5 G6 G7 G8 G9 G10 G11 S1
set_option linter.unusedVariables false
set_option linter.unusedSimpArgs false

/-- append(out, x), of a row of the function's own. -/
theorem sep_append {ops : Array Oper} {rest : List Oper} {o : Oper} {a : Act} {Q : Exit → Act → World → Prop} {w0 W : World} {l : List Ob} (hgd : o.guard = none) (s x : Operand) (ho : o.op = .call { callee := .builtin .append, args := #[s, x], argTypes := #[41, 41] })
    {v : Value} {xs : List Int} (h : Sep w0 W l) (i : Nat) (e : l[i]? = some (S1.Own v xs)) (y : Int) (hs : a.eval s = v) (hx : a.eval x = .slice (some ⟨W.heap.size, 0, none⟩) 1 1) (hl : xs.length ≤ 1000000)
    (K : ∀ v1 w1, Sep w0 w1 (l.set i (S1.Own v1 (xs ++ [y]))) → wpList Tryd.prog ops Q rest (a.put o.dst v1) w1) :
    wpList Tryd.prog ops Q (o :: rest) a (W.alloc (.cells #[.int .i64 y] 3)) := by
  refine print_append_num (w0 := W) 0 hgd s x 41 3 .i64 8 ho Tryd.underlying41 G9.info3 (by decide) v xs y hs hx (h.own i e) (Below.refl _ _) (Nat.zero_le _) (by omega) fun v1 w1 hown _ hg hat => K v1 w1 ?_
  have ho : Only (fun k => v.ownBlock = some k) W w1 := ⟨hg.os, hg.tape, hg.output, hg.size, fun k hk hn => hg.block k hk (fun e => hn e.symm)⟩
  refine h.turn i e ho (fun k hk => by simp [S1.Own, hk]) _ hown fun k hk => ?_
  have hk' : v1.ownBlock = some k := by simpa [S1.Own] using hk
  rcases hat with hat | ⟨b, hb, hle⟩
  · exact .inl (by simp only [S1.Own]; rw [← hat]; exact hk)
  · rw [hb] at hk'
    obtain rfl := Option.some.inj hk'
    exact .inr ⟨hle, own_lt hown _ (by rw [hb])⟩
/-- The document's array. -/
structure RefAt (w : World) (r lb n : Nat) (g : Gap) : Prop where
  hr : w.heap[r]? = some (.cells #[.slice (some ⟨lb, 0, none⟩) n n] 57 (0, 0))
  hl : w.heap[lb]? = some (.cells (slc (slots n g)).toArray 60 (0, 0))
  len : g.xs.length = n
  high : n ≤ 65536
section
variable {w w' : World} {r lb n : Nat} {g : Gap}
theorem RefAt.stay (h : RefAt w r lb n g) (hs : ∀ k ∈ [r, lb], w'.heap[k]? = w.heap[k]?) : RefAt w' r lb n g :=
  ⟨(hs r (by simp)).trans h.hr, (hs lb (by simp)).trans h.hl, h.len, h.high⟩
theorem RefAt.below (h : RefAt w r lb n g) (hb : Below w.heap.size w w') : RefAt w' r lb n g := h.stay fun k hk => by
  simp only [List.mem_cons, List.not_mem_nil, or_false] at hk
  rcases hk with rfl | rfl
  · exact hb.block _ (blk_lt h.hr)
  · exact hb.block _ (blk_lt h.hl)
theorem RefAt.c0 (h : RefAt w r lb n g) : w.cell? ⟨r, 0, none⟩ = some (.slice (some ⟨lb, 0, none⟩) n n) := (blk_cell h.hr 0).trans rfl
theorem RefAt.ne (h : RefAt w r lb n g) : r ≠ lb := blk_ne h.hr h.hl (by decide)
theorem RefAt.cells (h : RefAt w r lb n g) {i : Nat} (hi : i < n) : w.cell? ⟨lb, i * 2, none⟩ = some (.bool (g.on i)) ∧ w.cell? ⟨lb, i * 2 + 1, none⟩ = some (.int .i64 (g.xs.getD i 0)) := by
  have := slb_cell h.hl (i := i) (by rw [slots_length]; exact hi)
  rwa [slots_get n g hi] at this
theorem RefAt.turn (h : RefAt w r lb n g) (j : Nat) (o : Bool) (x : Int) : RefAt ((w.setCell ⟨lb, j * 2, none⟩ (.bool o)).setCell ⟨lb, j * 2 + 1, none⟩ (.int .i64 x)) r lb n ⟨upd g.on j o, g.xs.set j x⟩ := by
  refine ⟨blk_far (blk_far h.hr h.ne _) h.ne _, ?_, by rw [List.length_set]; exact h.len, h.high⟩
  have h2 := blk_set (blk_set h.hl (j * 2) (.bool o)) (j * 2 + 1) (.int .i64 x)
  rw [h2]
  congr 2
  have e3 : (((slc (slots n g)).toArray.setIfInBounds (j * 2) (.bool o)).setIfInBounds (j * 2 + 1) (.int .i64 x)) = (slc ((slots n g).set j ⟨o, x⟩)).toArray := by
    simp [slc_set]
  rw [e3]
  congr 2
  refine slots_ext (by rw [List.length_set, slots_length]) fun i hi => ?_
  by_cases c : i = j
  · subst c
    rw [List.getD_eq_getElem?_getD, List.getElem?_set_self (by rw [slots_length]; exact hi)]
    simp [upd, h.len, hi, List.getD_eq_getElem?_getD]
  · rw [List.getD_eq_getElem?_getD, List.getElem?_set_ne (Ne.symm c), ← List.getD_eq_getElem?_getD, slots_get n g hi]
    simp [upd, c, List.getD_eq_getElem?_getD, List.getElem?_set_ne (Ne.symm c)]
theorem only2 (w : World) (lb j : Nat) (u v : Value) : Only (· = lb) w ((w.setCell ⟨lb, j * 2, none⟩ u).setCell ⟨lb, j * 2 + 1, none⟩ v) :=
  (Only.set (· = lb) w (p := ⟨lb, j * 2, none⟩) rfl u).trans (Only.set (· = lb) _ (p := ⟨lb, j * 2 + 1, none⟩) rfl v)
theorem rhas_any (h : RefAt w r lb n g) (i : Int) : Calls Tryd.prog 77 #[.pointer (some ⟨r, 0, none⟩), .int .i64 i] w fun e w' => e = .returned (.bool (inR n i)) ∧ w = w' := by
  have c0 := h.c0
  have hn := h.high
  clear h
  unfold inR
  by_cases h0 : 0 ≤ i
  · by_cases h1 : i < n
    · rw [decide_eq_true (And.intro h0 h1)]
      go_enter Tryd.func77, Tryd.ntmps77
      go_wp2
      go_ret
      exact ⟨rfl, rfl⟩
    · rw [decide_eq_false (fun c => h1 c.2)]
      have h2 : decide (i < (n : Int)) = false := decide_eq_false h1
      go_enter Tryd.func77, Tryd.ntmps77
      go_wp2
      go_ret
      exact ⟨rfl, rfl⟩
  · rw [decide_eq_false (fun c => h0 c.1)]
    have h2 : decide (0 ≤ i) = false := decide_eq_false h0
    go_enter Tryd.func77, Tryd.ntmps77
    go_wp2
    go_ret
    exact ⟨rfl, rfl⟩
theorem rput_any (h : RefAt w r lb n g) (i x : Int) : Calls Tryd.prog 59 #[.pointer (some ⟨r, 0, none⟩), .int .i64 i, .int .i64 x] w fun e w' => e = .returned (.int .i64 (putR n g i)) ∧ RefAt w' r lb n (putS n g i x) ∧ Only (· = lb) w w' := by
  have H := Aside0.mk h
  have C := Aside0.mk (rhas_any h i)
  have c0 := h.c0
  have hn := h.high
  unfold putS putR
  cases hi : inR n i
  · rw [hi] at C
    rw [if_neg (by decide), if_neg (by decide)]
    clear h hi
    go_enter Tryd.func59, Tryd.ntmps59
    go_wp2_with fail
    refine C.out.mono ?_
    rintro e w1 ⟨rfl, rfl⟩
    go_wp2
    go_ret
    exact ⟨rfl, H.out, Only.refl _ _⟩
  · rw [hi] at C
    rw [if_pos rfl]
    have hi2 : 0 ≤ i ∧ i < (n : Int) := of_decide_eq_true hi
    obtain ⟨k, rfl⟩ := Int.eq_ofNat_of_zero_le hi2.1
    have hk : k < n := by omega
    have f0 := blk_frozen h.hl (k * 2)
    have f1 := blk_frozen h.hl (k * 2 + 1)
    obtain ⟨s0, s1⟩ := h.cells hk
    rw [Int.toNat_natCast]
    clear h hi hi2
    cases hf : g.on k
    · rw [hf] at s0
      rw [if_neg (by decide), if_pos rfl]
      clear hf
      go_enter Tryd.func59, Tryd.ntmps59
      go_wp2_with fail
      refine C.out.mono ?_
      rintro e w1 ⟨rfl, rfl⟩
      go_wp2
      go_ret
      exact ⟨rfl, H.out.turn k true x, only2 _ _ _ _ _⟩
    · rw [hf] at s0
      rw [if_pos rfl, if_neg (by decide)]
      clear hf
      go_enter Tryd.func59, Tryd.ntmps59
      go_wp2_with fail
      refine C.out.mono ?_
      rintro e w1 ⟨rfl, rfl⟩
      go_wp2
      go_ret
      exact ⟨rfl, H.out, Only.refl _ _⟩
theorem rtake_any (h : RefAt w r lb n g) (i : Int) : Calls Tryd.prog 60 #[.pointer (some ⟨r, 0, none⟩), .int .i64 i] w fun e w' => e = .returned (.tuple #[.int .i64 (takeR n g i).1, .int .i64 (takeR n g i).2]) ∧ RefAt w' r lb n (takeS n g i) ∧ Only (· = lb) w w' := by
  have H := Aside0.mk h
  have C := Aside0.mk (rhas_any h i)
  have c0 := h.c0
  have hn := h.high
  unfold takeS takeR
  cases hi : inR n i
  · rw [hi] at C
    rw [if_neg (by decide), if_neg (by decide)]
    clear h hi
    go_enter Tryd.func60, Tryd.ntmps60
    go_wp2_with fail
    refine C.out.mono ?_
    rintro e w1 ⟨rfl, rfl⟩
    go_wp2
    go_ret2
    exact ⟨rfl, H.out, Only.refl _ _⟩
  · rw [hi] at C
    rw [if_pos rfl]
    have hi2 : 0 ≤ i ∧ i < (n : Int) := of_decide_eq_true hi
    obtain ⟨k, rfl⟩ := Int.eq_ofNat_of_zero_le hi2.1
    have hk : k < n := by omega
    have f0 := blk_frozen h.hl (k * 2)
    have f1 := blk_frozen h.hl (k * 2 + 1)
    obtain ⟨s0, s1⟩ := h.cells hk
    rw [Int.toNat_natCast]
    clear h hi hi2
    cases hf : g.on k
    · rw [hf] at s0
      rw [if_neg (by decide), if_neg (by decide)]
      clear hf
      go_enter Tryd.func60, Tryd.ntmps60
      go_wp2_with fail
      refine C.out.mono ?_
      rintro e w1 ⟨rfl, rfl⟩
      go_wp2
      go_ret2
      exact ⟨rfl, H.out, Only.refl _ _⟩
    · rw [hf] at s0
      rw [if_pos rfl, if_pos rfl]
      clear hf
      have HT := Aside0.mk (H.out.turn k false 0)
      obtain ⟨x0, hx0⟩ : ∃ x0, g.xs.getD k 0 = x0 := ⟨_, rfl⟩
      rw [hx0] at s1
      rw [hx0]
      clear hx0
      go_enter Tryd.func60, Tryd.ntmps60
      go_wp2_with fail
      refine C.out.mono ?_
      rintro e w1 ⟨rfl, rfl⟩
      go_wp2
      go_ret2
      exact ⟨rfl, HT.out, only2 _ _ _ _ _⟩
set_option maxRecDepth 100000 in
theorem rmove_any (h : RefAt w r lb n g) (i j : Int) : Calls Tryd.prog 61 #[.pointer (some ⟨r, 0, none⟩), .int .i64 i, .int .i64 j] w fun e w' => e = .returned (.int .i64 (moveR n g i j)) ∧ RefAt w' r lb n (moveS n g i j) ∧ Only (· = lb) w w' := by
  have H := Aside0.mk h
  have C := Aside0.mk (rhas_any h i)
  have D := Aside0.mk (rhas_any h j)
  have c0 := h.c0
  have hn := h.high
  unfold moveS moveR
  cases hi : inR n i
  · rw [hi] at C
    rw [Bool.false_and, if_neg (by decide), if_neg (by decide)]
    clear h hi
    go_enter Tryd.func61, Tryd.ntmps61
    go_wp2_with fail
    refine C.out.mono ?_
    rintro e w1 ⟨rfl, rfl⟩
    go_wp2
    go_ret
    exact ⟨rfl, H.out, Only.refl _ _⟩
  · cases hj : inR n j
    · rw [hi] at C
      rw [hj] at D
      rw [Bool.and_false, if_neg (by decide), if_neg (by decide)]
      clear h hi hj
      go_enter Tryd.func61, Tryd.ntmps61
      go_wp2_with fail
      refine C.out.mono ?_
      rintro e w1 ⟨rfl, rfl⟩
      go_wp2_with fail
      refine D.out.mono ?_
      rintro e w1 ⟨rfl, rfl⟩
      go_wp2
      go_ret
      exact ⟨rfl, H.out, Only.refl _ _⟩
    · rw [hi] at C
      rw [hj] at D
      rw [Bool.and_self, if_pos rfl]
      have hi2 : 0 ≤ i ∧ i < (n : Int) := of_decide_eq_true hi
      have hj2 : 0 ≤ j ∧ j < (n : Int) := of_decide_eq_true hj
      obtain ⟨k, rfl⟩ := Int.eq_ofNat_of_zero_le hi2.1
      obtain ⟨m, rfl⟩ := Int.eq_ofNat_of_zero_le hj2.1
      have hk : k < n := by omega
      have hm : m < n := by omega
      have f0 := blk_frozen h.hl (k * 2)
      have f1 := blk_frozen h.hl (k * 2 + 1)
      have f2 := blk_frozen h.hl (m * 2)
      have f3 := blk_frozen h.hl (m * 2 + 1)
      obtain ⟨s0, s1⟩ := h.cells hk
      obtain ⟨s2, s3⟩ := h.cells hm
      have nr := h.ne
      have nr2 := nr.symm
      rw [Int.toNat_natCast, Int.toNat_natCast]
      clear h hi hi2 hj hj2
      cases hf : g.on k
      · rw [hf] at s0
        rw [if_neg (by decide), if_neg (by decide)]
        clear hf
        go_enter Tryd.func61, Tryd.ntmps61
        go_wp2_with fail
        refine C.out.mono ?_
        rintro e w1 ⟨rfl, rfl⟩
        go_wp2_with fail
        refine D.out.mono ?_
        rintro e w1 ⟨rfl, rfl⟩
        go_wp2
        go_ret
        exact ⟨rfl, H.out, Only.refl _ _⟩
      · rw [hf] at s0
        rw [if_pos rfl]
        cases hf2 : g.on m
        · rw [hf2] at s2
          rw [if_neg (by decide), if_pos rfl]
          have hne : k ≠ m := by rintro rfl; rw [hf] at hf2; cases hf2
          obtain ⟨x0, hx0⟩ : ∃ x0, g.xs.getD k 0 = x0 := ⟨_, rfl⟩
          rw [hx0] at s1
          have EG : Aside0 ((⟨upd (upd g.on m true) k false, (g.xs.set m x0).set k 0⟩ : Gap) = ⟨upd (upd g.on k false) m true, (g.xs.set k 0).set m (g.xs.getD k 0)⟩) := ⟨by
            rw [hx0, List.set_comm _ _ hne]
            congr 1
            funext q
            simp only [upd]
            by_cases c1 : q = k
            · rw [if_pos c1, if_neg (by omega), if_pos c1]
            · rw [if_neg c1, if_neg c1]⟩
          have HX := Aside0.mk hx0
          have HF := Aside0.mk (And.intro hf hf2)
          have HB := Aside0.mk (below_drew (Below.refl w.heap.size w))
          clear hf hf2 hx0 hne
          rw [← EG.out]
          go_enter Tryd.func61, Tryd.ntmps61
          go_wp2_with fail
          refine C.out.mono ?_
          rintro e w1 ⟨rfl, rfl⟩
          go_wp2_with fail
          refine D.out.mono ?_
          rintro e w1 ⟨rfl, rfl⟩
          go_wp2
          go_still_tail 13, (by kernel_rfl)
          change wpList _ _ _ _ _ w.drew
          clear c0 s0 s1 s2 s3 f0 f1 f2 f3 C D
          generalize w.drew = w2 at *
          have H2 := Aside0.mk (H.out.below HB.out)
          have c0 := H2.out.c0
          obtain ⟨s0, s1⟩ := H2.out.cells hk
          obtain ⟨s2, s3⟩ := H2.out.cells hm
          rw [HF.out.1] at s0
          rw [HF.out.2] at s2
          rw [HX.out] at s1
          have f0 := blk_frozen H2.out.hl (k * 2)
          have f1 := blk_frozen H2.out.hl (k * 2 + 1)
          have f2 := blk_frozen H2.out.hl (m * 2)
          have f3 := blk_frozen H2.out.hl (m * 2 + 1)
          have HT := Aside0.mk ((H2.out.turn m true x0).turn k false 0)
          have H3 := H2.out.turn m true x0
          obtain ⟨z0, z1⟩ := H3.cells hk
          have g0 := blk_frozen H3.hl (k * 2)
          have g1 := blk_frozen H3.hl (k * 2 + 1)
          have z2 := H3.c0
          clear H3
          go_wp2
          go_ret
          exact ⟨rfl, HT.out, ((Only.of_below HB.out).trans (only2 _ _ _ _ _)).trans (only2 _ _ _ _ _)⟩
        · rw [hf2] at s2
          rw [if_pos rfl, if_neg (by decide)]
          clear hf hf2
          go_enter Tryd.func61, Tryd.ntmps61
          go_wp2_with fail
          refine C.out.mono ?_
          rintro e w1 ⟨rfl, rfl⟩
          go_wp2_with fail
          refine D.out.mono ?_
          rintro e w1 ⟨rfl, rfl⟩
          go_wp2
          go_ret
          exact ⟨rfl, H.out, Only.refl _ _⟩
set_option maxRecDepth 100000 in
set_option maxHeartbeats 1000000 in
theorem rplaces_any (h : RefAt w r lb n g) : Calls Tryd.prog 31 #[.pointer (some ⟨r, 0, none⟩)] w fun e w' => ∃ v, e = .returned v ∧ Sep w w' [S1.Own v (keys (ons g.on g.xs n))] := by
  have H := Aside0.mk h
  have hn := h.high
  have HS : Aside0 (Sep w _ [S1.Own (.slice (some ⟨w.heap.size, 0, none⟩) 0 0) []]) := ⟨(Sep.nil w).new_own (below_alloc (Below.refl _ w) (.cells #[] 3)) (own_lit w w.heap.size 3 .i64 [] (Nat.le_refl _) (by decide))⟩
  clear h
  go_enter Tryd.func31, Tryd.ntmps31
  go_wp2
  go_loopg [3, 4] n (fun kq v3 v4 w' => ∃ i : Nat, v4 = .int .i64 i ∧ i ≤ n ∧ Aside0 (n - i ≤ kq) ∧ Aside0 (Sep w w' [S1.Own v3 (keys (ons g.on g.xs i))]))
  case atStart => exact ⟨0, rfl, by omega, ⟨by omega⟩, HS⟩
  case round =>
    clear HS
    obtain ⟨i, rfl, hi', HQ, HS⟩ := hrel
    have HR := Aside0.mk (H.out.below HS.out.below)
    have c0 := HR.out.c0
    by_cases hlt : i < n
    · obtain ⟨gk, rfl⟩ : ∃ m, gk = m + 1 := ⟨gk - 1, by have := HQ.out; omega⟩
      obtain ⟨s0, s1⟩ := HR.out.cells hlt
      have hln : (keys (ons g.on g.xs i)).length ≤ n := by
        have := cntF_le g.on i
        have h2 := ons_length g.on g.xs i
        simp only [keys, List.length_map]
        omega
      have EN := Aside0.mk (ons_succ g.on g.xs i)
      cases hf : g.on i
      · rw [hf] at s0 EN
        have EV : Aside0 (keys (ons g.on g.xs (i + 1)) = keys (ons g.on g.xs i)) := ⟨by rw [EN.out]; simp⟩
        clear hf EN
        go_wp2
        go_roundg gk
        case measure => omega
        case rel => exact ⟨i + 1, by go_num, by omega, ⟨by have := HQ.out; omega⟩, ⟨by rw [EV.out]; exact HS.out⟩⟩
      · rw [hf] at s0 EN
        generalize hx : g.xs.getD i 0 = x0 at *
        clear hx
        have EV : Aside0 (keys (ons g.on g.xs (i + 1)) = keys (ons g.on g.xs i) ++ [(i : Int)]) := ⟨by rw [EN.out]; simp [keys]⟩
        clear hf EN
        go_wp2_with ((with_reducible refine gate_builtin (b := .append) (xs := #[.tmp 23, .tmp 25]) rfl ?_); at_builtin; refine sep_append rfl (.tmp 23) (.tmp 25) rfl HS.out 0 rfl (i : Int) rfl rfl (by omega) ?_; intro v1 w1 hs2; have HS2 := Aside0.mk hs2; clear hs2)
        go_roundg gk
        case measure => omega
        case rel => exact ⟨i + 1, by go_num, by omega, ⟨by have := HQ.out; omega⟩, ⟨by rw [EV.out]; exact HS2.out⟩⟩
    · obtain rfl : n = i := by omega
      go_wp2
      go_ret
      exact ⟨_, rfl, HS.out⟩
set_option maxRecDepth 100000 in
set_option maxHeartbeats 1000000 in
theorem ritems_any (h : RefAt w r lb n g) : Calls Tryd.prog 32 #[.pointer (some ⟨r, 0, none⟩)] w fun e w' => ∃ v, e = .returned v ∧ Sep w w' [S1.Own v (vals (ons g.on g.xs n))] := by
  have H := Aside0.mk h
  have hn := h.high
  have HS : Aside0 (Sep w _ [S1.Own (.slice (some ⟨w.heap.size, 0, none⟩) 0 0) []]) := ⟨(Sep.nil w).new_own (below_alloc (Below.refl _ w) (.cells #[] 3)) (own_lit w w.heap.size 3 .i64 [] (Nat.le_refl _) (by decide))⟩
  clear h
  go_enter Tryd.func32, Tryd.ntmps32
  go_wp2
  go_loopg [3, 4] n (fun kq v3 v4 w' => ∃ i : Nat, v4 = .int .i64 i ∧ i ≤ n ∧ Aside0 (n - i ≤ kq) ∧ Aside0 (Sep w w' [S1.Own v3 (vals (ons g.on g.xs i))]))
  case atStart => exact ⟨0, rfl, by omega, ⟨by omega⟩, HS⟩
  case round =>
    clear HS
    obtain ⟨i, rfl, hi', HQ, HS⟩ := hrel
    have HR := Aside0.mk (H.out.below HS.out.below)
    have c0 := HR.out.c0
    by_cases hlt : i < n
    · obtain ⟨gk, rfl⟩ : ∃ m, gk = m + 1 := ⟨gk - 1, by have := HQ.out; omega⟩
      obtain ⟨s0, s1⟩ := HR.out.cells hlt
      have hln : (vals (ons g.on g.xs i)).length ≤ n := by
        have := cntF_le g.on i
        have h2 := ons_length g.on g.xs i
        simp only [vals, List.length_map]
        omega
      have EN := Aside0.mk (ons_succ g.on g.xs i)
      cases hf : g.on i
      · rw [hf] at s0 EN
        have EV : Aside0 (vals (ons g.on g.xs (i + 1)) = vals (ons g.on g.xs i)) := ⟨by rw [EN.out]; simp⟩
        clear hf EN
        go_wp2
        go_roundg gk
        case measure => omega
        case rel => exact ⟨i + 1, by go_num, by omega, ⟨by have := HQ.out; omega⟩, ⟨by rw [EV.out]; exact HS.out⟩⟩
      · rw [hf] at s0 EN
        generalize hx : g.xs.getD i 0 = x0 at *
        clear hx
        have EV : Aside0 (vals (ons g.on g.xs (i + 1)) = vals (ons g.on g.xs i) ++ [x0]) := ⟨by rw [EN.out]; simp [vals]⟩
        clear hf EN
        go_wp2_with ((with_reducible refine gate_builtin (b := .append) (xs := #[.tmp 23, .tmp 32]) rfl ?_); at_builtin; refine sep_append rfl (.tmp 23) (.tmp 32) rfl HS.out 0 rfl x0 rfl rfl (by omega) ?_; intro v1 w1 hs2; have HS2 := Aside0.mk hs2; clear hs2)
        go_roundg gk
        case measure => omega
        case rel => exact ⟨i + 1, by go_num, by omega, ⟨by have := HQ.out; omega⟩, ⟨by rw [EV.out]; exact HS2.out⟩⟩
    · obtain rfl : n = i := by omega
      go_wp2
      go_ret
      exact ⟨_, rfl, HS.out⟩
end
/-- The document's array, as an object. -/
def RefO (r lb n : Nat) (g : Gap) : Ob where
  F := [r, lb]
  P := fun w => RefAt w r lb n g
  st := fun hs h => h.stay hs
theorem ref_turn {w0 w w' : World} {l : List Ob} {r lb n : Nat} {g g' : Gap} (h : Sep w0 w l) (i : Nat) (e : l[i]? = some (RefO r lb n g)) (ho : Only (· = lb) w w') (hs : RefAt w' r lb n g') : Sep w0 w' (l.set i (RefO r lb n g')) :=
  h.turn i e ho (fun k hk => by rw [hk]; simp [RefO]) _ hs (fun k hk => .inl hk)
theorem ref_new {w0 w : World} {l : List Ob} {n : Nat} (hn : n ≤ 65536) (h : Sep w0 w l) : Sep w0 ((w.alloc (.cells (slc (List.replicate n z60)).toArray 60)).alloc (.cells #[.slice (some ⟨w.heap.size, 0, none⟩) n n] 57)) (l ++ [RefO (w.heap.size + 1) w.heap.size n (gap0 n)]) := by
  have k1 := blk_new w (.cells (slc (List.replicate n z60)).toArray 60)
  have k2 := blk_new (w.alloc (.cells (slc (List.replicate n z60)).toArray 60)) (.cells #[.slice (some ⟨w.heap.size, 0, none⟩) n n] 57)
  simp only [World.size_alloc] at k2
  refine h.push (below_alloc (below_alloc (Below.refl _ w) _) _) _ ⟨k2, ?_, by simp [gap0], hn⟩ fun k hk => ?_
  · rw [slots_zero]
    exact blk_alloc k1 _
  · simp only [RefO, List.mem_cons, List.not_mem_nil, or_false] at hk
    simp only [World.size_alloc]
    omega
end Go.Proofs.YtbjkncgpoengaaaDoor.R1

/- More of rows: append of a number and of a row; slices.Clone, Min, Max; spread.Even (of the texts SE and SL, over SX). -/
import Derived.Test.YtofkkdjbilklcaaDoorSX
import Derived.WalkSpells
import Derived.WalkLawsBesides
namespace Go.Proofs.YtofkkdjbilklcaaDoor.SN
open Go.RowKit Go.Shelf Go.Proofs.YtofkkdjbilklcaaDoorW.PrintWords Go.Proofs.YtofkkdjbilklcaaDoorW.PrintLast Go.Proofs.YtofkkdjbilklcaaDoorW.PrintMore G1 G0 Q1 G2 G3 G4 G5 G6 G7 G8 G9 G10 S1
set_option linter.unusedVariables false
set_option linter.unusedSimpArgs false
/-- append(out, x), of a row of the function's own. -/
theorem sep_append {ops : Array Oper} {rest : List Oper} {o : Oper} {a : Act} {Q : Exit → Act → World → Prop} {w0 W : World} {l : List Ob} (hgd : o.guard = none) (s x : Operand) (ho : o.op = .call { callee := .builtin .append, args := #[s, x], argTypes := #[22, 22] })
    {v : Value} {xs : List Int} (h : S1.Sep w0 W l) (i : Nat) (e : l[i]? = some (S1.Own v xs)) (y : Int) (hs : a.eval s = v) (hx : a.eval x = .slice (some ⟨W.heap.size, 0, none⟩) 1 1) (hl : xs.length ≤ 1000000)
    (K : ∀ v1 w1, S1.Sep w0 w1 (l.set i (S1.Own v1 (xs ++ [y]))) → wpList Tryd.prog ops Q rest (a.put o.dst v1) w1) :
    wpList Tryd.prog ops Q (o :: rest) a (W.alloc (.cells #[.int .i64 y] 3)) := by
  refine print_append_num (w0 := W) 0 hgd s x 22 3 .i64 8 ho Tryd.underlying22 G9.info3 (by decide) v xs y hs hx (h.own i e) (Below.refl _ _) (Nat.zero_le _) (by omega) fun v1 w1 hown _ hg hat => K v1 w1 ?_
  have ho : Only (fun k => v.ownBlock = some k) W w1 := ⟨hg.os, hg.tape, hg.output, hg.size, fun k hk hn => hg.block k hk (fun e => hn e.symm)⟩
  refine h.turn i e ho (fun k hk => by simp [S1.Own, hk]) _ hown fun k hk => ?_
  have hk' : v1.ownBlock = some k := by simpa [S1.Own] using hk
  rcases hat with hat | ⟨b, hb, hle⟩
  · exact .inl (by simp only [S1.Own]; rw [← hat]; exact hk)
  · rw [hb] at hk'
    obtain rfl := Option.some.inj hk'
    exact .inr ⟨hle, own_lt hown _ (by rw [hb])⟩
theorem own_addr {w : World} {A : Option Addr} {n c : Nat} {xs : List Int} (h : w.ownsRow 0 3 1 (.slice A n c) xs.length (nums .i64 xs)) (hn : 0 < xs.length) : ∃ b, A = some ⟨b, 0, none⟩ ∧ ∀ i, i < xs.length → w.cell? ⟨b, i, none⟩ = some (.int .i64 (xs.getD i 0)) := by
  rcases h.2 with ⟨h1, h2⟩ | ⟨b, cap, cur, h1, _⟩
  · omega
  · obtain ⟨rfl, rfl, rfl⟩ : A = some ⟨b, 0, none⟩ ∧ n = xs.length ∧ c = cap := by simpa using h1
    refine ⟨b, rfl, fun i hi => ?_⟩
    have := own_at h (i : Int) (by omega) (by omega)
    rw [Int.toNat_natCast] at this
    exact this.1
/-- append(v, ys...), v of the function's own. -/
theorem sep_append_row {ops : Array Oper} {rest : List Oper} {o : Oper} {a : Act} {Q : Exit → Act → World → Prop} {w0 W : World} {l : List Ob} (hgd : o.guard = none) (s x : Operand) (ho : o.op = .call { callee := .builtin .append, args := #[s, x], argTypes := #[22, 22] })
    {v : Value} {xs ys : List Int} {A : Option Addr} {m c : Nat} (h : S1.Sep w0 W l) (i : Nat) (e : l[i]? = some (S1.Own v xs)) (hr : Kd.C (Kd.int .i64) W A m ys) (hs : a.eval s = v) (hx : a.eval x = .slice A m c) (hl : xs.length + m ≤ 1000000)
    (K : ∀ v1 w1, S1.Sep w0 w1 (l.set i (S1.Own v1 (xs ++ ys))) → wpList Tryd.prog ops Q rest (a.put o.dst v1) w1) :
    wpList Tryd.prog ops Q (o :: rest) a W := by
  refine print_append_row (w0 := W) 0 hgd s x 22 3 .i64 8 ho Tryd.underlying22 G9.info3 (by decide) v xs ys A m c hs hx (h.own i e) (Kd.reads_of_C hr) (Below.refl _ _) (Nat.zero_le _) (by omega) fun v1 w1 hown _ hg hat => K v1 w1 ?_
  have ho : Only (fun k => v.ownBlock = some k) W w1 := ⟨hg.os, hg.tape, hg.output, hg.size, fun k hk hn => hg.block k hk (fun e => hn e.symm)⟩
  refine h.turn i e ho (fun k hk => by simp [S1.Own, hk]) _ hown fun k hk => ?_
  have hk' : v1.ownBlock = some k := by simpa [S1.Own] using hk
  rcases hat with hat | ⟨b, hb, hle⟩
  · exact .inl (by simp only [S1.Own]; rw [← hat]; exact hk)
  · rw [hb] at hk'
    obtain rfl := Option.some.inj hk'
    exact .inr ⟨hle, own_lt hown _ (by rw [hb])⟩
theorem len_none {w : World} {n : Nat} {l : List Int} (h : Kd.C (Kd.int .i64) w none n l) : n = 0 := by
  rcases Nat.eq_zero_or_pos n with h0 | h0
  · exact h0
  · obtain ⟨ad, e, _⟩ := h.2.2 h0
    cases e
/-- A clone is a row of its own, the same. -/
theorem clone_any {w : World} {A : Option Addr} {c : Nat} {l : List Int} (hr : Kd.C (Kd.int .i64) w A l.length l) (hl : l.length ≤ 1000000) :
    Calls Tryd.prog 102 #[.slice A l.length c] w fun e w' => ∃ A' c', e = .returned (.slice A' l.length c') ∧ S1.Sep w w' [S1.Own (.slice A' l.length c') l] := by
  have hnil := fun (a : Option Addr) (w : World) => Go.Lib.run_eql_slice_nil (P := Tryd.prog) w 22 3 a l.length c 0 0 Tryd.underlying22
  cases A with
  | none =>
    have h0 := len_none hr
    obtain rfl : l = [] := List.eq_nil_of_length_eq_zero h0
    have hnil := hnil none
    simp only [List.length_nil] at hnil ⊢
    clear hr hl
    go_enter Tryd.func102, Tryd.ntmps102
    go_wp2
    go_ret
    exact ⟨none, 0, rfl, (S1.Sep.nil w).push (Below.refl _ _) _ (own_nil _ _ _ _) (fun k hk => by simp [S1.Own, Value.ownBlock] at hk)⟩
  | some ad =>
    have HR := Aside0.mk hr
    clear hr
    go_enter Tryd.func102, Tryd.ntmps102
    have HS := Aside0.mk ((S1.Sep.nil w).new_own (below_alloc (Below.refl _ w) (.cells #[] 3)) (own_lit w w.heap.size 3 .i64 [] (Nat.le_refl _) (by simp)))
    have HR2 := Aside0.mk (Kd.C_below HR.out (below_alloc (Below.refl _ w) (.cells #[] 3)))
    go_wp2_with ((with_reducible refine gate_builtin (b := .append) (xs := #[.tmp 5, .tmp 6]) rfl ?_); at_builtin; refine sep_append_row rfl (.tmp 5) (.tmp 6) rfl HS.out 0 rfl HR2.out rfl rfl (by simpa using hl) ?_; intro v1 w1 hs)
    go_ret
    obtain ⟨A', c', e1, _⟩ := own_C (hs.own 0 rfl)
    subst e1
    exact ⟨A', c', rfl, hs⟩
attribute [local go_sem] max2_int min2_int max_two min_two
/-- The min of the first numbers. -/
structure Is_min (l : List Int) (n : Nat) (m : Int) : Prop where
  all : ∀ j, j < n → m ≤ l.getD j 0
  is : ∃ j, j < n ∧ l.getD j 0 = m
theorem Is_min.one (l : List Int) : Is_min l 1 (l.getD 0 0) := ⟨fun j hj => by rw [show j = 0 by omega]; exact Int.le_refl _, 0, by omega, rfl⟩
theorem Is_min.step {l : List Int} {n : Nat} {m : Int} (h : Is_min l n m) : Is_min l (n + 1) (min m (l.getD n 0)) := by
  obtain ⟨h1, j, hj, h2⟩ := h
  refine ⟨fun i hi => ?_, ?_⟩
  · by_cases e : i = n
    · subst e; omega
    · have := h1 i (by omega); omega
  · by_cases e : min m (l.getD n 0) = m
    · exact ⟨j, by omega, by rw [h2, e]⟩
    · exact ⟨n, by omega, by omega⟩
theorem min_any {w : World} {A : Option Addr} {c : Nat} {l : List Int} (hr : Kd.C (Kd.int .i64) w A l.length l) (h1 : 1 ≤ l.length) (hl : l.length ≤ 1000000) :
    Calls Tryd.prog 105 #[.slice A l.length c] w fun e w' => (∃ m, e = .returned (.int .i64 m) ∧ Is_min l l.length m) ∧ w = w' := by
  have HR := Aside0.mk hr
  have H1 := Aside0.mk (Is_min.one l)
  clear hr
  obtain ⟨ad, e, hx⟩ := Kd.at_int HR.out (0 : Int) (by omega) (by omega)
  cases e
  rw [show rd l (0 : Int) = l.getD 0 0 from rfl] at hx
  have i0 : (0 : Int) < (l.length : Int) := by omega
  have i1 : ¬ (l.length : Int) < 1 := by omega
  have HG := Aside0.mk (show l.getD 0 0 = l.getD 0 0 from rfl)
  have ha : ad.add (Int.toNat 0) = ad := by simp [Addr.add]
  rw [ha] at hx
  clear ha
  generalize l.getD 0 0 = x0 at hx H1
  clear HG
  go_enter Tryd.func105, Tryd.ntmps105
  go_wp2
  clear hx i0 i1
  go_loopg [3, 4] l.length (fun kq v3 v4 W => ∃ (i : Nat) (m : Int), v3 = .int .i64 m ∧ v4 = .int .i64 i ∧ 1 ≤ i ∧ i ≤ l.length ∧ Aside0 (l.length - i ≤ kq) ∧ w = W ∧ Aside0 (Is_min l i m))
  case atStart => exact ⟨1, x0, rfl, rfl, by omega, by omega, ⟨by omega⟩, rfl, H1⟩
  case round =>
    obtain ⟨i, m, rfl, rfl, hi1, hi, HQ, rfl, HG⟩ := hrel
    by_cases hlt : i < l.length
    · obtain ⟨ad, e, hx⟩ := Kd.at_int HR.out (i : Int) (by omega) (by omega)
      cases e
      rw [Int.toNat_natCast, show rd l (i : Int) = l.getD i 0 from rfl] at hx
      have HN := Aside0.mk HG.out.step
      clear HG
      generalize l.getD i 0 = x at hx HN
      have HN1 : Aside0 (min m x = m → Is_min l (i + 1) m) := ⟨fun h => h ▸ HN.out⟩
      have HN2 : Aside0 (min m x = x → Is_min l (i + 1) x) := ⟨fun h => h ▸ HN.out⟩
      clear HN
      go_wp2
      all_goals
        go_roundg (l.length - (i + 1))
        case measure => have := HQ.out; omega
        case rel => exact ⟨i + 1, _, rfl, by go_num, by omega, by omega, ⟨Nat.le_refl _⟩, rfl, ⟨by first | exact HN1.out (by omega) | exact HN2.out (by omega)⟩⟩
    · obtain rfl : i = l.length := by omega
      go_wp2
      go_ret
      exact ⟨⟨_, rfl, HG.out⟩, rfl⟩
/-- The max of the first numbers. -/
structure Is_max (l : List Int) (n : Nat) (m : Int) : Prop where
  all : ∀ j, j < n → l.getD j 0 ≤ m
  is : ∃ j, j < n ∧ l.getD j 0 = m
theorem Is_max.one (l : List Int) : Is_max l 1 (l.getD 0 0) := ⟨fun j hj => by rw [show j = 0 by omega]; exact Int.le_refl _, 0, by omega, rfl⟩
theorem Is_max.step {l : List Int} {n : Nat} {m : Int} (h : Is_max l n m) : Is_max l (n + 1) (max m (l.getD n 0)) := by
  obtain ⟨h1, j, hj, h2⟩ := h
  refine ⟨fun i hi => ?_, ?_⟩
  · by_cases e : i = n
    · subst e; omega
    · have := h1 i (by omega); omega
  · by_cases e : max m (l.getD n 0) = m
    · exact ⟨j, by omega, by rw [h2, e]⟩
    · exact ⟨n, by omega, by omega⟩
theorem max_any {w : World} {A : Option Addr} {c : Nat} {l : List Int} (hr : Kd.C (Kd.int .i64) w A l.length l) (h1 : 1 ≤ l.length) (hl : l.length ≤ 1000000) :
    Calls Tryd.prog 106 #[.slice A l.length c] w fun e w' => (∃ m, e = .returned (.int .i64 m) ∧ Is_max l l.length m) ∧ w = w' := by
  have HR := Aside0.mk hr
  have H1 := Aside0.mk (Is_max.one l)
  clear hr
  obtain ⟨ad, e, hx⟩ := Kd.at_int HR.out (0 : Int) (by omega) (by omega)
  cases e
  rw [show rd l (0 : Int) = l.getD 0 0 from rfl] at hx
  have i0 : (0 : Int) < (l.length : Int) := by omega
  have i1 : ¬ (l.length : Int) < 1 := by omega
  have HG := Aside0.mk (show l.getD 0 0 = l.getD 0 0 from rfl)
  have ha : ad.add (Int.toNat 0) = ad := by simp [Addr.add]
  rw [ha] at hx
  clear ha
  generalize l.getD 0 0 = x0 at hx H1
  clear HG
  go_enter Tryd.func106, Tryd.ntmps106
  go_wp2
  clear hx i0 i1
  go_loopg [3, 4] l.length (fun kq v3 v4 W => ∃ (i : Nat) (m : Int), v3 = .int .i64 m ∧ v4 = .int .i64 i ∧ 1 ≤ i ∧ i ≤ l.length ∧ Aside0 (l.length - i ≤ kq) ∧ w = W ∧ Aside0 (Is_max l i m))
  case atStart => exact ⟨1, x0, rfl, rfl, by omega, by omega, ⟨by omega⟩, rfl, H1⟩
  case round =>
    obtain ⟨i, m, rfl, rfl, hi1, hi, HQ, rfl, HG⟩ := hrel
    by_cases hlt : i < l.length
    · obtain ⟨ad, e, hx⟩ := Kd.at_int HR.out (i : Int) (by omega) (by omega)
      cases e
      rw [Int.toNat_natCast, show rd l (i : Int) = l.getD i 0 from rfl] at hx
      have HN := Aside0.mk HG.out.step
      clear HG
      generalize l.getD i 0 = x at hx HN
      have HN1 : Aside0 (max m x = m → Is_max l (i + 1) m) := ⟨fun h => h ▸ HN.out⟩
      have HN2 : Aside0 (max m x = x → Is_max l (i + 1) x) := ⟨fun h => h ▸ HN.out⟩
      clear HN
      go_wp2
      all_goals
        go_roundg (l.length - (i + 1))
        case measure => have := HQ.out; omega
        case rel => exact ⟨i + 1, _, rfl, by go_num, by omega, by omega, ⟨Nat.le_refl _⟩, rfl, ⟨by first | exact HN1.out (by omega) | exact HN2.out (by omega)⟩⟩
    · obtain rfl : i = l.length := by omega
      go_wp2
      go_ret
      exact ⟨⟨_, rfl, HG.out⟩, rfl⟩
/-- Counts of which none is more than one above another are even. -/
theorem even_true {w : World} {A : Option Addr} {c : Nat} {l : List Int} (hr : Kd.C (Kd.int .i64) w A l.length l) (hl : l.length ≤ 1000000) {q : Int} (hq : 0 ≤ q) (hq2 : q ≤ 1000000) (h : ∀ j, j < l.length → q ≤ l.getD j 0 ∧ l.getD j 0 ≤ q + 1) :
    Calls Tryd.prog 62 #[.slice A l.length c] w fun e w' => e = .returned (.bool true) ∧ w = w' := by
  by_cases h0 : l.length = 0
  · clear hr hl h
    rw [h0]
    go_enter Tryd.func62, Tryd.ntmps62
    go_wp2
    go_ret
    exact ⟨rfl, rfl⟩
  · have C1 := Aside0.mk (min_any (c := c) hr (by omega) hl)
    have C2 := Aside0.mk (max_any (c := c) hr (by omega) hl)
    have q0 : ((l.length : Int) == 0) = false := beq_eq_false_iff_ne.2 (by omega)
    have HH := Aside0.mk h
    have HQ := Aside0.mk (And.intro hq hq2)
    clear hr hl h h0 hq hq2
    go_enter Tryd.func62, Tryd.ntmps62
    go_wp2_with fail
    refine C1.out.mono ?_
    clear C1
    rintro e w1 ⟨⟨m1, rfl, h1⟩, rfl⟩
    have H1 := Aside0.mk h1
    clear h1
    go_wp2_with fail
    refine C2.out.mono ?_
    clear C2
    rintro e w1 ⟨⟨m2, rfl, h2⟩, rfl⟩
    obtain ⟨j1, hj1, e1⟩ := H1.out.is
    obtain ⟨j2, hj2, e2⟩ := h2.is
    have a1 := HH.out j1 hj1
    have a2 := HH.out j2 hj2
    have a3 := h2.all j1 hj1
    have a4 := HQ.out
    rw [e1] at a1 a3
    rw [e2] at a2
    have HZ := Aside0.mk (show m1 = q ∨ m1 = q + 1 by omega)
    have HZ2 := Aside0.mk (show m2 = q ∨ m2 = q + 1 by omega)
    by_cases hm : m2 = m1
    · have b1 : (m2 == m1) = true := beq_iff_eq.2 hm
      clear hm h2 e1 e2 a1 a2 a3 a4
      go_wp2
      go_ret
      exact ⟨rfl, rfl⟩
    · have b1 : (m2 == m1) = false := beq_eq_false_iff_ne.2 hm
      have b2 : m2 - 1 = m1 := by omega
      have b3 : (m2 - 1 == m1) = true := beq_iff_eq.2 b2
      have b4 : 0 ≤ m2 := by omega
      have b5 : m2 ≤ 2000000 := by omega
      clear hm h2 e1 e2 a1 a2 a3 a4 b2
      go_wp2
      go_ret
      exact ⟨rfl, rfl⟩
end Go.Proofs.YtofkkdjbilklcaaDoor.SN

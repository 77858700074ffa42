/- The law SizeTells walked: it returns true, whatever the array and the number of slots. -/
import Derived.Test.YtofkkdjbilklcaaDoorY9
import Derived.Test.YtofkkdjbilklcaaDoorYQ
import Derived.Test.YtofkkdjbilklcaaDoorSN
import Derived.Deep.RegionHeld3
namespace Go.Proofs.YtofkkdjbilklcaaDoor.YV
open Go.RowKit Go.Shelf Go.Proofs.YtofkkdjbilklcaaDoorW.PrintWords Go.Proofs.YtofkkdjbilklcaaDoorW.PrintLast Go.Proofs.YtofkkdjbilklcaaDoorW.PrintMore G1 G0 Q1 G2 G3 G4 G5 G6 G7 G8 G9 G10 S1 Y1 Y3 Y2 Y4 Y5 Y6 Y7 Y9 YQ
open L1 (capB)
set_option linter.unusedVariables false
set_option linter.unusedSimpArgs false
/-- append(out, x), of a row of the function's own; what is turned. -/
theorem append_only {ops : Array Oper} {rest : List Oper} {o : Oper} {a : Act} {Q : Exit → Act → World → Prop} {w0 W : World} {l : List Ob} (hgd : o.guard = none) (s x : Operand) (ho : o.op = .call { callee := .builtin .append, args := #[s, x], argTypes := #[22, 22] })
    {v : Value} {xs : List Int} (h : S1.Sep w0 W l) (i : Nat) (e : l[i]? = some (S1.Own v xs)) (y : Int) (hs : a.eval s = v) (hx : a.eval x = .slice (some ⟨W.heap.size, 0, none⟩) 1 1) (hl : xs.length ≤ 1000000)
    (K : ∀ v1 w1, S1.Sep w0 w1 (l.set i (S1.Own v1 (xs ++ [y]))) → Only (fun k => v.ownBlock = some k) W w1 → wpList Tryd.prog ops Q rest (a.put o.dst v1) w1) :
    wpList Tryd.prog ops Q (o :: rest) a (W.alloc (.cells #[.int .i64 y] 3)) := by
  refine print_append_num (w0 := W) 0 hgd s x 22 3 .i64 8 ho Tryd.underlying22 G9.info3 (by decide) v xs y hs hx (h.own i e) (Below.refl _ _) (Nat.zero_le _) (by omega) fun v1 w1 hown _ hg hat => ?_
  have ho : Only (fun k => v.ownBlock = some k) W w1 := ⟨hg.os, hg.tape, hg.output, hg.size, fun k hk hn => hg.block k hk (fun e => hn e.symm)⟩
  refine K v1 w1 (h.turn i e ho (fun k hk => by simp [S1.Own, hk]) _ hown fun k hk => ?_) ho
  have hk' : v1.ownBlock = some k := by simpa [S1.Own] using hk
  rcases hat with hat | ⟨b, hb, hle⟩
  · exact .inl (by simp only [S1.Own]; rw [← hat]; exact hk)
  · rw [hb] at hk'
    obtain rfl := Option.some.inj hk'
    exact .inr ⟨hle, own_lt hown _ (by rw [hb])⟩
theorem own_shape {w : World} {b e n : Nat} {v : Value} {xs : List Int} (h : w.ownsRow b e 1 v n (nums .i64 xs)) : ∃ A m c, v = .slice A m c := by
  obtain ⟨A, c, h, _⟩ := G9.own_C h
  exact ⟨A, n, c, h⟩
/-- Three rows that grow, each in its cell. -/
def T3 (b1 b2 b3 : Nat) (ps : List Int) (s : Value × Value × Value) (pre : List (Nat × Int)) : List Ob :=
  [S1.Own s.1 (vals pre), S1.Blk b1 #[s.1] 22, S1.Own s.2.1 (keys pre), S1.Blk b2 #[s.2.1] 22, S1.Own s.2.2 (ps.take pre.length), S1.Blk b3 #[s.2.2] 22]
set_option maxRecDepth 100000 in
set_option maxHeartbeats 2000000 in
theorem tell_any {w0 : World} {N b1 b2 b3 : Nat} {ps : List Int} (hN : N ≤ ps.length) (hN2 : ps.length ≤ 1000000) : Tell w0 N ps b1 b2 b3 (T3 b1 b2 b3 ps) := by
  refine ⟨fun s pre o ho => ?_, ?_⟩
  · simp only [T3, List.mem_cons, List.not_mem_nil, or_false] at ho
    rcases ho with rfl | rfl | rfl | rfl | rfl | rfl <;> first | exact celled_blk _ _ _ | exact celled_own _ _
  rintro ⟨r1, r2, r3⟩ pre ⟨i, x⟩ W L hlt hs
  have HS : Aside0 (Sep w0 W (S1.Own r1 (vals pre) :: S1.Blk b1 #[r1] 22 :: S1.Own r2 (keys pre) :: S1.Blk b2 #[r2] 22 :: S1.Own r3 (ps.take pre.length) :: S1.Blk b3 #[r3] 22 :: L)) := ⟨hs⟩
  obtain ⟨B1, m1, k1, e1⟩ := own_shape (HS.out.own 0 rfl)
  obtain ⟨B2, m2, k2, e2⟩ := own_shape (HS.out.own 2 rfl)
  obtain ⟨B3, m3, k3, e3⟩ := own_shape (HS.out.own 4 rfl)
  subst e1 e2 e3
  have HL : Aside0 ((vals pre).length ≤ 1000000 ∧ (keys pre).length ≤ 1000000 ∧ (ps.take pre.length).length ≤ 1000000) := ⟨by simp [vals, keys]; omega⟩
  have HP : Aside0 (ps.take (pre.length + 1) = ps.take pre.length ++ [ps.getD pre.length 0]) := ⟨by rw [List.take_succ_eq_append_getElem (by omega)]; simp [List.getD_eq_getElem?_getD, show pre.length < ps.length by omega]⟩
  have HO : Aside0 (Only (fun b => ∃ o ∈ T3 b1 b2 b3 ps (.slice B1 m1 k1, .slice B2 m2 k2, .slice B3 m3 k3) pre, b ∈ o.F) W W) := ⟨Only.of_below (Below.refl _ _)⟩
  have HM : Aside0 ((∀ k, (Value.slice B1 m1 k1).ownBlock = some k → ∃ o ∈ T3 b1 b2 b3 ps (.slice B1 m1 k1, .slice B2 m2 k2, .slice B3 m3 k3) pre, k ∈ o.F) ∧ (∀ k, (Value.slice B2 m2 k2).ownBlock = some k → ∃ o ∈ T3 b1 b2 b3 ps (.slice B1 m1 k1, .slice B2 m2 k2, .slice B3 m3 k3) pre, k ∈ o.F) ∧ (∀ k, (Value.slice B3 m3 k3).ownBlock = some k → ∃ o ∈ T3 b1 b2 b3 ps (.slice B1 m1 k1, .slice B2 m2 k2, .slice B3 m3 k3) pre, k ∈ o.F) ∧ (∃ o ∈ T3 b1 b2 b3 ps (.slice B1 m1 k1, .slice B2 m2 k2, .slice B3 m3 k3) pre, b1 ∈ o.F) ∧ (∃ o ∈ T3 b1 b2 b3 ps (.slice B1 m1 k1, .slice B2 m2 k2, .slice B3 m3 k3) pre, b2 ∈ o.F) ∧ (∃ o ∈ T3 b1 b2 b3 ps (.slice B1 m1 k1, .slice B2 m2 k2, .slice B3 m3 k3) pre, b3 ∈ o.F)) := ⟨by
    refine ⟨fun k hk => ⟨S1.Own (.slice B1 m1 k1) (vals pre), by simp [T3], by simp [S1.Own, hk]⟩, fun k hk => ⟨S1.Own (.slice B2 m2 k2) (keys pre), by simp [T3], by simp [S1.Own, hk]⟩, fun k hk => ⟨S1.Own (.slice B3 m3 k3) (ps.take pre.length), by simp [T3], by simp [S1.Own, hk]⟩, ⟨S1.Blk b1 #[.slice B1 m1 k1] 22, by simp [T3], by simp [S1.Blk]⟩, ⟨S1.Blk b2 #[.slice B2 m2 k2] 22, by simp [T3], by simp [S1.Blk]⟩, ⟨S1.Blk b3 #[.slice B3 m3 k3] 22, by simp [T3], by simp [S1.Blk]⟩⟩⟩
  generalize hT : (fun b => ∃ o ∈ T3 b1 b2 b3 ps (.slice B1 m1 k1, .slice B2 m2 k2, .slice B3 m3 k3) pre, b ∈ o.F) = SX at *
  clear hs
  dsimp only
  generalize ps.getD pre.length 0 = y at *
  have SXm : Aside0 ((∀ k, (Value.slice B1 m1 k1).ownBlock = some k → SX k) ∧ (∀ k, (Value.slice B2 m2 k2).ownBlock = some k → SX k) ∧ (∀ k, (Value.slice B3 m3 k3).ownBlock = some k → SX k) ∧ SX b1 ∧ SX b2 ∧ SX b3) := ⟨by subst hT; exact HM.out⟩
  have HT := Aside0.mk hT
  clear hT HM
  have f1 := blk_frozen (HS.out.blk 1 rfl) 0
  have c1 : (_ : Option Value) = some (.slice B1 m1 k1) := (blk_cell (HS.out.blk 1 rfl) 0).trans rfl
  go_enter Tryd.func59, Tryd.ntmps59
  go_wp2_with (first | ((with_reducible refine gate_builtin (b := .append) (xs := #[.tmp 17, .tmp 19]) rfl ?_); at_builtin; refine append_only rfl (.tmp 17) (.tmp 19) rfl HS2.out 4 rfl y rfl (by rw [World.size_setCell]; rfl) HL.out.2.2 ?_; intro v3 w3 hs2 ho2; obtain ⟨A3, n3, q3, ev3⟩ := own_shape (hs2.own 4 rfl); subst ev3; have f3 := blk_frozen (hs2.blk 5 rfl) 0; have c3 : (_ : Option Value) = some (.slice B3 m3 k3) := (blk_cell (hs2.blk 5 rfl) 0).trans rfl; have HS3 := Aside0.mk (hs2.turn_blk 5 rfl 0 (.slice A3 n3 q3)); have HO3 := Aside0.mk (HO2.out.trans ((ho2.mono SXm.out.2.2.1).trans (Only.set SX w3 (p := ⟨b3, 0, none⟩) SXm.out.2.2.2.2.2 (.slice A3 n3 q3)))); clear hs2 ho2) | ((with_reducible refine gate_builtin (b := .append) (xs := #[.tmp 13, .tmp 15]) rfl ?_); at_builtin; refine append_only rfl (.tmp 13) (.tmp 15) rfl HS1.out 2 rfl (i : Int) rfl (by rw [World.size_setCell]; rfl) HL.out.2.1 ?_; intro v2 w2 hs2 ho2; obtain ⟨A2, n2, q2, ev2⟩ := own_shape (hs2.own 2 rfl); subst ev2; have f2 := blk_frozen (hs2.blk 3 rfl) 0; have c2 : (_ : Option Value) = some (.slice B2 m2 k2) := (blk_cell (hs2.blk 3 rfl) 0).trans rfl; have HS2 := Aside0.mk (hs2.turn_blk 3 rfl 0 (.slice A2 n2 q2)); have HO2 := Aside0.mk (HO1.out.trans ((ho2.mono SXm.out.2.1).trans (Only.set SX w2 (p := ⟨b2, 0, none⟩) SXm.out.2.2.2.2.1 (.slice A2 n2 q2)))); have c3 : (_ : Option Value) = some (.slice B3 m3 k3) := (blk_cell (HS2.out.blk 5 rfl) 0).trans rfl; clear hs2 ho2) | ((with_reducible refine gate_builtin (b := .append) (xs := #[.tmp 9, .tmp 11]) rfl ?_); at_builtin; refine append_only rfl (.tmp 9) (.tmp 11) rfl HS.out 0 rfl x rfl rfl HL.out.1 ?_; intro v1 w1 hs2 ho2; obtain ⟨A1, n1, q1, ev1⟩ := own_shape (hs2.own 0 rfl); subst ev1; have f1 := blk_frozen (hs2.blk 1 rfl) 0; have c1 : (_ : Option Value) = some (.slice B1 m1 k1) := (blk_cell (hs2.blk 1 rfl) 0).trans rfl; have HS1 := Aside0.mk (hs2.turn_blk 1 rfl 0 (.slice A1 n1 q1)); have HO1 := Aside0.mk (HO.out.trans ((ho2.mono SXm.out.1).trans (Only.set SX w1 (p := ⟨b1, 0, none⟩) SXm.out.2.2.2.1 (.slice A1 n1 q1)))); have c2 : (_ : Option Value) = some (.slice B2 m2 k2) := (blk_cell (HS1.out.blk 3 rfl) 0).trans rfl; clear hs2 ho2))
  go_end0
  refine ⟨rfl, (.slice A1 n1 q1, .slice A2 n2 q2, .slice A3 n3 q3), ?_, HO3.out⟩
  have e1 : vals (pre ++ [(i, x)]) = vals pre ++ [x] := by simp [vals]
  have e2 : keys (pre ++ [(i, x)]) = keys pre ++ [(i : Int)] := by simp [keys]
  have e3 : (pre ++ [(i, x)]).length = pre.length + 1 := by simp
  show Sep w0 _ (S1.Own (.slice A1 n1 q1) (vals (pre ++ [(i, x)])) :: S1.Blk b1 #[.slice A1 n1 q1] 22 :: S1.Own (.slice A2 n2 q2) (keys (pre ++ [(i, x)])) :: S1.Blk b2 #[.slice A2 n2 q2] 22 :: S1.Own (.slice A3 n3 q3) (ps.take (pre ++ [(i, x)]).length) :: S1.Blk b3 #[.slice A3 n3 q3] 22 :: L)
  rw [e1, e2, e3, HP.out]
  exact HS3.out
theorem rows3 {w W : World} {L : List Ob} (h : Sep w W L) (ps : List Int) :
    Sep w ((((((W.alloc (.cells #[] 3)).alloc (.cells #[.slice (some ⟨W.heap.size, 0, none⟩) 0 0] 22)).alloc (.cells #[] 3)).alloc (.cells #[.slice (some ⟨W.heap.size + 1 + 1, 0, none⟩) 0 0] 22)).alloc (.cells #[] 3)).alloc (.cells #[.slice (some ⟨W.heap.size + 1 + 1 + 1 + 1, 0, none⟩) 0 0] 22))
      (L ++ T3 (W.heap.size + 1) (W.heap.size + 1 + 1 + 1) (W.heap.size + 1 + 1 + 1 + 1 + 1) ps (.slice (some ⟨W.heap.size, 0, none⟩) 0 0, .slice (some ⟨W.heap.size + 1 + 1, 0, none⟩) 0 0, .slice (some ⟨W.heap.size + 1 + 1 + 1 + 1, 0, none⟩) 0 0) []) := by
  have one : ∀ {W : World} {L : List Ob}, Sep w W L → Sep w ((W.alloc (.cells #[] 3)).alloc (.cells #[.slice (some ⟨W.heap.size, 0, none⟩) 0 0] 22)) (L ++ [S1.Own (.slice (some ⟨W.heap.size, 0, none⟩) 0 0) [], S1.Blk (W.heap.size + 1) #[.slice (some ⟨W.heap.size, 0, none⟩) 0 0] 22]) := by
    intro W L h
    have h1 := (h.new_own (xs := []) (below_alloc (Below.refl W.heap.size W) (.cells #[] 3)) (own_lit W W.heap.size 3 .i64 [] (Nat.le_refl _) (by simp))).new_blk #[.slice (some ⟨W.heap.size, 0, none⟩) 0 0] 22
    rw [World.size_alloc, List.append_assoc] at h1
    exact h1
  have h3 := one (one (one h))
  simp only [World.size_alloc, List.append_assoc, List.cons_append, List.nil_append] at h3
  exact h3
section
variable {w : World} {A : Option Addr} {c : Nat} {l : List Int}
set_option maxRecDepth 100000 in
theorem law_none (hT : Tb w) {n : Int} (h : 5000 < n ∨ 300 < l.length ∨ n < 1) (s : Int) : Calls Tryd.prog 11 #[.agg #[.int .i64 n, .slice A l.length c], .int .i64 s] w fun e w' => e = .returned (.bool true) ∧ Below w.heap.size w w' := by
  have HT := Aside0.mk hT
  have HS := Aside0.mk ((Sep.nil w).new_blk #[.int .i64 (n : Int), .slice A l.length c] 66)
  have c0 : (_ : Option Value) = some (.int .i64 (n : Int)) := (blk_cell (HS.out.blk 0 rfl) 0).trans rfl
  have c1 : (_ : Option Value) = some (.slice A l.length c) := (blk_cell (HS.out.blk 0 rfl) 1).trans rfl
  have C := Aside0.mk (fun w => made_none (A := A) (c := c) h w)
  clear hT h
  go_enter Tryd.func11, Tryd.ntmps11
  go_wp2_with fail
  refine (C.out _).mono ?_
  clear C c0 c1
  rintro e w1 ⟨rfl, hb⟩
  replace HS := Aside0.mk (HS.out.step hb)
  clear hb
  have C := Aside0.mk (awake_any _ (Kd.C_below HT.out HS.out.below))
  go_wp2_with fail
  refine C.out.mono ?_
  clear C
  rintro e w30 ⟨rfl, hb⟩
  replace HS := Aside0.mk (HS.out.step hb)
  clear hb
  go_wp2
  (try rw [Exit.noGoto_ret])
  go_ret
  exact ⟨rfl, HS.out.below⟩
set_option maxRecDepth 100000 in
set_option maxHeartbeats 8000000 in
theorem law_good (hT : Tb w) (hr : Kd.C (Kd.int .i64) w A l.length l) {n : Nat} (h1 : 1 ≤ n) (h2 : n ≤ 5000) (h3 : l.length ≤ 300) {S : Nat} (hc : capB (S : Int) = true) (hl : cntF (madeG n l l.length).on n ≤ S) : Calls Tryd.prog 11 #[.agg #[.int .i64 (n : Int), .slice A l.length c], .int .i64 (S : Int)] w fun e w' => e = .returned (.bool true) ∧ Below w.heap.size w w' := by
  have HT := Aside0.mk hT
  have HS := Aside0.mk ((Sep.nil w).new_blk #[.int .i64 (n : Int), .slice A l.length c] 66)
  have c0 : (_ : Option Value) = some (.int .i64 (n : Int)) := (blk_cell (HS.out.blk 0 rfl) 0).trans rfl
  have c1 : (_ : Option Value) = some (.slice A l.length c) := (blk_cell (HS.out.blk 0 rfl) 1).trans rfl
  have HN := Aside0.mk h2
  have HC := Aside0.mk hc
  have HL := Aside0.mk hl
  have C := Aside0.mk (made_yes (c := c) (Kd.C_below hr HS.out.below) h1 h2 h3)
  clear hT hr h1 h2 h3 hc hl
  go_enter Tryd.func11, Tryd.ntmps11
  go_wp2_with fail
  refine C.out.mono ?_
  clear C c0 c1
  rintro e w1 ⟨p, sb, ob, wb, rfl, hs1⟩
  replace HS := Aside0.mk (HS.out.append hs1)
  clear hs1
  generalize hg : madeG n l l.length = g at *
  clear hg
  obtain ⟨v, hv⟩ : ∃ v, vals (ons g.on g.xs n) = v := ⟨_, rfl⟩
  obtain ⟨kk, hkk⟩ : ∃ kk, keys (ons g.on g.xs n) = kk := ⟨_, rfl⟩
  obtain ⟨m, hm⟩ : ∃ m, cntF g.on n = m := ⟨_, rfl⟩
  have HV := Aside0.mk hv
  have HK := Aside0.mk hkk
  have HM := Aside0.mk hm
  have HVL : Aside0 (v.length = m) := ⟨by rw [← hv, vals, List.length_map, ons_length, hm]⟩
  have HKL : Aside0 (kk.length = m) := ⟨by rw [← hkk, keys, List.length_map, ons_length, hm]⟩
  have HMN : Aside0 (m ≤ 5000) := ⟨by have := cntF_le g.on n; have := HN.out; omega⟩
  clear hv hkk hm
  obtain ⟨vs, hs⟩ := HS.out.arr 1 rfl
  have C := items_any hs (Kd.C_below HT.out HS.out.below)
  clear hs vs
  rw [HV.out, HM.out] at C
  have C := Aside0.mk C
  go_wp2_with fail
  refine C.out.mono ?_
  clear C
  rintro e w2 ⟨A1, c1, rfl, g1, g2, g3, hb⟩
  replace HS := Aside0.mk (HS.out.append (own_conv hb g3 HVL.out))
  clear g1 g2 g3 hb
  obtain ⟨vs, hs⟩ := HS.out.arr 1 rfl
  have C := places_any hs (Kd.C_below HT.out HS.out.below)
  clear hs vs
  rw [HK.out, HM.out] at C
  have C := Aside0.mk C
  go_wp2_with fail
  refine C.out.mono ?_
  clear C
  rintro e w2 ⟨A2, c2, rfl, g1, g2, g3, hb⟩
  replace HS := Aside0.mk (HS.out.append (own_conv hb g3 HKL.out))
  clear g1 g2 g3 hb
  generalize hwx : w2 = W3 at *
  clear hwx
  obtain ⟨k, hk, hk1, hk2, _, _⟩ := cap_nat HC.out
  have hps := pl_len (n := m) 0 (show 1 ≤ k by omega)
  replace HS := Aside0.mk (rows3 HS.out (plK m k 0 k)).swap
  have C := resize_told (T := T3 (W3.heap.size + 1) (W3.heap.size + 1 + 1 + 1) (W3.heap.size + 1 + 1 + 1 + 1 + 1) (plK m k 0 k)) (x1 := W3.heap.size + 1) (x2 := W3.heap.size + 1 + 1 + 1) (x3 := W3.heap.size + 1 + 1 + 1 + 1 + 1) HS.out (p := p) (sb := sb) (ob := ob) (wb := wb) (n := n) (g := g) (List.mem_of_getElem? (i := 1) rfl) (fun o ho => by
    simp only [List.mem_append, List.mem_cons, List.not_mem_nil, or_false, false_or] at ho
    rcases ho with ((rfl | rfl) | rfl) | rfl <;> first | exact celled_blk _ _ _ | exact celled_own _ _ | exact celled_arr _ _ _ _ _ _) HT.out HC.out hk HL.out
    (by rw [HM.out]; exact tell_any (by omega) (by have := HMN.out; omega))
  have hcl : (ons g.on g.xs n).length = m := by rw [ons_length, HM.out]
  have htk : (plK m k 0 k).take (ons g.on g.xs n).length = plK m k 0 k := List.take_of_length_le (by omega)
  simp only [T3] at C
  rw [HV.out, HK.out, HM.out, htk] at C
  have C := Aside0.mk C
  have HKK := Aside0.mk (And.intro hk (And.intro hk1 hps))
  clear hk hk1 hk2 hps hcl htk
  go_wp2_with fail
  refine C.out.mono ?_
  clear C HS
  rintro e w5 ⟨⟨r1, r2, r3⟩, q, qs, qo, qw, rfl, hs5⟩
  generalize hz : W3.heap.size = z at *
  clear hz
  dsimp only at hs5
  obtain ⟨B1, k1, e1, _⟩ := G9.own_C (hs5.own 0 rfl)
  obtain ⟨B2, k2, e2, _⟩ := G9.own_C (hs5.own 2 rfl)
  obtain ⟨B3, k3, e3, _⟩ := G9.own_C (hs5.own 4 rfl)
  rw [HVL.out] at e1
  rw [HKL.out] at e2
  rw [HKK.out.2.2] at e3
  subst e1 e2 e3
  have HS : Aside0 (Sep w w5 [S1.Own (.slice B1 m k1) v, S1.Blk (z + 1) #[.slice B1 m k1] 22, S1.Own (.slice B2 m k2) kk, S1.Blk (z + 1 + 1 + 1) #[.slice B2 m k2] 22, S1.Own (.slice B3 m k3) (plK m k 0 k), S1.Blk (z + 1 + 1 + 1 + 1 + 1) #[.slice B3 m k3] 22, S1.Blk w.heap.size #[.int .i64 (n : Int), .slice A l.length c] 66, S1.Arr p sb ob wb n g, S1.Own (.slice A1 m c1) v, S1.Own (.slice A2 m c2) kk, S1.Arr q qs qo qw S (layG S (plK m k 0 k) v m)]) := ⟨hs5⟩
  clear hs5
  obtain ⟨vs, hs⟩ := HS.out.arr 7 rfl
  have C := items_any hs (Kd.C_below HT.out HS.out.below)
  clear hs vs
  rw [HV.out, HM.out] at C
  have C := Aside0.mk C
  go_wp2_with fail
  refine C.out.mono ?_
  clear C
  rintro e w2 ⟨A3, c3, rfl, g1, g2, g3, hb⟩
  replace HS := Aside0.mk (HS.out.step hb)
  have C := ints_any g2 g1 (HS.out.row 8 rfl).2.2 (HS.out.row 8 rfl).2.1 (by rw [HVL.out]; have := HMN.out; omega)
  rw [decide_eq_true rfl] at C
  have C := Aside0.mk C
  clear g1 g2 g3 hb
  go_wp2_with fail
  refine C.out.mono ?_
  clear C
  rintro e w6 ⟨rfl, hd⟩
  replace HS := Aside0.mk (HS.out.step hd.below)
  clear hd
  obtain ⟨vs, hs⟩ := HS.out.arr 7 rfl
  have C := places_any hs (Kd.C_below HT.out HS.out.below)
  clear hs vs
  rw [HK.out, HM.out] at C
  have C := Aside0.mk C
  go_wp2_with fail
  refine C.out.mono ?_
  clear C
  rintro e w2 ⟨A4, c4, rfl, g1, g2, g3, hb⟩
  replace HS := Aside0.mk (HS.out.step hb)
  have C := ints_any g2 g1 (HS.out.row 9 rfl).2.2 (HS.out.row 9 rfl).2.1 (by rw [HKL.out]; have := HMN.out; omega)
  rw [decide_eq_true rfl] at C
  have C := Aside0.mk C
  clear g1 g2 g3 hb
  go_wp2_with fail
  refine C.out.mono ?_
  clear C
  rintro e w6 ⟨rfl, hd⟩
  replace HS := Aside0.mk (HS.out.step hd.below)
  clear hd
  generalize hw6 : w6 = W6 at *
  clear hw6
  have d1 : (_ : Option Value) = some (.slice B1 m k1) := (blk_cell (HS.out.blk 1 rfl) 0).trans rfl
  have d2 : (_ : Option Value) = some (.slice B2 m k2) := (blk_cell (HS.out.blk 3 rfl) 0).trans rfl
  have d3 : (_ : Option Value) = some (.slice B3 m k3) := (blk_cell (HS.out.blk 5 rfl) 0).trans rfl
  have CI1 := Aside0.mk (fun (W : World) (hb : Below W6.heap.size W6 W) => ints_any (Kd.C_below (HS.out.row 0 rfl).2.2 hb) (HS.out.row 0 rfl).2.1 (Kd.C_below (HS.out.row 8 rfl).2.2 hb) (HS.out.row 8 rfl).2.1 (by rw [HVL.out]; have := HMN.out; omega))
  have CI2 := Aside0.mk (fun (W : World) (hb : Below W6.heap.size W6 W) => ints_any (Kd.C_below (HS.out.row 2 rfl).2.2 hb) (HS.out.row 2 rfl).2.1 (Kd.C_below (HS.out.row 9 rfl).2.2 hb) (HS.out.row 9 rfl).2.1 (by rw [HKL.out]; have := HMN.out; omega))
  have CPP := Aside0.mk (fun (W : World) (hb : Below W6.heap.size W6 W) => spread_places (l := v) (S := S) (k := k) (w := W) (p := q) (sb := qs) (ob := qo) (wb := qw) (by rw [HVL.out]; exact (HS.out.arr 10 rfl).below hb) (Kd.C_below (Kd.C_below HT.out HS.out.below) hb) (by have := HKK.out; omega) HKK.out.1 (by rw [HVL.out, ← HM.out]; exact HL.out))
  have CI4 := Aside0.mk (fun (W : World) (hb : Below W6.heap.size W6 W) (A' : Option Addr) (c' : Nat) (h1 : m ≤ c') (h2 : Kd.C (Kd.int .i64) W A' m (plK m k 0 k)) => ints_any (Kd.C_below (HS.out.row 4 rfl).2.2 hb) (HS.out.row 4 rfl).2.1 h2 h1 (by rw [HKK.out.2.2]; have := HMN.out; omega))
  rw [decide_eq_true rfl] at CI1 CI2 CI4
  rw [HVL.out] at CPP
  go_wp2
  go_region_held3 (fun W => Below W6.heap.size W6 W ∧ W.cell? ⟨z + 1, 0, none⟩ = some (.slice B1 m k1) ∧ W.cell? ⟨z + 1 + 1 + 1, 0, none⟩ = some (.slice B2 m k2) ∧ W.cell? ⟨z + 1 + 1 + 1 + 1 + 1, 0, none⟩ = some (.slice B3 m k3)) (first | exact ⟨HB4.out, z10, z11, z12⟩ | exact ⟨HB3.out, z7, z8, z9⟩ | exact ⟨HB2.out, z4, z5, z6⟩ | exact ⟨HB1.out, z1, z2, z3⟩ | exact ⟨below_drew (Below.refl _ _), d1, d2, d3⟩) (first
    | (go_at_call 47; refine (CI4.out _ HB3.out _ _ g7 g8).mono ?_; rintro e w10 ⟨rfl, hd⟩; have HB4 := Aside0.mk (below_step HB3.out hd.below); have z10 := pw_cell_below HB4.out d1; have z11 := pw_cell_below HB4.out d2; have z12 := pw_cell_below HB4.out d3; clear hd)
    | (go_at_call 29; refine (CPP.out _ HB2.out).mono ?_; rintro e w9 ⟨A7, c7, rfl, g7, g8, hb⟩; have HB3 := Aside0.mk (below_step HB2.out hb); have z7 := pw_cell_below HB3.out d1; have z8 := pw_cell_below HB3.out d2; have z9 := pw_cell_below HB3.out d3; clear hb)
    | (go_at_call 47; refine (CI2.out _ HB1.out).mono ?_; rintro e w8 ⟨rfl, hd⟩; have HB2 := Aside0.mk (below_step HB1.out hd.below); have z4 := pw_cell_below HB2.out d1; have z5 := pw_cell_below HB2.out d2; have z6 := pw_cell_below HB2.out d3; clear hd)
    | (go_at_call 47; refine (CI1.out _ (below_drew (Below.refl _ _))).mono ?_; rintro e w7 ⟨rfl, hd⟩; have HB1 := Aside0.mk (below_step (below_drew (Below.refl W6.heap.size W6)) hd.below); have z1 := pw_cell_below HB1.out d1; have z2 := pw_cell_below HB1.out d2; have z3 := pw_cell_below HB1.out d3; clear hd))
  replace HS := Aside0.mk (HS.out.step HB4.out)
  clear CI1 CI2 CPP CI4 HB1 HB2 HB3 HB4 d1 d2 d3 g7 g8
  have HRI := Aside0.mk (show Rise S (plK m k 0 k) by rw [HKK.out.1]; exact pl_rise (by have := HKK.out; omega) (by have := HL.out; have := HM.out; have := HKK.out; omega))
  go_wp2
  go_loopg [13] (m + 1) (fun kq v13 W => ∃ i : Nat, v13 = .int .i64 (i : Int) ∧ i ≤ m ∧ Aside0 (m + 1 - i ≤ kq) ∧ Aside0 (Below w10.heap.size w10 W))
  case atStart => exact ⟨0, rfl, by omega, ⟨by omega⟩, ⟨Below.refl _ _⟩⟩
  case round =>
    obtain ⟨i, rfl, hi, HQ, HB⟩ := hrel
    replace HS := Aside0.mk (HS.out.step HB.out)
    have d1 : (_ : Option Value) = some (.slice B1 m k1) := (blk_cell (HS.out.blk 1 rfl) 0).trans rfl
    have d3 : (_ : Option Value) = some (.slice B3 m k3) := (blk_cell (HS.out.blk 5 rfl) 0).trans rfl
    have hmn := HMN.out
    by_cases hlt : i < m
    · obtain ⟨ad3, e3, hx3⟩ := Kd.at_int (HS.out.row 4 rfl).2.2 (i : Int) (by omega) (by omega)
      obtain ⟨ad1, e1, hx1⟩ := Kd.at_int (HS.out.row 0 rfl).2.2 (i : Int) (by omega) (by omega)
      cases e3
      cases e1
      rw [Int.toNat_natCast, show rd (plK m k 0 k) (i : Int) = (plK m k 0 k).getD i 0 from rfl] at hx3
      rw [Int.toNat_natCast, show rd v (i : Int) = v.getD i 0 from rfl] at hx1
      have hL := lay_is (l := v) HRI.out m (by rw [HKK.out.2.2]; exact Nat.le_refl _)
      obtain ⟨pi, hpi⟩ := Int.eq_ofNat_of_zero_le (HRI.out.lo i (by rw [HKK.out.2.2]; exact hlt)).1
      have hpS : pi < S := by have := (HRI.out.lo i (by rw [HKK.out.2.2]; exact hlt)).2; omega
      have hon := (hL.2.1 pi).2 ⟨i, hlt, hpi⟩
      have hval := hL.2.2 i hlt
      rw [hpi, Int.toNat_natCast] at hval
      obtain ⟨vs, hs⟩ := HS.out.arr 10 rfl
      have C := at_on hs hpS hon
      rw [hval] at C
      have C := Aside0.mk C
      rw [hpi] at hx3
      clear hs vs hL hpS hon hval hpi
      generalize v.getD i 0 = x at *
      have qv : (x != x) = false := by simp
      go_wp2_with fail
      refine C.out.mono ?_
      clear C
      rintro e wa ⟨rfl, rfl⟩
      go_wp2
      go_roundg (m - i)
      case measure => have := HQ.out; omega
      case rel => exact ⟨i + 1, by go_num, by omega, ⟨by omega⟩, HB⟩
    · obtain rfl : i = m := by omega
      have C := Aside0.mk (awake_any _ (Kd.C_below HT.out HS.out.below))
      go_wp2_with fail
      refine C.out.mono ?_
      clear C
      rintro e w30 ⟨rfl, hb⟩
      replace HS := Aside0.mk (HS.out.step hb)
      clear hb
      go_wp2
      (try rw [Exit.noGoto_ret])
      go_ret
      exact ⟨rfl, HS.out.below⟩
set_option maxRecDepth 100000 in
set_option maxHeartbeats 2000000 in
theorem law_bad (hT : Tb w) (hr : Kd.C (Kd.int .i64) w A l.length l) {n : Nat} (h1 : 1 ≤ n) (h2 : n ≤ 5000) (h3 : l.length ≤ 300) {s : Int} (hc : capB s = false) : Calls Tryd.prog 11 #[.agg #[.int .i64 (n : Int), .slice A l.length c], .int .i64 s] w fun e w' => e = .returned (.bool true) ∧ Below w.heap.size w w' := by
  have HT := Aside0.mk hT
  have HS := Aside0.mk ((Sep.nil w).new_blk #[.int .i64 (n : Int), .slice A l.length c] 66)
  have c0 : (_ : Option Value) = some (.int .i64 (n : Int)) := (blk_cell (HS.out.blk 0 rfl) 0).trans rfl
  have c1 : (_ : Option Value) = some (.slice A l.length c) := (blk_cell (HS.out.blk 0 rfl) 1).trans rfl
  have HN := Aside0.mk h2
  have HC := Aside0.mk hc
  have C := Aside0.mk (made_yes (c := c) (Kd.C_below hr HS.out.below) h1 h2 h3)
  clear hT hr h1 h2 h3 hc
  go_enter Tryd.func11, Tryd.ntmps11
  go_wp2_with fail
  refine C.out.mono ?_
  clear C c0 c1
  rintro e w1 ⟨p, sb, ob, wb, rfl, hs1⟩
  replace HS := Aside0.mk (HS.out.append hs1)
  clear hs1
  generalize hg : madeG n l l.length = g at *
  clear hg
  obtain ⟨v, hv⟩ : ∃ v, vals (ons g.on g.xs n) = v := ⟨_, rfl⟩
  obtain ⟨kk, hkk⟩ : ∃ kk, keys (ons g.on g.xs n) = kk := ⟨_, rfl⟩
  obtain ⟨m, hm⟩ : ∃ m, cntF g.on n = m := ⟨_, rfl⟩
  have HV := Aside0.mk hv
  have HK := Aside0.mk hkk
  have HM := Aside0.mk hm
  have HVL : Aside0 (v.length = m) := ⟨by rw [← hv, vals, List.length_map, ons_length, hm]⟩
  have HKL : Aside0 (kk.length = m) := ⟨by rw [← hkk, keys, List.length_map, ons_length, hm]⟩
  have HMN : Aside0 (m ≤ 5000) := ⟨by have := cntF_le g.on n; have := HN.out; omega⟩
  clear hv hkk hm
  obtain ⟨vs, hs⟩ := HS.out.arr 1 rfl
  have C := items_any hs (Kd.C_below HT.out HS.out.below)
  clear hs vs
  rw [HV.out, HM.out] at C
  have C := Aside0.mk C
  go_wp2_with fail
  refine C.out.mono ?_
  clear C
  rintro e w2 ⟨A1, c1, rfl, g1, g2, g3, hb⟩
  replace HS := Aside0.mk (HS.out.append (own_conv hb g3 HVL.out))
  clear g1 g2 g3 hb
  obtain ⟨vs, hs⟩ := HS.out.arr 1 rfl
  have C := places_any hs (Kd.C_below HT.out HS.out.below)
  clear hs vs
  rw [HK.out, HM.out] at C
  have C := Aside0.mk C
  go_wp2_with fail
  refine C.out.mono ?_
  clear C
  rintro e w2 ⟨A2, c2, rfl, g1, g2, g3, hb⟩
  replace HS := Aside0.mk (HS.out.append (own_conv hb g3 HKL.out))
  clear g1 g2 g3 hb
  generalize hwx : w2 = W3 at *
  clear hwx
  replace HS := Aside0.mk (rows3 HS.out [])
  go_wp2_with fail
  refine (resize_badF (HS.out.arr 1 rfl) HC.out _ _).mono ?_
  rintro e w5 ⟨rfl, hb⟩
  replace HS := Aside0.mk (HS.out.step hb)
  clear hb
  generalize hz : W3.heap.size = z at *
  clear hz
  obtain ⟨vs, hs⟩ := HS.out.arr 1 rfl
  have C := items_any hs (Kd.C_below HT.out HS.out.below)
  clear hs vs
  rw [HV.out, HM.out] at C
  have C := Aside0.mk C
  go_wp2_with fail
  refine C.out.mono ?_
  clear C
  rintro e w2 ⟨A3, c3, rfl, g1, g2, g3, hb⟩
  replace HS := Aside0.mk (HS.out.step hb)
  have C := ints_any g2 g1 (HS.out.row 2 rfl).2.2 (HS.out.row 2 rfl).2.1 (by rw [HVL.out]; have := HMN.out; omega)
  rw [decide_eq_true rfl] at C
  have C := Aside0.mk C
  clear g1 g2 g3 hb
  go_wp2_with fail
  refine C.out.mono ?_
  clear C
  rintro e w6 ⟨rfl, hd⟩
  replace HS := Aside0.mk (HS.out.step hd.below)
  clear hd
  obtain ⟨vs, hs⟩ := HS.out.arr 1 rfl
  have C := places_any hs (Kd.C_below HT.out HS.out.below)
  clear hs vs
  rw [HK.out, HM.out] at C
  have C := Aside0.mk C
  go_wp2_with fail
  refine C.out.mono ?_
  clear C
  rintro e w2 ⟨A4, c4, rfl, g1, g2, g3, hb⟩
  replace HS := Aside0.mk (HS.out.step hb)
  have C := ints_any g2 g1 (HS.out.row 3 rfl).2.2 (HS.out.row 3 rfl).2.1 (by rw [HKL.out]; have := HMN.out; omega)
  rw [decide_eq_true rfl] at C
  have C := Aside0.mk C
  clear g1 g2 g3 hb
  go_wp2_with fail
  refine C.out.mono ?_
  clear C
  rintro e w6 ⟨rfl, hd⟩
  replace HS := Aside0.mk (HS.out.step hd.below)
  clear hd
  have d1 : (_ : Option Value) = some (.slice (some ⟨z, 0, none⟩) 0 0) := (blk_cell (HS.out.blk 5 rfl) 0).trans rfl
  have C := Aside0.mk (awake_any _ (Kd.C_below HT.out HS.out.below))
  go_wp2_with fail
  refine C.out.mono ?_
  clear C
  rintro e w30 ⟨rfl, hb⟩
  replace HS := Aside0.mk (HS.out.step hb)
  clear hb
  go_wp2
  (try rw [Exit.noGoto_ret])
  go_ret
  exact ⟨rfl, HS.out.below⟩
set_option maxRecDepth 100000 in
set_option maxHeartbeats 2000000 in
theorem law_long (hT : Tb w) (hr : Kd.C (Kd.int .i64) w A l.length l) {n : Nat} (h1 : 1 ≤ n) (h2 : n ≤ 5000) (h3 : l.length ≤ 300) {S : Nat} (hc : capB (S : Int) = true) (hl : S < cntF (madeG n l l.length).on n) : Calls Tryd.prog 11 #[.agg #[.int .i64 (n : Int), .slice A l.length c], .int .i64 (S : Int)] w fun e w' => e = .returned (.bool true) ∧ Below w.heap.size w w' := by
  have HT := Aside0.mk hT
  have HS := Aside0.mk ((Sep.nil w).new_blk #[.int .i64 (n : Int), .slice A l.length c] 66)
  have c0 : (_ : Option Value) = some (.int .i64 (n : Int)) := (blk_cell (HS.out.blk 0 rfl) 0).trans rfl
  have c1 : (_ : Option Value) = some (.slice A l.length c) := (blk_cell (HS.out.blk 0 rfl) 1).trans rfl
  have HN := Aside0.mk h2
  have HC := Aside0.mk hc
  have HL := Aside0.mk hl
  have C := Aside0.mk (made_yes (c := c) (Kd.C_below hr HS.out.below) h1 h2 h3)
  clear hT hr h1 h2 h3 hc hl
  go_enter Tryd.func11, Tryd.ntmps11
  go_wp2_with fail
  refine C.out.mono ?_
  clear C c0 c1
  rintro e w1 ⟨p, sb, ob, wb, rfl, hs1⟩
  replace HS := Aside0.mk (HS.out.append hs1)
  clear hs1
  generalize hg : madeG n l l.length = g at *
  clear hg
  obtain ⟨v, hv⟩ : ∃ v, vals (ons g.on g.xs n) = v := ⟨_, rfl⟩
  obtain ⟨kk, hkk⟩ : ∃ kk, keys (ons g.on g.xs n) = kk := ⟨_, rfl⟩
  obtain ⟨m, hm⟩ : ∃ m, cntF g.on n = m := ⟨_, rfl⟩
  have HV := Aside0.mk hv
  have HK := Aside0.mk hkk
  have HM := Aside0.mk hm
  have HVL : Aside0 (v.length = m) := ⟨by rw [← hv, vals, List.length_map, ons_length, hm]⟩
  have HKL : Aside0 (kk.length = m) := ⟨by rw [← hkk, keys, List.length_map, ons_length, hm]⟩
  have HMN : Aside0 (m ≤ 5000) := ⟨by have := cntF_le g.on n; have := HN.out; omega⟩
  clear hv hkk hm
  obtain ⟨vs, hs⟩ := HS.out.arr 1 rfl
  have C := items_any hs (Kd.C_below HT.out HS.out.below)
  clear hs vs
  rw [HV.out, HM.out] at C
  have C := Aside0.mk C
  go_wp2_with fail
  refine C.out.mono ?_
  clear C
  rintro e w2 ⟨A1, c1, rfl, g1, g2, g3, hb⟩
  replace HS := Aside0.mk (HS.out.append (own_conv hb g3 HVL.out))
  clear g1 g2 g3 hb
  obtain ⟨vs, hs⟩ := HS.out.arr 1 rfl
  have C := places_any hs (Kd.C_below HT.out HS.out.below)
  clear hs vs
  rw [HK.out, HM.out] at C
  have C := Aside0.mk C
  go_wp2_with fail
  refine C.out.mono ?_
  clear C
  rintro e w2 ⟨A2, c2, rfl, g1, g2, g3, hb⟩
  replace HS := Aside0.mk (HS.out.append (own_conv hb g3 HKL.out))
  clear g1 g2 g3 hb
  generalize hwx : w2 = W3 at *
  clear hwx
  replace HS := Aside0.mk (rows3 HS.out [])
  go_wp2_with fail
  refine (resize_longF (HS.out.arr 1 rfl) HC.out HL.out _ _).mono ?_
  rintro e w5 ⟨rfl, hb⟩
  replace HS := Aside0.mk (HS.out.step hb)
  clear hb
  generalize hz : W3.heap.size = z at *
  clear hz
  obtain ⟨vs, hs⟩ := HS.out.arr 1 rfl
  have C := items_any hs (Kd.C_below HT.out HS.out.below)
  clear hs vs
  rw [HV.out, HM.out] at C
  have C := Aside0.mk C
  go_wp2_with fail
  refine C.out.mono ?_
  clear C
  rintro e w2 ⟨A3, c3, rfl, g1, g2, g3, hb⟩
  replace HS := Aside0.mk (HS.out.step hb)
  have C := ints_any g2 g1 (HS.out.row 2 rfl).2.2 (HS.out.row 2 rfl).2.1 (by rw [HVL.out]; have := HMN.out; omega)
  rw [decide_eq_true rfl] at C
  have C := Aside0.mk C
  clear g1 g2 g3 hb
  go_wp2_with fail
  refine C.out.mono ?_
  clear C
  rintro e w6 ⟨rfl, hd⟩
  replace HS := Aside0.mk (HS.out.step hd.below)
  clear hd
  obtain ⟨vs, hs⟩ := HS.out.arr 1 rfl
  have C := places_any hs (Kd.C_below HT.out HS.out.below)
  clear hs vs
  rw [HK.out, HM.out] at C
  have C := Aside0.mk C
  go_wp2_with fail
  refine C.out.mono ?_
  clear C
  rintro e w2 ⟨A4, c4, rfl, g1, g2, g3, hb⟩
  replace HS := Aside0.mk (HS.out.step hb)
  have C := ints_any g2 g1 (HS.out.row 3 rfl).2.2 (HS.out.row 3 rfl).2.1 (by rw [HKL.out]; have := HMN.out; omega)
  rw [decide_eq_true rfl] at C
  have C := Aside0.mk C
  clear g1 g2 g3 hb
  go_wp2_with fail
  refine C.out.mono ?_
  clear C
  rintro e w6 ⟨rfl, hd⟩
  replace HS := Aside0.mk (HS.out.step hd.below)
  clear hd
  have d1 : (_ : Option Value) = some (.slice (some ⟨z, 0, none⟩) 0 0) := (blk_cell (HS.out.blk 5 rfl) 0).trans rfl
  have C := Aside0.mk (awake_any _ (Kd.C_below HT.out HS.out.below))
  go_wp2_with fail
  refine C.out.mono ?_
  clear C
  rintro e w30 ⟨rfl, hb⟩
  replace HS := Aside0.mk (HS.out.step hb)
  clear hb
  go_wp2
  (try rw [Exit.noGoto_ret])
  go_ret
  exact ⟨rfl, HS.out.below⟩
end
theorem law (n : Int) (wn : (Lit.int .i64 n).wf = true) (A : Option Addr) (c : Nat) (l : List Int) {W0 : World} (g : Kd.C (Kd.int .i64) W0 A l.length l) (e : l.length ≤ c) (wl : ∀ x ∈ l, (Lit.int .i64 x).wf = true) (s : Int) (ws : (Lit.int .i64 s).wf = true) (W : World) (hT : Tb W) (hW : W = W0 := by rfl) :
    Calls Tryd.prog 11 #[.agg #[.int .i64 n, .slice A l.length c], .int .i64 s] W fun e w' => e = .returned (.bool true) ∧ Below W.heap.size W w' := by
  subst hW
  by_cases h : 5000 < n ∨ 300 < l.length ∨ n < 1
  · exact law_none hT h s
  · obtain ⟨n, rfl⟩ := Int.eq_ofNat_of_zero_le (show 0 ≤ n by omega)
    cases hc : capB s with
    | false => exact law_bad hT g (by omega) (by omega) (by omega) hc
    | true =>
      obtain ⟨S, rfl⟩ := Int.eq_ofNat_of_zero_le (show 0 ≤ s by have := of_decide_eq_true hc; omega)
      by_cases hl : cntF (madeG n l l.length).on n ≤ S
      · exact law_good hT g (by omega) (by omega) (by omega) hc hl
      · exact law_long hT g (by omega) (by omega) (by omega) hc (by omega)
end Go.Proofs.YtofkkdjbilklcaaDoor.YV

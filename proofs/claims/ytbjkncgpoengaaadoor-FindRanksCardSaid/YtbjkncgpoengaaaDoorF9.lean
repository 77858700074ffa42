/- The law FindKeeps walked: what is told of no array, and that a search turns nothing. -/
import Derived.Test.YtbjkncgpoengaaaDoorF6
import Derived.Test.YtbjkncgpoengaaaDoorF8
namespace Go.Proofs.YtbjkncgpoengaaaDoor.F9
open Go.RowKit Go.Proofs.YtbjkncgpoengaaaDoorW.PrintWords Go.Proofs.YtbjkncgpoengaaaDoorW.PrintLast Go.Proofs.YtbjkncgpoengaaaDoorW.PrintMore G1 G0 Q1 G2 G3 G4 G5 G6 G7 G8 G9 G10 G11 F1 F2 S1 F4 F5 F7 F8
set_option linter.unusedVariables false
set_option linter.unusedSimpArgs false

set_option maxHeartbeats 1000000 in
set_option maxRecDepth 100000 in
theorem search_nil_lt (w : World) (kb : Nat) : Calls Tryd.prog 63 #[.pointer none, .func (.func 64) #[] #[.pointer (some ⟨kb, 0, none⟩)]] w fun e w' => e = .returned (.tuple #[.int .i64 (-1), .int .i64 0]) ∧ w = w' := by
  go_enter Tryd.func63, Tryd.ntmps63
  go_wp2
  refine wp_scope_back 0 (fun a' w' => ∃ (u10 u11 u12 u13 u14 u15 u16 u17 u18 u19 u20 u21 u22 u23 u24 u25 u26 u27 u28 u29 u30 u31 u32 u33 u34 u35 u36 u37 u38 u39 u40 u41 u42 u43 u44 u45 u46 u47 u48 u49 u50 u51 u52 : Value), a' = { tmps := #[.pointer none, .func (.func 64) #[] #[.pointer (some ⟨kb, 0, none⟩)], undef, undef, .int .i64 0, .int .i64 0, .int .i64 0, .int .i64 0, .int .i64 (-1), .int .i64 0, u10, u11, u12, u13, u14, u15, u16, u17, u18, u19, u20, u21, u22, u23, u24, u25, u26, u27, u28, u29, u30, u31, u32, u33, u34, u35, u36, u37, u38, u39, u40, u41, u42, u43, u44, u45, u46, u47, u48, u49, u50, u51, u52], defers := [] } ∧ w = w') (fun _ _ => 0) rfl ?pass ?first
  case first =>
    intro hlabel
    have HL := Aside0.mk hlabel
    clear hlabel
    go_wp2_with fail
    refine (cap_nil w).mono ?_
    rintro e w1 ⟨rfl, rfl⟩
    go_wp2
    go_step3
    simp only [Exit.then]
    apply_assumption
    exact HL.out _ _ ⟨_, _, _, _, _, _, _, _, _, _, _, _, _, _, _, _, _, _, _, _, _, _, _, _, _, _, _, _, _, _, _, _, _, _, _, _, _, _, _, _, _, _, _, rfl, rfl⟩
  case pass =>
    rintro a' w0 ⟨u10, u11, u12, u13, u14, u15, u16, u17, u18, u19, u20, u21, u22, u23, u24, u25, u26, u27, u28, u29, u30, u31, u32, u33, u34, u35, u36, u37, u38, u39, u40, u41, u42, u43, u44, u45, u46, u47, u48, u49, u50, u51, u52, rfl, rfl⟩
    go_wp2
    simp only [Exit.jump]
    go_ret2
    exact ⟨rfl, rfl⟩
set_option maxHeartbeats 1000000 in
set_option maxRecDepth 100000 in
theorem search_nil_le (w : World) (kb : Nat) : Calls Tryd.prog 63 #[.pointer none, .func (.func 65) #[] #[.pointer (some ⟨kb, 0, none⟩)]] w fun e w' => e = .returned (.tuple #[.int .i64 (-1), .int .i64 0]) ∧ w = w' := by
  go_enter Tryd.func63, Tryd.ntmps63
  go_wp2
  refine wp_scope_back 0 (fun a' w' => ∃ (u10 u11 u12 u13 u14 u15 u16 u17 u18 u19 u20 u21 u22 u23 u24 u25 u26 u27 u28 u29 u30 u31 u32 u33 u34 u35 u36 u37 u38 u39 u40 u41 u42 u43 u44 u45 u46 u47 u48 u49 u50 u51 u52 : Value), a' = { tmps := #[.pointer none, .func (.func 65) #[] #[.pointer (some ⟨kb, 0, none⟩)], undef, undef, .int .i64 0, .int .i64 0, .int .i64 0, .int .i64 0, .int .i64 (-1), .int .i64 0, u10, u11, u12, u13, u14, u15, u16, u17, u18, u19, u20, u21, u22, u23, u24, u25, u26, u27, u28, u29, u30, u31, u32, u33, u34, u35, u36, u37, u38, u39, u40, u41, u42, u43, u44, u45, u46, u47, u48, u49, u50, u51, u52], defers := [] } ∧ w = w') (fun _ _ => 0) rfl ?pass ?first
  case first =>
    intro hlabel
    have HL := Aside0.mk hlabel
    clear hlabel
    go_wp2_with fail
    refine (cap_nil w).mono ?_
    rintro e w1 ⟨rfl, rfl⟩
    go_wp2
    go_step3
    simp only [Exit.then]
    apply_assumption
    exact HL.out _ _ ⟨_, _, _, _, _, _, _, _, _, _, _, _, _, _, _, _, _, _, _, _, _, _, _, _, _, _, _, _, _, _, _, _, _, _, _, _, _, _, _, _, _, _, _, rfl, rfl⟩
  case pass =>
    rintro a' w0 ⟨u10, u11, u12, u13, u14, u15, u16, u17, u18, u19, u20, u21, u22, u23, u24, u25, u26, u27, u28, u29, u30, u31, u32, u33, u34, u35, u36, u37, u38, u39, u40, u41, u42, u43, u44, u45, u46, u47, u48, u49, u50, u51, u52, rfl, rfl⟩
    go_wp2
    simp only [Exit.jump]
    go_ret2
    exact ⟨rfl, rfl⟩
theorem lower_nil (key : Int) (w : World) : Calls Tryd.prog 35 #[.pointer none, .int .i64 key] w fun e w' => e = .returned (.tuple #[.int .i64 (-1), .int .i64 0]) ∧ Below w.heap.size w w' := by
  have HB := Aside0.mk (below_alloc (Below.refl w.heap.size w) (.cells #[.int .i64 key] 3))
  go_enter Tryd.func35, Tryd.ntmps35
  go_wp2_with fail
  refine (search_nil_lt _ _).mono ?_
  rintro e w1 ⟨rfl, rfl⟩
  go_wp2
  go_ret2
  exact ⟨rfl, HB.out⟩
theorem upper_nil (key : Int) (w : World) : Calls Tryd.prog 36 #[.pointer none, .int .i64 key] w fun e w' => e = .returned (.tuple #[.int .i64 (-1), .int .i64 0]) ∧ Below w.heap.size w w' := by
  have HB := Aside0.mk (below_alloc (Below.refl w.heap.size w) (.cells #[.int .i64 key] 3))
  go_enter Tryd.func36, Tryd.ntmps36
  go_wp2_with fail
  refine (search_nil_le _ _).mono ?_
  rintro e w1 ⟨rfl, rfl⟩
  go_wp2
  go_ret2
  exact ⟨rfl, HB.out⟩
theorem before_nil (key : Int) (w : World) : Calls Tryd.prog 37 #[.pointer none, .int .i64 key] w fun e w' => e = .returned (.tuple #[.int .i64 (-1), .int .i64 0]) ∧ Below w.heap.size w w' := by
  go_enter Tryd.func37, Tryd.ntmps37
  go_wp2_with fail
  refine (lower_nil key w).mono ?_
  rintro e w1 ⟨rfl, hw⟩
  have HB := Aside0.mk hw
  clear hw
  go_wp2_with fail
  refine (cap_nil _).mono ?_
  rintro e w2 ⟨rfl, rfl⟩
  go_wp2_with fail
  refine (sprev_nil _ _).mono ?_
  rintro e w2 ⟨rfl, rfl⟩
  go_wp2
  go_ret2
  exact ⟨rfl, HB.out⟩
theorem exact_nil (key : Int) (w : World) : Calls Tryd.prog 38 #[.pointer none, .int .i64 key] w fun e w' => e = .returned (.tuple #[.int .i64 (-1), .int .i64 0]) ∧ Below w.heap.size w w' := by
  go_enter Tryd.func38, Tryd.ntmps38
  go_wp2_with fail
  refine (lower_nil key w).mono ?_
  rintro e w1 ⟨rfl, hw⟩
  have HB := Aside0.mk hw
  clear hw
  go_wp2
  go_ret2
  exact ⟨rfl, HB.out⟩
/-- A slot that is free holds nothing. -/
def Clean (g : Gap) : Prop := ∀ i, g.on i = false → g.xs.getD i 0 = 0
theorem clean0 (n : Nat) : Clean (gap0 n) := fun i _ => by
  rw [List.getD_eq_getElem?_getD]
  simp [gap0, List.getElem?_replicate]
  split <;> rfl
theorem clean_put {n : Nat} {g : Gap} (h : Clean g) (i x : Int) : Clean (putS n g i x) := by
  unfold putS
  split
  · intro j hj
    by_cases e : j = i.toNat
    · subst e
      simp [upd] at hj
    · have h2 := h j (by simpa [upd, e] using hj)
      rw [List.getD_eq_getElem?_getD, List.getElem?_set_ne (Ne.symm e), ← List.getD_eq_getElem?_getD]
      exact h2
  · exact h
theorem clean_lay (n : Nat) (l : List Ky) : Clean (layS n l) := by
  unfold layS
  have go : ∀ (l : List Ky) (g : Gap), Clean g → Clean (l.foldl (fun g k => putS n g k.a k.k) g) := by
    intro l
    induction l with
    | nil => intro g h; exact h
    | cons k l ih => intro g h; exact ih _ (clean_put h _ _)
  exact go l _ (clean0 n)
set_option maxHeartbeats 1000000 in
theorem law_no (n : Int) (A : Option Addr) (c : Nat) (l : List Ky) (key : Int) (w : World) (hT : Tb w) (hr : Kd.C kKey w A l.length l) (h : n < 1 ∨ 5000 < n ∨ 300 < l.length) :
    Calls Tryd.prog 9 #[.agg #[.int .i64 n, .slice A l.length c], .int .i64 key] w fun e w' => e = .returned (.bool true) ∧ Below w.heap.size w w' := by
  have HS := Aside0.mk ((Sep.nil w).new_blk #[.int .i64 n, .slice A l.length c] 63)
  have HT := Aside0.mk hT
  have HR := Aside0.mk hr
  clear hT hr
  go_enter Tryd.func9, Tryd.ntmps9
  go_wp2_with fail
  refine (lower_nil key _).mono ?_
  rintro e w1 ⟨rfl, hw⟩
  replace HS := Aside0.mk (HS.out.step hw)
  clear hw
  go_wp2_with fail
  refine (upper_nil key _).mono ?_
  rintro e w2 ⟨rfl, hw⟩
  replace HS := Aside0.mk (HS.out.step hw)
  clear hw
  go_wp2_with fail
  refine (before_nil key _).mono ?_
  rintro e w3 ⟨rfl, hw⟩
  replace HS := Aside0.mk (HS.out.step hw)
  clear hw
  go_wp2_with fail
  refine (exact_nil key _).mono ?_
  rintro e w4 ⟨rfl, hw⟩
  replace HS := Aside0.mk (HS.out.step hw)
  clear hw
  go_wp2_with fail
  refine (sorted_any (L := []) (.inl ⟨rfl, rfl⟩) rfl).mono ?_
  rintro e w5 ⟨rfl, hw⟩
  replace HS := Aside0.mk (HS.out.step hw)
  clear hw
  have t0 : (_ : Option Value) = some (.int .i64 n) := (blk_cell (HS.out.blk 0 rfl) 0).trans rfl
  have t1 : (_ : Option Value) = some (.slice A l.length c) := (blk_cell (HS.out.blk 0 rfl) 1).trans rfl
  have C := Aside0.mk (made_no n A c l w5 h)
  clear h
  go_wp2_with fail
  refine C.out.mono ?_
  clear t0 t1 C
  rintro e w6 ⟨rfl, hw⟩
  replace HS := Aside0.mk (HS.out.step hw)
  clear hw
  have C := Aside0.mk (F6.awake_any _ (Kd.C_below HT.out HS.out.below))
  go_wp2_with fail
  refine C.out.mono ?_
  rintro e w20 ⟨rfl, hw⟩
  replace HS := Aside0.mk (HS.out.step hw)
  clear hw
  go_wp2
  go_ret
  exact ⟨rfl, HS.out.below⟩
set_option maxRecDepth 100000 in
set_option maxHeartbeats 1000000 in
theorem law_yes (n : Nat) (A : Option Addr) (c : Nat) (l : List Ky) (key : Int) (w : World) (hT : Tb w) (hr : Kd.C kKey w A l.length l) (h1 : 1 ≤ n) (h2 : n ≤ 5000) (h3 : l.length ≤ 300) :
    Calls Tryd.prog 9 #[.agg #[.int .i64 n, .slice A l.length c], .int .i64 key] w fun e w' => e = .returned (.bool true) ∧ Below w.heap.size w w' := by
  have HS := Aside0.mk ((Sep.nil w).new_blk #[.int .i64 n, .slice A l.length c] 63)
  have HT := Aside0.mk hT
  have HR := Aside0.mk hr
  clear hT hr
  go_enter Tryd.func9, Tryd.ntmps9
  go_wp2_with fail
  refine (lower_nil key _).mono ?_
  rintro e w1 ⟨rfl, hw⟩
  replace HS := Aside0.mk (HS.out.step hw)
  clear hw
  go_wp2_with fail
  refine (upper_nil key _).mono ?_
  rintro e w2 ⟨rfl, hw⟩
  replace HS := Aside0.mk (HS.out.step hw)
  clear hw
  go_wp2_with fail
  refine (before_nil key _).mono ?_
  rintro e w3 ⟨rfl, hw⟩
  replace HS := Aside0.mk (HS.out.step hw)
  clear hw
  go_wp2_with fail
  refine (exact_nil key _).mono ?_
  rintro e w4 ⟨rfl, hw⟩
  replace HS := Aside0.mk (HS.out.step hw)
  clear hw
  go_wp2_with fail
  refine (sorted_any (L := []) (.inl ⟨rfl, rfl⟩) rfl).mono ?_
  rintro e w5 ⟨rfl, hw⟩
  replace HS := Aside0.mk (HS.out.step hw)
  clear hw
  have t0 : (_ : Option Value) = some (.int .i64 n) := (blk_cell (HS.out.blk 0 rfl) 0).trans rfl
  have t1 : (_ : Option Value) = some (.slice A l.length c) := (blk_cell (HS.out.blk 0 rfl) 1).trans rfl
  have C := Aside0.mk (made_yes n A c l w5 (Kd.C_below HR.out HS.out.below) h1 h2 h3)
  go_wp2_with fail
  refine C.out.mono ?_
  clear t0 t1 C
  rintro e w6 ⟨p, sb, ob, wb, lb, rfl, hS⟩
  have CL := Aside0.mk (clean_lay n l)
  generalize layS n l = g at hS CL
  replace HS := Aside0.mk (HS.out.append hS)
  clear hS
  obtain ⟨vs, hs⟩ := HS.out.arr 1 rfl
  have C := Aside0.mk (lower_any hs (Kd.C_below HT.out HS.out.below) key)
  clear hs
  go_wp2_with fail
  refine C.out.mono ?_
  clear C
  rintro e w7 ⟨rfl, hw⟩
  replace HS := Aside0.mk (HS.out.step hw)
  clear hw
  obtain ⟨vs, hs⟩ := HS.out.arr 1 rfl
  have C := Aside0.mk (upper_any hs (Kd.C_below HT.out HS.out.below) key)
  clear hs
  go_wp2_with fail
  refine C.out.mono ?_
  clear C
  rintro e w8 ⟨rfl, hw⟩
  replace HS := Aside0.mk (HS.out.step hw)
  clear hw
  obtain ⟨vs, hs⟩ := HS.out.arr 1 rfl
  have C := Aside0.mk (before_any hs (Kd.C_below HT.out HS.out.below) key)
  clear hs
  go_wp2_with fail
  refine C.out.mono ?_
  clear C
  rintro e w9 ⟨rfl, hw⟩
  replace HS := Aside0.mk (HS.out.step hw)
  clear hw
  obtain ⟨vs, hs⟩ := HS.out.arr 1 rfl
  have C := Aside0.mk (exact_any hs (Kd.C_below HT.out HS.out.below) key)
  clear hs
  go_wp2_with fail
  refine C.out.mono ?_
  clear C
  rintro e w10 ⟨rfl, hw⟩
  replace HS := Aside0.mk (HS.out.step hw)
  clear hw
  go_wp2
  go_loopg [16] n (fun kq v16 w' => ∃ i : Nat, v16 = .int .i64 i ∧ i ≤ n ∧ Aside0 (n - i ≤ kq) ∧ Aside0 (Sep w w' [Blk w.heap.size #[.int .i64 n, .slice A l.length c] 63, Arr p sb ob wb n g, SlB lb (slots n g)]))
  case atStart => exact ⟨0, rfl, by omega, ⟨by omega⟩, HS⟩
  case round =>
    clear HS
    obtain ⟨i, rfl, hi, HQ, HS⟩ := hrel
    by_cases hlt : i < n
    · obtain ⟨gk, rfl⟩ : ∃ m, gk = m + 1 := ⟨gk - 1, by have := HQ.out; omega⟩
      have hc := slb_cell (HS.out.slb 2 rfl) (i := i) (by rw [slots_length]; exact hlt)
      rw [slots_get n g hlt] at hc
      have s0 := hc.1
      have s1 := hc.2
      clear hc
      obtain ⟨vs, hs⟩ := HS.out.arr 1 rfl
      cases hf : g.on i
      · have C := Aside0.mk (at_off hs (i := (i : Int)) (.inr (.inr (by rw [Int.toNat_natCast]; exact hf))))
        rw [hf] at s0
        rw [CL.out i hf] at s1
        clear hs hf
        go_wp2_with fail
        refine C.out.mono ?_
        rintro e x1 ⟨rfl, rfl⟩
        go_wp2
        go_roundg gk
        case measure => omega
        case rel => exact ⟨i + 1, by go_num, by omega, ⟨by have := HQ.out; omega⟩, HS⟩
      · have C := Aside0.mk (at_on hs hlt hf)
        rw [hf] at s0
        clear hs hf
        go_wp2_with fail
        refine C.out.mono ?_
        rintro e x1 ⟨rfl, rfl⟩
        go_wp2
        go_roundg gk
        case measure => omega
        case rel => exact ⟨i + 1, by go_num, by omega, ⟨by have := HQ.out; omega⟩, HS⟩
    · obtain rfl : n = i := by omega
      have C := Aside0.mk (F6.awake_any _ (Kd.C_below HT.out HS.out.below))
      go_wp2_with fail
      refine C.out.mono ?_
      rintro e w20 ⟨rfl, hw⟩
      replace HS := Aside0.mk (HS.out.step hw)
      clear hw
      go_wp2
      go_ret
      exact ⟨rfl, HS.out.below⟩
theorem law (n : Int) (wn : (Lit.int .i64 n).wf = true) (A : Option Addr) (c : Nat) (l : List Ky) {W0 : World} (g : Kd.C kKey W0 A l.length l) (key : Int) (wk : (Lit.int .i64 key).wf = true) (W : World) (hT : Tb W) (hW : W = W0 := by rfl) :
    Calls Tryd.prog 9 #[.agg #[.int .i64 n, .slice A l.length c], .int .i64 key] W fun e w' => e = .returned (.bool true) ∧ Below W.heap.size W w' := by
  subst hW
  by_cases h : n < 1 ∨ 5000 < n ∨ 300 < l.length
  · exact law_no n A c l key W hT g h
  · obtain ⟨m, rfl⟩ := Int.eq_ofNat_of_zero_le (show 0 ≤ n by omega)
    exact law_yes m A c l key W hT g (by omega) (by omega) (by omega)
end Go.Proofs.YtbjkncgpoengaaaDoor.F9

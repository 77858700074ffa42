/- Of package slices, rows of whole numbers: Grow of nil, Concat of three rows. -/
import Derived.Test.YtlaegahdignphaaDoorSL
import Derived.Test.YtlaegahdignphaaDoorWZeros
namespace Go.Proofs.YtlaegahdignphaaDoor.SG
open Go.RowKit Go.Shelf Go.Proofs.YtlaegahdignphaaDoorW.PrintWords Go.Proofs.YtlaegahdignphaaDoorW.PrintLast Go.Proofs.YtlaegahdignphaaDoorW.PrintMore S1 SL
set_option linter.unusedVariables false
set_option linter.unusedSimpArgs false

theorem zero_cells (m : Nat) : (Builtin.zeroCells (Value.int .i64 0).cells m).toList = nums .i64 (List.replicate m 0) := by
  apply List.ext_getElem
  · simp [Builtin.zeroCells, nums, Value.cells]
  · intro i h1 h2
    simp [Builtin.zeroCells, nums, Nat.mod_one, Value.cells]
/-- append(v, make([]int, m)...) -/
theorem sep_append_zeros {ops : Array Oper} {rest : List Oper} {o : Oper} {a : Act} {Q : Exit → Act → World → Prop} {w0 W : World} {l : List Ob} (hgd : o.guard = none) (s x : Operand) (ho : o.op = .call { callee := .builtin .append, args := #[s, x], argTypes := #[38, 3] })
    {v : Value} {xs : List Int} (h : S1.Sep w0 W l) (i : Nat) (e : l[i]? = some (S1.Own v xs)) (m : Nat) (hs : a.eval s = v) (hx : a.eval x = .int .i64 (m : Int)) (hl : xs.length + m ≤ 1000000)
    (K : ∀ v1 w1, S1.Sep w0 w1 (l.set i (S1.Own v1 (xs ++ List.replicate m 0))) → wpList Tryd.prog ops Q rest (a.put o.dst v1) w1) :
    wpList Tryd.prog ops Q (o :: rest) a W := by
  obtain ⟨i0, hi, hzz⟩ := Option.map_eq_some_iff.1 S1.info3
  simp only [Prod.mk.injEq] at hzz
  obtain ⟨hz0, hz1, hz2⟩ := hzz
  obtain ⟨v1, w1, hr, hown, hg, hat⟩ := run_append_zeros (P := Tryd.prog) W 0 38 3 o.type 3 i0 (.int .i64 0) 1 8 Tryd.underlying38 (k := .i64) Tryd.underlying3 hi hz0 hz1 hz2 rfl (by decide) (by decide) v xs.length (nums .i64 xs) (h.own i e) .i64 m
    (by rw [zero_cells]; intro u hu; simp only [nums, List.mem_map] at hu; obtain ⟨q, _, rfl⟩ := hu; rfl) (by omega) (Nat.zero_le _)
  rw [zero_cells] at hown
  have hown' : w1.ownsRow 0 3 1 v1 (xs ++ List.replicate m 0).length (nums .i64 (xs ++ List.replicate m 0)) := by
    simpa [nums] using hown
  have ho' : Only (fun k => v.ownBlock = some k) W w1 := ⟨hg.os, hg.tape, hg.output, hg.size, fun k hk hn => hg.block k hk (fun e => hn e.symm)⟩
  refine wpList_plain hgd fun K' hK => ?_
  unfold Oper.wp execOp
  simp only [ho, resolve, invoke, builtin, Sem.run_bind, Sem.run_pure, Result.andThen_ok, List.map_toArray, List.map_cons, List.map_nil, hs, hx, hr]
  refine hK _ _ (K v1 w1 (h.turn i e ho' (fun k hk => by simp [S1.Own, hk]) _ hown' fun k hk => ?_))
  have hk' : v1.ownBlock = some k := by simpa [S1.Own] using hk
  rcases hat with hat | hb
  · exact .inl (by simp only [S1.Own]; rw [← hat]; exact hk)
  · rw [hb] at hk'
    obtain rfl := Option.some.inj hk'
    exact .inr ⟨Nat.le_refl _, own_lt hown' _ hb⟩
theorem own_zero {w : World} {b n c : Nat} {xs : List Int} (h : w.ownsRow 0 3 1 (.slice (some ⟨b, 0, none⟩) n c) n (nums .i64 xs)) : w.ownsRow 0 3 1 (.slice (some ⟨b, 0, none⟩) 0 c) 0 (nums .i64 []) := by
  refine ⟨by simp [nums], .inr ?_⟩
  rcases h.2 with ⟨h1, _⟩ | ⟨g, cap, cur, h1, h2, h3, h4, h5, h6, h7⟩
  · cases h1
  · obtain ⟨rfl, rfl⟩ : g = b ∧ cap = c := by simp at h1; exact ⟨h1.1.symm, h1.2.symm⟩
    exact ⟨g, cap, cur, rfl, h2, h3, by omega, h5, h6, by simp [nums]⟩
theorem grow_aux {w w1 : World} {v1 : Value} {m : Nat} (hm : 0 < m) (h : S1.Sep w w1 [S1.Own v1 ([] ++ List.replicate m 0)]) : ∃ b c, v1 = .slice (some ⟨b, 0, none⟩) m c ∧ Aside0 (S1.Sep w w1 [S1.Own (.slice (some ⟨b, 0, none⟩) 0 c) []]) := by
  have ho := h.own 0 rfl
  simp only [List.nil_append, List.length_replicate] at ho
  obtain ⟨b, c, rfl, _, _⟩ := ho.form hm
  exact ⟨b, c, rfl, ⟨h.turn 0 rfl (S := fun _ => False) (Only.refl _ _) (fun k hk => hk.elim) (S1.Own (.slice (some ⟨b, 0, none⟩) 0 c) []) (own_zero ho) (fun k hk => .inl (by simpa [S1.Own, Value.ownBlock] using hk))⟩⟩
theorem grow_nil (m : Nat) (hm : m ≤ 1000000) (w : World) :
    Calls Tryd.prog 79 #[.slice none 0 0, .int .i64 (m : Int)] w fun e w' => ∃ v, e = .returned v ∧ S1.Sep w w' [S1.Own v []] := by
  have HS := Aside0.mk ((S1.Sep.nil w).push (Below.refl _ _) (S1.Own (.slice none 0 0) []) (own_nil _ _ _ _) (fun k hk => by simp [S1.Own, Value.ownBlock] at hk))
  by_cases h0 : m = 0
  · subst h0
    go_enter Tryd.func79, Tryd.ntmps79
    go_wp2
    go_ret
    exact ⟨_, rfl, HS.out⟩
  · have h1 : (0 : Int) < (m : Int) := by omega
    go_enter Tryd.func79, Tryd.ntmps79
    go_wp2_with ((with_reducible refine gate_builtin (b := .append) (xs := #[.tmp 20, .tmp 21]) rfl ?_); at_builtin; refine sep_append_zeros rfl (.tmp 20) (.tmp 21) rfl HS.out 0 rfl m rfl rfl (by simpa using hm) ?_; intro v1 w1 hs; obtain ⟨b, c, e1, HS2⟩ := grow_aux (by omega) hs; subst e1; clear hs HS)
    go_ret
    exact ⟨_, rfl, HS2.out⟩
/-- Three rows behind one another. -/
structure Row3 where
  A : Option Addr
  c : Nat
  xs : List Int
def cell3 (r : Row3) : Value := .slice r.A r.xs.length r.c
/-- The first rows. -/
def cat (f : Nat → Row3) : Nat → List Int
  | 0 => []
  | i + 1 => cat f i ++ (f i).xs
theorem cat_le {f : Nat → Row3} {n : Nat} (h : (cat f n).length ≤ 4096) : ∀ d i, i + d = n → (cat f i).length ≤ 4096
  | 0, i, e => by obtain rfl : i = n := by omega
                  exact h
  | d + 1, i, e => by
    have := cat_le h d (i + 1) (by omega)
    simp only [cat, List.length_append] at this
    omega
set_option maxHeartbeats 1000000 in
theorem concat_any {w : World} {pb : Nat} {f : Nat → Row3} (hp : ∀ i, i < 3 → w.cell? ⟨pb, i, none⟩ = some (cell3 (f i))) (hr : ∀ i, i < 3 → Kd.C (Kd.int .i64) w (f i).A (f i).xs.length (f i).xs) (hl : (cat f 3).length ≤ 4096) :
    Calls Tryd.prog 64 #[.slice (some ⟨pb, 0, none⟩) 3 3] w fun e w' => ∃ v, e = .returned v ∧ S1.Sep w w' [S1.Own v (cat f 3)] := by
  have HP := Aside0.mk hp
  have HR := Aside0.mk hr
  have HL := Aside0.mk (fun i (hi : i ≤ 3) => cat_le hl (3 - i) i (by omega))
  clear hp hr hl
  go_enter Tryd.func64, Tryd.ntmps64
  go_wp2
  go_loopg [3, 5, 11] 3 (fun kq v3 v5 v11 W => ∃ i : Nat, v3 = .int .i64 ((cat f i).length : Int) ∧ v11 = .int .i64 i ∧ i ≤ 3 ∧ Aside0 (3 - i ≤ kq) ∧ w = W)
  case atStart => exact ⟨0, rfl, rfl, by omega, ⟨by omega⟩, rfl⟩
  case round =>
    obtain ⟨i, rfl, rfl, hi, HQ, rfl⟩ := hrel
    by_cases hlt : i < 3
    · have c0 := HP.out i hlt
      have e1 := Aside0.mk (show (cat f (i + 1)).length = (cat f i).length + (f i).xs.length by simp [cat])
      have h1 := HL.out i (by omega)
      have h2 := HL.out (i + 1) (by omega)
      rw [e1.out] at h2
      unfold cell3 at c0
      generalize (cat f i).length = a at *
      generalize hx : (f i).xs.length = b at *
      clear hx
      go_wp2
      go_roundg (3 - (i + 1))
      case measure => have := HQ.out; omega
      case rel => exact ⟨i + 1, by rw [e1.out]; go_num, by go_num, by omega, ⟨Nat.le_refl _⟩, rfl⟩
    · obtain rfl : i = 3 := by omega
      have h1 := HL.out 3 (by omega)
      go_wp2_with fail
      refine (grow_nil (cat f 3).length (by omega) w).mono ?_
      rintro e w1 ⟨v, rfl, hs⟩
      have HS := Aside0.mk hs
      clear hs
      go_wp2
      go_loopg [6, 8, 27] 3 (fun kq v6 v8 v27 W => ∃ i : Nat, v27 = .int .i64 i ∧ i ≤ 3 ∧ Aside0 (3 - i ≤ kq) ∧ Aside0 (S1.Sep w W [S1.Own v6 (cat f i)]))
      case atStart => exact ⟨0, rfl, by omega, ⟨by omega⟩, HS⟩
      case round =>
        clear HS
        obtain ⟨i, rfl, hi, HQ2, HS⟩ := hrel
        by_cases hlt : i < 3
        · have c0 : (_ : Option Value) = some _ := pw_cell_below HS.out.below (HP.out i hlt)
          have HC := Aside0.mk (Kd.C_below (HR.out i hlt) HS.out.below)
          have h1 := HL.out (i + 1) (by omega)
          simp only [cat, List.length_append] at h1
          unfold cell3 at c0
          go_wp2_with ((with_reducible refine gate_builtin (b := .append) (xs := #[.tmp 31, .tmp 32]) rfl ?_); at_builtin; refine sep_append_row rfl (.tmp 31) (.tmp 32) rfl HS.out 0 rfl HC.out rfl rfl (by omega) ?_; intro v1 w1 hs; have HS2 := Aside0.mk hs; clear hs; clear HS)
          go_roundg (3 - (i + 1))
          case measure => have := HQ2.out; omega
          case rel => exact ⟨i + 1, by go_num, by omega, ⟨Nat.le_refl _⟩, HS2⟩
        · obtain rfl : i = 3 := by omega
          go_wp2
          go_ret
          exact ⟨_, rfl, HS.out⟩
end Go.Proofs.YtlaegahdignphaaDoor.SG

/- Counts looked at: Check, sum, the window that is spread. -/
import Derived.Test.YtlaegahdignphaaDoorM1
namespace Go.Proofs.YtlaegahdignphaaDoor.M2
open Go.RowKit Go.Proofs.YtlaegahdignphaaDoorW.PrintWords Go.Proofs.YtlaegahdignphaaDoorW.PrintLast Go.Proofs.YtlaegahdignphaaDoorW.PrintMore Q2 L1 L3 S1 M1
set_option linter.unusedVariables false
set_option linter.unusedSimpArgs false

/-- A count that may not be. -/
def badB (x : Int) : Bool := decide (x < 0 ∨ 8 < x)
def goodL (l : List Int) : Prop := ∀ j, j < l.length → 0 ≤ l.getD j 0 ∧ l.getD j 0 ≤ 8
theorem check1_any (x : Int) (w : World) : Calls Tryd.prog 59 #[.int .i64 x] w fun e w' => e = .returned (.bool (badB x)) ∧ w = w' := by
  unfold badB
  by_cases h1 : x < 0
  · rw [decide_eq_true (Or.inl h1)]
    go_enter Tryd.func59, Tryd.ntmps59
    go_wp2
    go_ret
    exact ⟨rfl, rfl⟩
  · by_cases h2 : 8 < x
    · rw [decide_eq_true (Or.inr h2)]
      go_enter Tryd.func59, Tryd.ntmps59
      go_wp2
      go_ret
      exact ⟨rfl, rfl⟩
    · rw [decide_eq_false (by omega)]
      go_enter Tryd.func59, Tryd.ntmps59
      go_wp2
      go_ret
      exact ⟨rfl, rfl⟩
theorem index_any {w : World} {A : Option Addr} {c : Nat} {l : List Int} (hr : Kd.C (Kd.int .i64) w A l.length l) (hl : l.length ≤ 1000000) :
    Calls Tryd.prog 77 #[.slice A l.length c, .func (.func 59) #[] #[]] w fun e w' => (∃ i : Int, e = .returned (.int .i64 i) ∧ ((0 ≤ i ∧ ¬ goodL l) ∨ (i < 0 ∧ goodL l))) ∧ w = w' := by
  have HR := Aside0.mk hr
  clear hr
  go_enter Tryd.func77, Tryd.ntmps77
  go_wp2
  go_loopg [8] l.length (fun kq v8 W => ∃ i : Nat, v8 = .int .i64 i ∧ i ≤ l.length ∧ Aside0 (l.length - i ≤ kq) ∧ W = w ∧ Aside0 (∀ j, j < i → 0 ≤ l.getD j 0 ∧ l.getD j 0 ≤ 8))
  case atStart => exact ⟨0, rfl, by omega, ⟨by omega⟩, rfl, ⟨fun j hj => by omega⟩⟩
  case round =>
    obtain ⟨i, rfl, hi, HQ, rfl, HG⟩ := hrel
    by_cases hlt : i < l.length
    · obtain ⟨ad, e, hx⟩ := Kd.at_int HR.out (i : Int) (by omega) (by omega)
      cases e
      rw [Int.toNat_natCast] at hx
      have hn : rd l (i : Int) = l.getD i 0 := rfl
      rw [hn] at hx
      have HG2 := Aside0.mk (And.intro hn (And.intro hlt trivial))
      by_cases hb : 0 ≤ l.getD i 0 ∧ l.getD i 0 ≤ 8
      · have hg : badB (l.getD i 0) = false := decide_eq_false (by omega)
        have HB := Aside0.mk hb
        have C := Aside0.mk (check1_any (l.getD i 0))
        rw [hg] at C
        have HN : Aside0 (∀ j, j < i + 1 → 0 ≤ l.getD j 0 ∧ l.getD j 0 ≤ 8) := ⟨fun j hj => by
          by_cases e : j = i
          · rw [e]; exact hb
          · exact HG.out j (by omega)⟩
        clear hb hg hn HB HG HG2
        generalize l.getD i 0 = x at hx C
        go_wp2_with fail
        refine (C.out _).mono ?_
        rintro e w1 ⟨rfl, rfl⟩
        go_wp2
        go_roundg (l.length - (i + 1))
        case measure => have := HQ.out; omega
        case rel => exact ⟨i + 1, by go_num, by omega, ⟨Nat.le_refl _⟩, rfl, HN⟩
      · have hg : badB (l.getD i 0) = true := decide_eq_true (by omega)
        have HB : Aside0 (¬ goodL l) := ⟨fun h => hb (h i hlt)⟩
        have C := Aside0.mk (check1_any (l.getD i 0))
        rw [hg] at C
        clear hb hg hn HG HG2
        generalize l.getD i 0 = x at hx C
        go_wp2_with fail
        refine (C.out _).mono ?_
        rintro e w1 ⟨rfl, rfl⟩
        go_wp2
        go_ret
        exact ⟨⟨_, rfl, .inl ⟨by omega, HB.out⟩⟩, rfl⟩
    · obtain rfl : i = l.length := by omega
      go_wp2
      go_ret
      exact ⟨⟨_, rfl, .inr ⟨by omega, HG.out⟩⟩, rfl⟩
theorem contains_any {w : World} {A : Option Addr} {c : Nat} {l : List Int} (hr : Kd.C (Kd.int .i64) w A l.length l) (hl : l.length ≤ 1000000) :
    Calls Tryd.prog 58 #[.slice A l.length c, .func (.func 59) #[] #[]] w fun e w' => (∃ b : Bool, e = .returned (.bool b) ∧ (b = true ↔ ¬ goodL l)) ∧ w = w' := by
  have C := Aside0.mk (index_any (c := c) hr hl)
  clear hr hl
  go_enter Tryd.func58, Tryd.ntmps58
  go_wp2_with fail
  refine C.out.mono ?_
  clear C
  rintro e w1 ⟨⟨i, rfl, hi⟩, rfl⟩
  have HI := Aside0.mk hi
  rcases hi with ⟨hi, hg⟩ | ⟨hi, hg⟩
  · clear HI
    have HG := Aside0.mk hg
    clear hg
    go_wp2
    go_ret
    exact ⟨⟨_, rfl, by simp [HG.out, hi]⟩, rfl⟩
  · clear HI
    have HG := Aside0.mk hg
    clear hg
    go_wp2
    go_ret
    exact ⟨⟨_, rfl, by simp [HG.out, hi]⟩, rfl⟩
open Classical in
/-- What is wrong with counts. -/
noncomputable def ckE (l : List Int) : Int := if capB (8 * (l.length : Int)) then (if goodL l then 0 else 1) else 10
theorem check_any {w : World} {A : Option Addr} {c : Nat} {l : List Int} (hr : Kd.C (Kd.int .i64) w A l.length l) :
    Calls Tryd.prog 37 #[.slice A l.length c] w fun e w' => e = .returned (.int .i64 (ckE l)) ∧ Drawn0 w w' := by
  have HR := Aside0.mk hr
  clear hr
  by_cases hbig : 4096 < l.length
  · have hE : ckE l = 10 := by
      unfold ckE
      rw [if_neg]
      intro h
      have := cap_mem h
      simp at this
      omega
    rw [hE]
    clear hE
    go_enter Tryd.func37, Tryd.ntmps37
    go_wp2
    go_ret
    exact ⟨rfl, Drawn0.refl _⟩
  · have C := Aside0.mk (may_any (8 * (l.length : Int)))
    cases hc : capB (8 * (l.length : Int)) with
    | false =>
      have hE : ckE l = 10 := by unfold ckE; rw [hc]; rfl
      rw [hc] at C
      rw [hE]
      clear hc hE
      go_enter Tryd.func37, Tryd.ntmps37
      go_wp2_with fail
      refine (C.out _).mono ?_
      rintro e w1 ⟨rfl, hd⟩
      have HD := Aside0.mk hd
      clear hd
      go_wp2
      go_ret
      exact ⟨rfl, HD.out⟩
    | true =>
      have hE : ∃ b : Bool, ckE l = (if b then 1 else 0) ∧ (b = true ↔ ¬ goodL l) := by
        by_cases hg : goodL l
        · exact ⟨false, by unfold ckE; rw [hc, if_pos rfl, if_pos hg]; rfl, by simp [hg]⟩
        · exact ⟨true, by unfold ckE; rw [hc, if_pos rfl, if_neg hg]; rfl, by simp [hg]⟩
      obtain ⟨b, hE, hb⟩ := hE
      rw [hE]
      rw [hc] at C
      have HB := Aside0.mk hb
      clear hc hE hb
      go_enter Tryd.func37, Tryd.ntmps37
      go_wp2_with fail
      refine (C.out _).mono ?_
      rintro e w1 ⟨rfl, hd⟩
      have HD := Aside0.mk hd
      have C2 := Aside0.mk (contains_any (c := c) (Kd.C_below HR.out hd.below) (by omega))
      clear hd
      go_wp2_with fail
      refine C2.out.mono ?_
      rintro e w2 ⟨⟨b', rfl, hb⟩, rfl⟩
      obtain rfl : b' = b := by
        have := HB.out
        cases b <;> cases b' <;> simp_all
      clear hb HB C2
      cases b' <;> (go_wp2; go_ret; exact ⟨rfl, HD.out⟩)
end Go.Proofs.YtlaegahdignphaaDoor.M2

/- Keys that are made to rise: Risen tells up to 200 numbers that rise, whatever came in. And the reference's distance. -/
import Derived.Test.YtmjfnifdgneooaaA4
import Derived.Test.YtmjfnifdgneooaaPBisectNearx1
namespace Go.Proofs.Ytmjfnifdgneooaa.A5
open Go.RowKit Go.Proofs.YtmjfnifdgneooaaW.PrintWords Go.Proofs.YtmjfnifdgneooaaW.PrintLast Go.Proofs.YtmjfnifdgneooaaW.PrintMore B1 A1 B2 A2 A3 A4
set_option linter.unusedVariables false
set_option linter.unusedSimpArgs false

/-- What a list that was made to rise is. -/
def Good (r : List Int) : Prop := risingB r = true ∧ r.length ≤ 200 ∧ ∀ i, i < r.length → -500 ≤ r.getD i 0 ∧ r.getD i 0 ≤ 10000
theorem Good.w64 {r : List Int} (h : Good r) : ∀ i, i < r.length → W64 (r.getD i 0) := fun i hi => by
  obtain ⟨h1, h2⟩ := h.2.2 i hi
  exact ⟨by omega, by omega⟩
theorem getD_app1 (l m : List Int) {i : Nat} (h : i < l.length) : (l ++ m).getD i 0 = l.getD i 0 := by
  simp [List.getD_eq_getElem?_getD, List.getElem?_append_left h]
theorem getD_app2 (l m : List Int) {i : Nat} (h : l.length ≤ i) : (l ++ m).getD i 0 = m.getD (i - l.length) 0 := by
  simp [List.getD_eq_getElem?_getD, List.getElem?_append_right h]
theorem step_num (x last : Int) (h1 : -500 ≤ last) (h2 : last ≤ 100000) : ∃ m : Int, 0 ≤ m ∧ m < 50 ∧ wrap64 (wrap64 (last + Int.tmod (wrap64 (Int.tmod x 50 + 50)) 50) + 1) = last + m + 1 := by
  have a1 := Int.tmod_lt_of_pos x (show (0 : Int) < 50 by decide)
  have a2 : -50 < Int.tmod x 50 := by
    have := Int.lt_tmod_of_pos x (show (0 : Int) < 50 by decide)
    exact this
  have e0 : wrap64 (Int.tmod x 50 + 50) = Int.tmod x 50 + 50 := by unfold wrap64; omega
  rw [e0, Int.tmod_eq_emod_of_nonneg (by omega)]
  refine ⟨(Int.tmod x 50 + 50) % 50, by omega, by omega, ?_⟩
  unfold wrap64
  omega
theorem rising_snoc {l : List Int} {x last : Int} (hl : risingB l = true) (h : ∀ i, i + 1 = l.length → l.getD i 0 = last) (hx : last < x) : risingB (l ++ [x]) = true := by
  rw [rising_iff]
  intro i hi
  rw [List.length_append, List.length_singleton] at hi
  have e1 : (l ++ [x]).getD i 0 = l.getD i 0 := by rw [getD_app1 _ _ (by omega)]
  rw [e1]
  by_cases e : i + 1 = l.length
  · rw [getD_app2 _ _ (by omega), e, Nat.sub_self, h i e]
    exact hx
  · rw [getD_app1 _ _ (by omega)]
    exact (rising_iff l).1 hl i (by omega)
theorem risen_f (l : List Int) : ∃ k r, PBisectNear.punnetlaw17_Risen.f k l = some r ∧ Good r := by
  have go : ∀ (d i k : Nat) (out : List Int) (last : Int), i + d = 201 → d < k → out.length = i → risingB out = true → (∀ j, j + 1 = out.length → out.getD j 0 = last) → -500 ≤ last → last ≤ -500 + 50 * i →
      (∀ j, j < out.length → -500 ≤ out.getD j 0 ∧ out.getD j 0 ≤ 10000) → i ≤ 200 → ∃ r, PBisectNear.punnetlaw17_Risen.l0 k l out last i = some r ∧ Good r := by
    intro d
    induction d with
    | zero => intro i k out last hd hk ho hr hl h1 h2 h3 h4; omega
    | succ d ih =>
      intro i k out last hd hk ho hr hl h1 h2 h3 h4
      obtain ⟨k, rfl⟩ : ∃ m, k = m + 1 := ⟨k - 1, by omega⟩
      simp only [PBisectNear.punnetlaw17_Risen.l0]
      by_cases c1 : (i : Int) < l.length
      · rw [if_pos c1]
        by_cases c2 : (i : Int) < 200
        · rw [if_pos c2, if_pos (by omega), if_pos (by omega)]
          obtain ⟨m, hm0, hm1, e1⟩ := step_num (rd l i) last h1 (by omega)
          have e2 : wrap64 ((i : Int) + 1) = ((i + 1 : Nat) : Int) := by unfold wrap64; omega
          rw [e1, e2]
          refine ih (i + 1) k _ _ (by omega) (by omega) (by simp [ho]) (rising_snoc hr hl (by omega)) (fun j hj => ?_) (by omega) (by omega) (fun j hj => ?_) (by omega)
          · rw [List.length_append, List.length_singleton] at hj
            rw [getD_app2 _ _ (by omega), show j - out.length = 0 by omega]
            rfl
          · rw [List.length_append, List.length_singleton] at hj
            by_cases e : j < out.length
            · rw [getD_app1 _ _ e]
              exact h3 j e
            · rw [getD_app2 _ _ (by omega), show j - out.length = 0 by omega]
              show -500 ≤ last + m + 1 ∧ last + m + 1 ≤ 10000
              omega
        · rw [if_neg c2]
          exact ⟨out, rfl, hr, by omega, h3⟩
      · rw [if_neg c1]
        exact ⟨out, rfl, hr, by omega, h3⟩
  obtain ⟨r, h, hg⟩ := go 201 0 202 [] (-500) (by omega) (by omega) rfl rfl (fun j hj => by simp at hj) (by omega) (by omega) (fun j hj => by simp at hj) (by omega)
  exact ⟨202, r, h, hg⟩
/-- A row of numbers, told: its list, its cells. -/
def Told (r : List Int) (w : World) (e : Ending) (w' : World) : Prop := ∃ (A : Option Addr) (c : Nat), e = .returned (.slice A r.length c) ∧ r.length ≤ c ∧ Kd.C (Kd.int .i64) w' A r.length r ∧ Below w.heap.size w w'
theorem risen_any (A0 : Option Addr) (c0 : Nat) (l : List Int) (w : World) (hr : Kd.C (Kd.int .i64) w A0 l.length l) (hc : l.length ≤ c0) :
    Calls Try.prog 21 #[.slice A0 l.length c0] w fun e w' => ∃ r, Good r ∧ Told r w e w' := by
  obtain ⟨k, r, hf, hg⟩ := risen_f l
  refine (PBisectNear.punnetlaw17_Risen.calls k A0 c0 l r w hr hc hf).mono ?_
  rintro e w' ⟨v, rfl, hR, hb⟩
  obtain ⟨A, c, rfl, hl, hC⟩ := Kd.R_reads hR
  exact ⟨r, hg, A, c, rfl, hl, hC, hb⟩
theorem refFar_any (x key : Int) (hx : W64 x) (hk : W64 key) (w : World) : Calls Try.prog 22 #[.int .i64 x, .int .i64 key] w fun e w' => e = .returned (.int .u64 (if x < key then key - x else x - key)) ∧ Drawn0 w w' :=
  PBisectSpans.punnetref17_Far.calls x key _ w (refFar_f x key hx hk)
theorem near_self {r : List Int} (hg : Good r) {i : Nat} (hi : i < r.length) : nearN r (r.getD i 0) = i := by
  refine NearAt.unique (near_spec hg.1 (by omega) hg.w64 (hg.w64 i hi)) ⟨hi, fun j hj => ?_, fun j hj => ?_⟩
  · unfold dist
    rw [if_neg (Int.lt_irrefl _)]
    split <;> omega
  · have := rising_lt hg.1 hj hi
    unfold dist
    rw [if_neg (Int.lt_irrefl _), if_pos this]
    omega
end Go.Proofs.Ytmjfnifdgneooaa.A5

/- Ends of a function that holds ranges over functions; the walk of such a law. -/
import Derived.Test.YtbjkncgpoengaaaDoorF7
namespace Go.Proofs.YtbjkncgpoengaaaDoor.RF
open Go.RowKit Go.Shelf Go.Proofs.YtbjkncgpoengaaaDoorW.PrintWords Go.Proofs.YtbjkncgpoengaaaDoorW.PrintLast Go.Proofs.YtbjkncgpoengaaaDoorW.PrintMore G1 G0 Q1 G2 G3 G4 G5 G6 G7 G8 G9 G10 G11 S1 F4 F7
set_option linter.unusedVariables false

section
variable {P : Program} {F : Fence} {n : Nat} {fn : Func} {R : Ending → World → Prop} {tmps : Array Value} {w : World} {v : Value}
theorem leave0 (hr : (results fn tmps).run P w = .ok v w) (hR : R (.returned v) w) : bodyPostM F n P fn R .ret { tmps := tmps, defers := [] } w :=
  ⟨v, hr, hR⟩
/-- The world behind the end of a range. -/
def shut (w : World) (D : Nat) : World := w.putObj D (.deferred none)
theorem leave1 {D : Nat} (hD : w.heap[D]? = some (.deferred (some []))) (hr : (results fn tmps).run P (shut w D) = .ok v (shut w D)) (hR : R (.returned v) (shut w D)) : bodyPostM F n P fn R .ret { tmps := tmps, defers := [{ target := .collected D, args := #[] }] } w :=
  ⟨by simp, .inl ⟨_, _, rfl, run_takeDeferred hD, v, hr, hR⟩⟩
theorem shut_other {D k : Nat} (h : k ≠ D) : (shut w D).heap[k]? = w.heap[k]? := World.putObj_heap_other h
theorem leave2 {D E : Nat} (hne : D ≠ E) (hD : w.heap[D]? = some (.deferred (some []))) (hE : w.heap[E]? = some (.deferred (some []))) (hr : (results fn tmps).run P (shut (shut w E) D) = .ok v (shut (shut w E) D)) (hR : R (.returned v) (shut (shut w E) D)) : bodyPostM F n P fn R .ret { tmps := tmps, defers := [{ target := .collected E, args := #[] }, { target := .collected D, args := #[] }] } w :=
  ⟨by simp, .inl ⟨_, _, rfl, run_takeDeferred hE, leave1 ((shut_other hne).trans hD) hr hR⟩⟩
end
/-- A function is not nil. -/
theorem run_fn_nil (b : Nat) (w : World) : (Go.binOp .eql 46 (.func (.func 57) #[] #[.pointer (some ⟨b, 0, none⟩)]) .nilFunc).run Tryd.prog w = .ok (.bool false) w := by kernel_rfl
theorem own_conv {w w' : World} {A : Option Addr} {m c : Nat} {xs : List Int} (hb : Below w.heap.size w w') (hr : w'.ownsRow w.heap.size 3 1 (.slice A m c) m (nums .i64 xs)) (hm : xs.length = m) : Sep w w' [S1.Own (.slice A m c) xs] := by
  subst hm
  exact (Sep.nil w).new_own hb hr
theorem vals_len (f : Nat → Bool) (xs : List Int) (n : Nat) : (vals (ons f xs n)).length = cntF f n := by unfold vals; rw [List.length_map, ons_length]
theorem keys_len (f : Nat → Bool) (xs : List Int) (n : Nat) : (keys (ons f xs n)).length = cntF f n := by unfold keys; rw [List.length_map, ons_length]
theorem own_addr {w : World} {A : Option Addr} {n c : Nat} {xs : List Int} (h : w.ownsRow 0 3 1 (.slice A n c) xs.length (nums .i64 xs)) (hn : 0 < xs.length) : ∃ b, A = some ⟨b, 0, none⟩ ∧ ∀ i, i < xs.length → w.cell? ⟨b, i, none⟩ = some (.int .i64 (xs.getD i 0)) := by
  rcases h.2 with ⟨h1, h2⟩ | ⟨b, cap, cur, h1, _⟩
  · omega
  · obtain ⟨rfl, rfl, rfl⟩ : A = some ⟨b, 0, none⟩ ∧ n = xs.length ∧ c = cap := by simpa using h1
    refine ⟨b, rfl, fun i hi => ?_⟩
    have := own_at h (i : Int) (by omega) (by omega)
    rw [Int.toNat_natCast] at this
    exact this.1
/-- The block of a range's deferred calls. -/
def Def (D : Nat) : Ob where
  F := [D]
  P := fun w => w.heap[D]? = some (.deferred (some []))
  st := fun hs h => (hs D (by simp)).trans h
def Gone : Ob where
  F := []
  P := fun _ => True
  st := fun _ _ => trivial
theorem sep_add {w0 W : World} {l : List Ob} (h : Sep w0 W l) (o : Ob) (ho : o.P W) (hn : ∀ k ∈ o.F, w0.heap.size ≤ k ∧ k < W.heap.size) (ha : ∀ a ∈ l, ∀ k ∈ a.F, k ∉ o.F) : Sep w0 W (l ++ [o]) := by
  refine ⟨h.below, fun a hm => ?_, fun a hm k hk => ?_, ?_⟩
  · rcases List.mem_append.1 hm with hm | hm
    · exact h.ok a hm
    · rw [List.mem_singleton.1 hm]; exact ho
  · rcases List.mem_append.1 hm with hm | hm
    · exact h.lo a hm k hk
    · rw [List.mem_singleton.1 hm] at hk; exact hn k hk
  · rw [List.pairwise_append]
    refine ⟨h.ap, List.pairwise_singleton _ _, fun a hm b hb k hk hk2 => ?_⟩
    rw [List.mem_singleton.1 hb] at hk2
    exact ha a hm k hk hk2
theorem sep_def {w0 W : World} {l : List Ob} {B D : Nat} (h : Sep w0 W l) (hB : ∀ o ∈ l, ∀ k ∈ o.F, k < B) (hD : B ≤ D) (h0 : w0.heap.size ≤ B) (hK : W.heap[D]? = some (.deferred (some []))) : Sep w0 W (l ++ [Def D]) :=
  sep_add h (Def D) hK (fun k hk => by simp only [Def, List.mem_singleton] at hk; subst hk; exact ⟨Nat.le_trans h0 hD, blk_lt hK⟩) (fun a ha k hk hk2 => by simp only [Def, List.mem_singleton] at hk2; have := hB a ha k hk; omega)
theorem sep_shut {w0 W : World} {l : List Ob} {D : Nat} (h : Sep w0 W l) (i : Nat) (e : l[i]? = some (Def D)) : Sep w0 (shut W D) (l.set i Gone) :=
  h.turn i e (S := (· = D)) (show Only (· = D) W (shut W D) from ⟨rfl, rfl, rfl, by simp [shut], fun k _ hk => shut_other hk⟩) (fun k hk => by rw [hk]; simp [Def]) Gone trivial (fun k hk => by cases hk)
/-- What holds of all blocks of some objects holds of those of others with the same blocks. -/
theorem foot_of {l l' : List Ob} {P : Nat → Prop} (e : l'.map Ob.F = l.map Ob.F) (h : ∀ o ∈ l, ∀ q ∈ o.F, P q) : ∀ o ∈ l', ∀ q ∈ o.F, P q := by
  intro o ho q hq
  have h1 : o.F ∈ l.map Ob.F := by rw [← e]; exact List.mem_map_of_mem ho
  obtain ⟨o2, h2, e2⟩ := List.mem_map.1 h1
  exact h o2 h2 q (by rw [e2]; exact hq)
end Go.Proofs.YtbjkncgpoengaaaDoor.RF

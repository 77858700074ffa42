/- More of the objects of a function's own (of the text SE, over S1). -/
import Derived.Test.YtofkkdjbilklcaaDoorS1
namespace Go.Proofs.YtofkkdjbilklcaaDoor.S1
open Go.RowKit Go.Shelf Go.Proofs.YtofkkdjbilklcaaDoorW.PrintWords Go.Proofs.YtofkkdjbilklcaaDoorW.PrintLast Go.Proofs.YtofkkdjbilklcaaDoorW.PrintMore G1 G0 Q1 G2 G3 G4 G5 G6 G7 G8 G9 G10
set_option linter.unusedVariables false
set_option linter.unusedSimpArgs false
theorem Sep.append {w0 w w' : World} {l l' : List Ob} (h : Sep w0 w l) (k : Sep w w' l') : Sep w0 w' (l ++ l') := by
  have h1 := h.step k.below
  refine ⟨h1.below, fun a ha => ?_, fun a ha x hx => ?_, ?_⟩
  · rcases List.mem_append.1 ha with ha | ha
    · exact h1.ok a ha
    · exact k.ok a ha
  · rcases List.mem_append.1 ha with ha | ha
    · exact h1.lo a ha x hx
    · have := k.lo a ha x hx
      exact ⟨Nat.le_trans h.below.size this.1, this.2⟩
  · rw [List.pairwise_append]
    refine ⟨h1.ap, k.ap, fun a ha b hb x hx hx2 => ?_⟩
    have := (h.lo a ha x hx).2
    have := (k.lo b hb x hx2).1
    omega
/-- Objects that lie below B stand while what lies from B on is turned. -/
theorem sep_grow {w0 W W' : World} {l : List Ob} {B : Nat} {row : Option Nat} (h : Sep w0 W l) (hB : ∀ o ∈ l, ∀ k ∈ o.F, k < B) (hg : W.grownBy W' row) (hr : ∀ r, row = some r → B ≤ r) (h0 : w0.heap.size ≤ B) : Sep w0 W' l :=
  ⟨⟨hg.os.trans h.below.os, hg.tape.trans h.below.tape, hg.output.trans h.below.output, Nat.le_trans h.below.size hg.size, fun k hk => (hg.block k (Nat.lt_of_lt_of_le hk h.below.size) (fun e => by have := hr k e.symm; omega)).trans (h.below.block k hk)⟩,
    fun o ho => o.st (fun k hk => hg.block k (h.lo o ho k hk).2 (fun e => by have := hr k e.symm; have := hB o ho k hk; omega)) (h.ok o ho),
    fun o ho k hk => ⟨(h.lo o ho k hk).1, Nat.lt_of_lt_of_le (h.lo o ho k hk).2 hg.size⟩, h.ap⟩
theorem keeps_only {S : Nat → Prop} {B : Nat} {W W' : World} (h : Only S W W') (hS : ∀ k, S k → k < B) : KeepsFrom B W W' :=
  ⟨h.size, fun k o hB hk _ => (h.block k (blk_lt hk) (fun hs => by have := hS k hs; omega)).trans hk⟩
theorem keeps_below {B : Nat} {W W' : World} (h : Below W.heap.size W W') : KeepsFrom B W W' := keeps_only (S := fun _ => False) (Only.of_below h) (fun _ h => h.elim)
theorem stay_only {S : Nat → Prop} {K : List Nat} {W W' : World} (h : Only S W W') (hK : ∀ k ∈ K, k < W.heap.size ∧ ¬ S k) : Stay K W W' := fun k hk => h.block k (hK k hk).1 (hK k hk).2
/-- A result that lies in a cell. -/
theorem results_cell {fn : Func} {t : Nat} {ty : TypeId} {P : Program} {W : World} {tmps : Array Value} {b : Nat} {v : Value} (h : fn.results = #[.cell t ty]) (ht : tmps.getD t undef = .pointer (some ⟨b, 0, none⟩)) (hc : W.cell? ⟨b, 0, none⟩ = some v) (ha : (isAgg ty).run P W = .ok false W) : (results fn tmps).run P W = .ok v W := by
  have ht' : tmps[t]?.getD undef = .pointer (some ⟨b, 0, none⟩) := by simpa using ht
  simp [results, h, ht', asAddr, loadVar, go_sem, ha, hc]
section
variable {P : Program} {F : Fence} {n : Nat} {fn : Func} {R : Ending → World → Prop} {tmps : Array Value} {w : World} {v : Value}
theorem leave0 (hr : (results fn tmps).run P w = .ok v w) (hR : R (.returned v) w) : bodyPostM F n P fn R .ret { tmps := tmps, defers := [] } w :=
  ⟨v, hr, hR⟩
/-- The world behind the end of a range. -/
def shut (w : World) (D : Nat) : World := w.putObj D (.deferred none)
theorem leave1 {D : Nat} (hD : w.heap[D]? = some (.deferred (some []))) (hr : (results fn tmps).run P (shut w D) = .ok v (shut w D)) (hR : R (.returned v) (shut w D)) : bodyPostM F n P fn R .ret { tmps := tmps, defers := [{ target := .collected D, args := #[] }] } w :=
  ⟨by simp, .inl ⟨_, _, rfl, run_takeDeferred hD, v, hr, hR⟩⟩
theorem shut_other {D k : Nat} (h : k ≠ D) : (shut w D).heap[k]? = w.heap[k]? := World.putObj_heap_other h
theorem leave2 {D E : Nat} (hne : D ≠ E) (hD : w.heap[D]? = some (.deferred (some []))) (hE : w.heap[E]? = some (.deferred (some []))) (hr : (results fn tmps).run P (shut (shut w E) D) = .ok v (shut (shut w E) D)) (hR : R (.returned v) (shut (shut w E) D)) : bodyPostM F n P fn R .ret { tmps := tmps, defers := [{ target := .collected E, args := #[] }, { target := .collected D, args := #[] }] } w :=
  ⟨by simp, .inl ⟨_, _, rfl, run_takeDeferred hE, leave1 ((shut_other hne).trans hD) hr hR⟩⟩
end
theorem own_conv {w w' : World} {A : Option Addr} {m c : Nat} {xs : List Int} (hb : Below w.heap.size w w') (hr : w'.ownsRow w.heap.size 3 1 (.slice A m c) m (nums .i64 xs)) (hm : xs.length = m) : Sep w w' [Own (.slice A m c) xs] := by
  subst hm
  exact (Sep.nil w).new_own hb hr
/-- The block of a range's deferred calls. -/
def Def (D : Nat) : Ob where
  F := [D]
  P := fun w => w.heap[D]? = some (.deferred (some []))
  st := fun hs h => (hs D (by simp)).trans h
def Gone : Ob where
  F := []
  P := fun _ => True
  st := fun _ _ => trivial
theorem sep_add {w0 W : World} {l : List Ob} (h : Sep w0 W l) (o : Ob) (ho : o.P W) (hn : ∀ k ∈ o.F, w0.heap.size ≤ k ∧ k < W.heap.size) (ha : ∀ a ∈ l, ∀ k ∈ a.F, k ∉ o.F) : Sep w0 W (l ++ [o]) := by
  refine ⟨h.below, fun a hm => ?_, fun a hm k hk => ?_, ?_⟩
  · rcases List.mem_append.1 hm with hm | hm
    · exact h.ok a hm
    · rw [List.mem_singleton.1 hm]; exact ho
  · rcases List.mem_append.1 hm with hm | hm
    · exact h.lo a hm k hk
    · rw [List.mem_singleton.1 hm] at hk; exact hn k hk
  · rw [List.pairwise_append]
    refine ⟨h.ap, List.pairwise_singleton _ _, fun a hm b hb k hk hk2 => ?_⟩
    rw [List.mem_singleton.1 hb] at hk2
    exact ha a hm k hk hk2
theorem sep_def {w0 W : World} {l : List Ob} {B D : Nat} (h : Sep w0 W l) (hB : ∀ o ∈ l, ∀ k ∈ o.F, k < B) (hD : B ≤ D) (h0 : w0.heap.size ≤ B) (hK : W.heap[D]? = some (.deferred (some []))) : Sep w0 W (l ++ [Def D]) :=
  sep_add h (Def D) hK (fun k hk => by simp only [Def, List.mem_singleton] at hk; subst hk; exact ⟨Nat.le_trans h0 hD, blk_lt hK⟩) (fun a ha k hk hk2 => by simp only [Def, List.mem_singleton] at hk2; have := hB a ha k hk; omega)
theorem sep_shut {w0 W : World} {l : List Ob} {D : Nat} (h : Sep w0 W l) (i : Nat) (e : l[i]? = some (Def D)) : Sep w0 (shut W D) (l.set i Gone) :=
  h.turn i e (S := (· = D)) (show Only (· = D) W (shut W D) from ⟨rfl, rfl, rfl, by simp [shut], fun k _ hk => shut_other hk⟩) (fun k hk => by rw [hk]; simp [Def]) Gone trivial (fun k hk => by cases hk)
/-- What holds of all blocks of some objects holds of those of others with the same blocks. -/
theorem foot_of {l l' : List Ob} {P : Nat → Prop} (e : l'.map Ob.F = l.map Ob.F) (h : ∀ o ∈ l, ∀ q ∈ o.F, P q) : ∀ o ∈ l', ∀ q ∈ o.F, P q := by
  intro o ho q hq
  have h1 : o.F ∈ l.map Ob.F := by rw [← e]; exact List.mem_map_of_mem ho
  obtain ⟨o2, h2, e2⟩ := List.mem_map.1 h1
  exact h o2 h2 q (by rw [e2]; exact hq)
end Go.Proofs.YtofkkdjbilklcaaDoor.S1

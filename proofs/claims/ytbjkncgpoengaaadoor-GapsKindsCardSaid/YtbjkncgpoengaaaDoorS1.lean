/- Objects of a function's own, side by side: each has its blocks; a call turns one of them, the others stand. -/
import Derived.Test.YtbjkncgpoengaaaDoorG10
namespace Go.Proofs.YtbjkncgpoengaaaDoor.S1
open Go.RowKit Go.Proofs.YtbjkncgpoengaaaDoorW.PrintWords Go.Proofs.YtbjkncgpoengaaaDoorW.PrintLast Go.Proofs.YtbjkncgpoengaaaDoorW.PrintMore G1 G0 Q1 G2 G3 G4 G5 G6 G7 G8 G9 G10
set_option linter.unusedVariables false

/-- An object: its blocks, and what is said of it. -/
structure Ob where
  F : List Nat
  P : World → Prop
  st : ∀ {w w' : World}, (∀ k ∈ F, w'.heap[k]? = w.heap[k]?) → P w → P w'
/-- Objects that were made since w0, side by side; what was there stands. -/
structure Sep (w0 w : World) (l : List Ob) : Prop where
  below : Below w0.heap.size w0 w
  ok : ∀ o ∈ l, o.P w
  lo : ∀ o ∈ l, ∀ k ∈ o.F, w0.heap.size ≤ k ∧ k < w.heap.size
  ap : l.Pairwise fun a b => ∀ k ∈ a.F, k ∉ b.F
section
variable {w0 w w' : World} {l : List Ob}
theorem Sep.nil (w : World) : Sep w w [] := ⟨Below.refl _ _, (fun _ h => by cases h), (fun _ h => by cases h), .nil⟩
theorem Sep.get (h : Sep w0 w l) (i : Nat) {o : Ob} (e : l[i]? = some o) : o.P w := h.ok o (List.mem_of_getElem? e)
theorem Sep.step (h : Sep w0 w l) (hb : Below w.heap.size w w') : Sep w0 w' l :=
  ⟨below_step h.below hb, fun o ho => o.st (fun k hk => hb.block k (h.lo o ho k hk).2) (h.ok o ho), fun o ho k hk => ⟨(h.lo o ho k hk).1, Nat.lt_of_lt_of_le (h.lo o ho k hk).2 hb.size⟩, h.ap⟩
/-- Something is made. -/
theorem Sep.push (h : Sep w0 w l) (hb : Below w.heap.size w w') (o : Ob) (ho : o.P w') (hn : ∀ k ∈ o.F, w.heap.size ≤ k ∧ k < w'.heap.size) : Sep w0 w' (l ++ [o]) := by
  have h1 := h.step hb
  refine ⟨h1.below, fun a ha => ?_, fun a ha k hk => ?_, ?_⟩
  · rcases List.mem_append.1 ha with ha | ha
    · exact h1.ok a ha
    · rw [List.mem_singleton.1 ha]; exact ho
  · rcases List.mem_append.1 ha with ha | ha
    · exact h1.lo a ha k hk
    · rw [List.mem_singleton.1 ha] at hk
      exact ⟨Nat.le_trans h.below.size (hn k hk).1, (hn k hk).2⟩
  · rw [List.pairwise_append]
    refine ⟨h1.ap, List.pairwise_singleton _ _, fun a ha b hb' k hk hk2 => ?_⟩
    rw [List.mem_singleton.1 hb'] at hk2
    have := (h.lo a ha k hk).2
    have := (hn k hk2).1
    omega
/-- Something is forgotten. -/
theorem Sep.sub {l' : List Ob} (h : Sep w0 w l) (hs : l'.Sublist l) : Sep w0 w l' :=
  ⟨h.below, fun o ho => h.ok o (hs.subset ho), fun o ho => h.lo o (hs.subset ho), h.ap.sublist hs⟩
theorem Sep.take (h : Sep w0 w l) (k : Nat) : Sep w0 w (l.take k) := h.sub (List.take_sublist k l)
theorem Sep.init {o : Ob} (h : Sep w0 w (l ++ [o])) : Sep w0 w l := h.sub (List.sublist_append_left _ _)
theorem Sep.tail {o : Ob} (h : Sep w0 w (o :: l)) : Sep w0 w l := h.sub (List.sublist_cons_self _ _)
theorem ap_ne {l : List Ob} (h : l.Pairwise fun a b => ∀ k ∈ a.F, k ∉ b.F) {i j : Nat} {a b : Ob} (hi : l[i]? = some a) (hj : l[j]? = some b) (hne : i ≠ j) : ∀ k ∈ a.F, k ∉ b.F := by
  obtain ⟨h1, e1⟩ := List.getElem?_eq_some_iff.1 hi
  obtain ⟨h2, e2⟩ := List.getElem?_eq_some_iff.1 hj
  rcases Nat.lt_or_gt_of_ne hne with hlt | hlt
  · have := List.pairwise_iff_getElem.1 h i j h1 h2 hlt
    rw [e1, e2] at this
    exact this
  · have := List.pairwise_iff_getElem.1 h j i h2 h1 hlt
    rw [e1, e2] at this
    exact fun k hk hk2 => this k hk2 hk
/-- One of them is turned: its blocks, and new ones. -/
theorem Sep.turn (h : Sep w0 w l) (i : Nat) {o : Ob} (e : l[i]? = some o) {S : Nat → Prop} (ho : Only S w w') (hS : ∀ k, S k → k ∈ o.F) (o' : Ob) (hP : o'.P w') (hF : ∀ k ∈ o'.F, k ∈ o.F ∨ (w.heap.size ≤ k ∧ k < w'.heap.size)) : Sep w0 w' (l.set i o') := by
  have hm := List.mem_of_getElem? e
  have other : ∀ (j : Nat) (a : Ob), j ≠ i → l[j]? = some a → ∀ k ∈ a.F, w'.heap[k]? = w.heap[k]? := fun j a hj ha k hk =>
    ho.block k (h.lo a (List.mem_of_getElem? ha) k hk).2 (fun hs => ap_ne h.ap e ha (Ne.symm hj) k (hS k hs) hk)
  have mem : ∀ a ∈ l.set i o', a = o' ∨ ∃ j, j ≠ i ∧ l[j]? = some a := by
    intro a ha
    obtain ⟨j, hj, ea⟩ := List.mem_iff_getElem.1 ha
    rw [List.getElem_set] at ea
    split at ea
    · exact .inl ea.symm
    · refine .inr ⟨j, fun c => by omega, ?_⟩
      rw [List.length_set] at hj
      rw [List.getElem?_eq_getElem hj, ea]
  refine ⟨?_, fun a ha => ?_, fun a ha k hk => ?_, ?_⟩
  · exact ho.below h.below h.below.size (fun k hk => (h.lo o hm k (hS k hk)).1)
  · rcases mem a ha with rfl | ⟨j, hj, ea⟩
    · exact hP
    · exact a.st (other j a hj ea) (h.ok a (List.mem_of_getElem? ea))
  · rcases mem a ha with rfl | ⟨j, hj, ea⟩
    · rcases hF k hk with hk | hk
      · exact ⟨(h.lo o hm k hk).1, Nat.lt_of_lt_of_le (h.lo o hm k hk).2 ho.size⟩
      · exact ⟨Nat.le_trans h.below.size hk.1, hk.2⟩
    · have := h.lo a (List.mem_of_getElem? ea) k hk
      exact ⟨this.1, Nat.lt_of_lt_of_le this.2 ho.size⟩
  · rw [List.pairwise_iff_getElem]
    intro x y hx hy hxy k hk hk2
    rw [List.length_set] at hx hy
    rw [List.getElem_set] at hk hk2
    have old : ∀ (j : Nat) (hj : j < l.length), j ≠ i → k ∈ l[j].F → k ∈ o'.F → False := by
      intro j hj hji h1 h2
      rcases hF k h2 with h2 | h2
      · exact ap_ne h.ap e (List.getElem?_eq_getElem hj) (Ne.symm hji) k h2 h1
      · have := (h.lo _ (List.getElem_mem hj) k h1).2
        omega
    split at hk
    · split at hk2
      · omega
      · exact old y hy (by omega) hk2 hk
    · split at hk2
      · exact old x hx (by omega) hk hk2
      · exact List.pairwise_iff_getElem.1 h.ap x y hx hy hxy k hk hk2
end
/-- An array with gaps. -/
def Arr (p sb ob wb n : Nat) (s : Gap) : Ob where
  F := [p, sb, ob, wb]
  P := fun w => Is w p sb ob wb n s
  st := fun hs ⟨vs, h⟩ => ⟨vs, SlAt.stay (K := [p, sb, ob, wb]) h hs (by simp) (by simp) (by simp) (by simp)⟩
/-- A block that is known whole. -/
def Blk (b : Nat) (cs : Array Value) (t : Nat) : Ob where
  F := [b]
  P := fun w => w.heap[b]? = some (.cells cs t (0, 0))
  st := fun hs h => (hs b (by simp)).trans h
/-- A row of whole numbers of the function's own. -/
def Own (v : Value) (xs : List Int) : Ob where
  F := v.ownBlock.toList
  P := fun w => w.ownsRow 0 3 1 v xs.length (nums .i64 xs)
  st := fun hs h => own_move h fun k hk => hs k (by rw [hk]; simp)
section
variable {w0 w w' : World} {l : List Ob} {p sb ob wb n : Nat} {s : Gap}
theorem Sep.arr (h : Sep w0 w l) (i : Nat) (e : l[i]? = some (Arr p sb ob wb n s)) : Is w p sb ob wb n s := h.get i e
theorem Sep.blk (h : Sep w0 w l) (i : Nat) {b t : Nat} {cs : Array Value} (e : l[i]? = some (Blk b cs t)) : w.heap[b]? = some (.cells cs t (0, 0)) := h.get i e
theorem Sep.own (h : Sep w0 w l) (i : Nat) {v : Value} {xs : List Int} (e : l[i]? = some (Own v xs)) : w.ownsRow 0 3 1 v xs.length (nums .i64 xs) := h.get i e
theorem is_lt (h : Is w p sb ob wb n s) : ∀ k ∈ [p, sb, ob, wb], k < w.heap.size := by
  obtain ⟨vs, h⟩ := h
  intro k hk
  simp only [List.mem_cons, List.not_mem_nil, or_false] at hk
  rcases hk with rfl | rfl | rfl | rfl
  · exact blk_lt h.hp
  · exact blk_lt h.hs
  · exact blk_lt h.bits.ho
  · exact blk_lt h.bits.hw
/-- An array is made. -/
theorem Sep.new_arr (h : Sep w0 w l) (hb : Below w.heap.size w w') (hs : Is w' p sb ob wb n s) (h4 : w.heap.size ≤ p ∧ w.heap.size ≤ sb ∧ w.heap.size ≤ ob ∧ w.heap.size ≤ wb) : Sep w0 w' (l ++ [Arr p sb ob wb n s]) :=
  h.push hb _ hs fun k hk => ⟨by
    have hk' := hk
    simp only [Arr, List.mem_cons, List.not_mem_nil, or_false] at hk'
    omega, is_lt hs k hk⟩
/-- An array is turned. -/
theorem Sep.turn_arr (h : Sep w0 w l) (i : Nat) (e : l[i]? = some (Arr p sb ob wb n s)) {s' : Gap} (ho : Only (Mine sb wb) w w') (hs : Is w' p sb ob wb n s') : Sep w0 w' (l.set i (Arr p sb ob wb n s')) :=
  h.turn i e ho (fun k hk => by rcases hk with rfl | rfl <;> simp [Arr]) _ hs (fun k hk => .inl hk)
theorem Sep.new_blk (h : Sep w0 w l) (cs : Array Value) (t : Nat) : Sep w0 (w.alloc (.cells cs t)) (l ++ [Blk w.heap.size cs t]) :=
  h.push (below_alloc (Below.refl _ w) _) _ (blk_new w _) fun k hk => by
    simp only [Blk, List.mem_singleton] at hk
    subst hk
    exact ⟨Nat.le_refl _, by simp⟩
theorem Sep.turn_blk (h : Sep w0 w l) (i : Nat) {b t : Nat} {cs : Array Value} (e : l[i]? = some (Blk b cs t)) (j : Nat) (u : Value) : Sep w0 (w.setCell ⟨b, j, none⟩ u) (l.set i (Blk b (cs.setIfInBounds j u) t)) :=
  h.turn i e (Only.set (· = b) w (p := ⟨b, j, none⟩) rfl u) (fun k hk => by rw [hk]; simp [Blk]) _ (blk_set (h.blk i e) j u) (fun k hk => .inl hk)
/-- A row is made. -/
theorem Sep.new_own (h : Sep w0 w l) (hb : Below w.heap.size w w') {v : Value} {xs : List Int} (hr : w'.ownsRow w.heap.size 3 1 v xs.length (nums .i64 xs)) : Sep w0 w' (l ++ [Own v xs]) :=
  h.push hb _ (own_low hr (Nat.zero_le _)) fun k hk => by
    have hk' : v.ownBlock = some k := by simpa [Own] using hk
    exact ⟨own_base hr k hk', own_lt hr k hk'⟩
theorem Sep.row (h : Sep w0 w l) (i : Nat) {A : Option Addr} {n c : Nat} {xs : List Int} (e : l[i]? = some (Own (.slice A n c) xs)) : n = xs.length ∧ n ≤ c ∧ Kd.C (Kd.int .i64) w A n xs := by
  have h0 := h.own i e
  obtain ⟨A', c', e', h1, h2⟩ := G9.own_C h0
  cases e'
  exact ⟨rfl, h1, h2⟩
end
end Go.Proofs.YtbjkncgpoengaaaDoor.S1

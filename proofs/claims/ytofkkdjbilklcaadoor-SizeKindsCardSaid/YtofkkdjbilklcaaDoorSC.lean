/- Objects whose blocks hold cells; objects in two groups. -/
import Derived.Test.YtofkkdjbilklcaaDoorSX
namespace Go.Proofs.YtofkkdjbilklcaaDoor.S1
open Go.RowKit Go.Shelf Go.Proofs.YtofkkdjbilklcaaDoorW.PrintWords Go.Proofs.YtofkkdjbilklcaaDoorW.PrintLast Go.Proofs.YtofkkdjbilklcaaDoorW.PrintMore G1 G0 Q1 G2 G3 G4 G5 G6 G7 G8 G9 G10
set_option linter.unusedVariables false
set_option linter.unusedSimpArgs false
/-- All its blocks hold cells. -/
def Ob.Celled (o : Ob) : Prop := ∀ W, o.P W → ∀ k ∈ o.F, ∃ c, W.heap[k]? = some c ∧ c.isCells = true
theorem celled_blk (b : Nat) (cs : Array Value) (t : Nat) : (Blk b cs t).Celled := by
  intro W h k hk
  simp only [Blk, List.mem_singleton] at hk
  subst hk
  exact ⟨_, h, rfl⟩
theorem celled_arr (p sb ob wb n : Nat) (s : Gap) : (Arr p sb ob wb n s).Celled := by
  intro W h k hk
  obtain ⟨vs, h⟩ := h
  simp only [Arr, List.mem_cons, List.not_mem_nil, or_false] at hk
  rcases hk with rfl | rfl | rfl | rfl
  · exact ⟨_, h.hp, rfl⟩
  · exact ⟨_, h.hs, rfl⟩
  · exact ⟨_, h.bits.ho, rfl⟩
  · exact ⟨_, h.bits.hw, rfl⟩
theorem celled_own (v : Value) (xs : List Int) : (S1.Own v xs).Celled := by
  intro W h k hk
  have hk' : v.ownBlock = some k := by simpa [S1.Own] using hk
  rcases h.2 with ⟨h1, _⟩ | ⟨g, cap, cur, h1, _, h2, _⟩
  · rw [h1] at hk'; cases hk'
  · rw [h1] at hk'
    obtain rfl : g = k := Option.some.inj hk'
    exact ⟨_, h2, rfl⟩
theorem celled_def {l : List Ob} {W W' : World} {D : Nat} (hc : ∀ o ∈ l, o.Celled) (hP : ∀ o ∈ l, o.P W) {d : Obj} (hD : W.heap[D]? = some d) (hd : d.isCells = false) : ∀ o ∈ l, D ∉ o.F := by
  intro o ho hk
  obtain ⟨c, h1, h2⟩ := hc o ho W (hP o ho) D hk
  rw [hD] at h1
  obtain rfl := Option.some.inj h1
  rw [hd] at h2
  cases h2
/-- Objects of cells stand while a block that is none is turned. -/
theorem sep_growC {w0 W W' : World} {l : List Ob} {B : Nat} {row : Option Nat} (h : Sep w0 W l) (hc : ∀ o ∈ l, o.Celled) (hg : W.grownBy W' row) (hr : ∀ r, row = some r → B ≤ r ∧ ∃ o : Obj, W.heap[r]? = some o ∧ o.isCells = false) (h0 : w0.heap.size ≤ B) : Sep w0 W' l :=
  ⟨⟨hg.os.trans h.below.os, hg.tape.trans h.below.tape, hg.output.trans h.below.output, Nat.le_trans h.below.size hg.size, fun k hk => (hg.block k (Nat.lt_of_lt_of_le hk h.below.size) (fun e => by have := (hr k e.symm).1; omega)).trans (h.below.block k hk)⟩,
    fun o ho => o.st (fun k hk => hg.block k (h.lo o ho k hk).2 (fun e => by
      obtain ⟨_, d, h1, h2⟩ := hr k e.symm
      exact celled_def (W' := W) hc h.ok h1 h2 o ho hk)) (h.ok o ho),
    fun o ho k hk => ⟨(h.lo o ho k hk).1, Nat.lt_of_lt_of_le (h.lo o ho k hk).2 hg.size⟩, h.ap⟩
theorem sep_defC {w0 W : World} {l : List Ob} {B D : Nat} (h : Sep w0 W l) (hc : ∀ o ∈ l, o.Celled) (hD : B ≤ D) (h0 : w0.heap.size ≤ B) (hK : W.heap[D]? = some (.deferred (some []))) : Sep w0 W (l ++ [Def D]) :=
  sep_add h (Def D) hK (fun k hk => by simp only [Def, List.mem_singleton] at hk; subst hk; exact ⟨Nat.le_trans h0 hD, blk_lt hK⟩) (fun a ha k hk hk2 => by
    simp only [Def, List.mem_singleton] at hk2
    subst hk2
    exact celled_def (W' := W) hc h.ok hK rfl a ha hk)
/-- Turns of cells keep all that is none. -/
theorem keepsC {S : Nat → Prop} {B : Nat} {W W' : World} (h : Only S W W') (hS : ∀ k, S k → ∃ c, W.heap[k]? = some c ∧ c.isCells = true) : KeepsFrom B W W' :=
  ⟨h.size, fun k o hB hk ho => (h.block k (blk_lt hk) (fun hs => by
    obtain ⟨c, h1, h2⟩ := hS k hs
    rw [hk] at h1
    obtain rfl := Option.some.inj h1
    rw [ho] at h2
    cases h2)).trans hk⟩
section
variable {w0 w w' : World} {A B l : List Ob}
theorem Sep.left (h : Sep w0 w (A ++ B)) : Sep w0 w A := h.sub (List.sublist_append_left _ _)
theorem Sep.right (h : Sep w0 w (A ++ B)) : Sep w0 w B := h.sub (List.sublist_append_right _ _)
theorem Sep.perm {l l' : List Ob} (h : Sep w0 w l) (hp : l.Perm l') : Sep w0 w l' :=
  ⟨h.below, fun o ho => h.ok o (hp.mem_iff.2 ho), fun o ho => h.lo o (hp.mem_iff.2 ho), (hp.pairwise_iff (fun {a b} hab k hk hk2 => hab k hk2 hk)).1 h.ap⟩
theorem Sep.swap (h : Sep w0 w (A ++ B)) : Sep w0 w (B ++ A) := h.perm List.perm_append_comm
theorem right_at {i : Nat} {o : Ob} (e : B[i]? = some o) : (A ++ B)[A.length + i]? = some o := by
  rw [List.getElem?_append_right (by omega), show A.length + i - A.length = i by omega]; exact e
theorem right_set {i : Nat} {o : Ob} : (A ++ B).set (A.length + i) o = A ++ B.set i o := by
  rw [List.set_append_right _ _ (by omega), show A.length + i - A.length = i by omega]
theorem Sep.turn_arrR {p sb ob wb n : Nat} {s s' : Gap} (h : Sep w0 w (A ++ B)) (i : Nat) (e : B[i]? = some (Arr p sb ob wb n s)) (ho : Only (Mine sb wb) w w') (hs : Is w' p sb ob wb n s') : Sep w0 w' (A ++ B.set i (Arr p sb ob wb n s')) := by
  have h1 := h.turn_arr (A.length + i) (right_at e) ho hs
  rw [right_set] at h1
  exact h1
theorem Sep.turn_blkR {b t : Nat} {cs : Array Value} (h : Sep w0 w (A ++ B)) (i : Nat) (e : B[i]? = some (Blk b cs t)) (j : Nat) (u : Value) : Sep w0 (w.setCell ⟨b, j, none⟩ u) (A ++ B.set i (Blk b (cs.setIfInBounds j u) t)) := by
  have h1 := h.turn_blk (A.length + i) (right_at e) j u
  rw [right_set] at h1
  exact h1
theorem Sep.shutR {D : Nat} (h : Sep w0 w (A ++ B)) (i : Nat) (e : B[i]? = some (Def D)) : Sep w0 (shut w D) (A ++ B.set i Gone) := by
  have h1 := sep_shut h (A.length + i) (right_at e)
  rw [right_set] at h1
  exact h1
theorem Sep.ne (h : Sep w0 w (A ++ B)) {a b : Ob} (ha : a ∈ A) (hb : b ∈ B) : ∀ k ∈ a.F, k ∉ b.F := (List.pairwise_append.1 h.ap).2.2 a ha b hb
end
end Go.Proofs.YtofkkdjbilklcaaDoor.S1

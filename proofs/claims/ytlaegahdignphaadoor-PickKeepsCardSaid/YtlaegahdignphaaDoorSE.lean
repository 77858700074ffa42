/- Objects of a function's own, side by side (for a seat without arrays with gaps): each has its blocks; a call turns one of them, the others stand. -/
import Derived.Test.YtlaegahdignphaaDoorQ1
import Derived.Lib.Hide
import Derived.RangeFuncBox
import Derived.RangeFuncNested
import Derived.RangeFuncBound
import Derived.RangeFuncCalls
import Derived.RangeFuncLeaves
import Derived.Shelf.Abstract
import Derived.Shelf.RegionOpen
import Derived.OwnWalkIn
import Derived.TacticsInMore
import Derived.LoopNIn
import Derived.LoopIn
import Derived.Maps.AppendAt
import Derived.Laws.EntriesVeiled
import Derived.StillTailTactics
namespace Go.Proofs.YtlaegahdignphaaDoor.S1
open Go.RowKit Go.Shelf Go.Proofs.YtlaegahdignphaaDoorW.PrintWords Go.Proofs.YtlaegahdignphaaDoorW.PrintLast Go.Proofs.YtlaegahdignphaaDoorW.PrintMore
set_option linter.unusedVariables false
set_option linter.unusedSimpArgs false

/-- Nothing turned but blocks of which S holds, and what is new. -/
structure Only (S : Nat → Prop) (w w' : World) : Prop where
  os : w'.os = w.os
  tape : w'.tape = w.tape
  output : w'.output = w.output
  size : w.heap.size ≤ w'.heap.size
  block : ∀ k, k < w.heap.size → ¬ S k → w'.heap[k]? = w.heap[k]?
section
variable {S S' : Nat → Prop} {w w1 w2 : World}
theorem Only.refl (S : Nat → Prop) (w : World) : Only S w w := ⟨rfl, rfl, rfl, Nat.le_refl _, fun _ _ _ => rfl⟩
theorem Only.then_ (h : Only S w w1) (k : Only S' w1 w2) (hs : ∀ k, S' k → S k ∨ w.heap.size ≤ k) : Only S w w2 :=
  ⟨k.os.trans h.os, k.tape.trans h.tape, k.output.trans h.output, Nat.le_trans h.size k.size, fun i hi hn => (k.block i (Nat.lt_of_lt_of_le hi h.size) (fun hc => by rcases hs i hc with h1 | h1; exact hn h1; omega)).trans (h.block i hi hn)⟩
theorem Only.trans (h : Only S w w1) (k : Only S w1 w2) : Only S w w2 := h.then_ k fun _ h => .inl h
theorem Only.mono (h : Only S w w1) (hs : ∀ k, S k → S' k) : Only S' w w1 := ⟨h.os, h.tape, h.output, h.size, fun i hi hn => h.block i hi fun hc => hn (hs i hc)⟩
theorem Only.of_below (h : Below w.heap.size w w1) : Only S w w1 := ⟨h.os, h.tape, h.output, h.size, fun i hi _ => h.block i hi⟩
theorem Only.below {B : Nat} {w0 : World} (h : Only S w w1) (k : Below B w0 w) (hB : B ≤ w.heap.size) (hs : ∀ k, S k → B ≤ k) : Below B w0 w1 :=
  ⟨h.os.trans k.os, h.tape.trans k.tape, h.output.trans k.output, Nat.le_trans k.size h.size, fun i hi => (h.block i (by omega) fun hc => by have := hs i hc; omega).trans (k.block i hi)⟩
theorem Only.set (S : Nat → Prop) (w : World) {p : Addr} (hp : S p.block) (v : Value) : Only S w (w.setCell p v) :=
  ⟨rfl, rfl, rfl, by simp [World.setCell], fun i hi hn => Below.heap_setCell _ _ _ _ fun e => hn (by rw [e]; exact hp)⟩
theorem Only.blk (h : Only S w w1) {g : Nat} {o : Obj} (hg : w.heap[g]? = some o) (hn : ¬ S g) : w1.heap[g]? = some o := (h.block g (blk_lt hg) hn).trans hg
end

/-- Blocks that stay. -/
def Stay (K : List Nat) (A B : World) : Prop := ∀ k ∈ K, B.heap[k]? = A.heap[k]?
theorem Stay.refl (K : List Nat) (A : World) : Stay K A A := fun _ _ => rfl
theorem Stay.trans {K : List Nat} {A B C : World} (h : Stay K A B) (k : Stay K B C) : Stay K A C := fun i hi => (k i hi).trans (h i hi)
theorem Stay.of_below {K : List Nat} {A B : World} (h : Below A.heap.size A B) (hK : ∀ k ∈ K, k < A.heap.size) : Stay K A B := fun i hi => h.block i (hK i hi)
theorem own_low {w : World} {base base' : Nat} {e : TypeId} {size n : Nat} {v : Value} {xs : List Value} (h : w.ownsRow base e size v n xs) (hb : base' ≤ base) : w.ownsRow base' e size v n xs := by
  refine ⟨h.1, ?_⟩
  rcases h.2 with h2 | ⟨g, cap, cur, he, hg, rest⟩
  · exact .inl h2
  · exact .inr ⟨g, cap, cur, he, Nat.le_trans hb hg, rest⟩
/-- A row of the call's own, read. -/
theorem own_C {w : World} {base e n : Nat} {v : Value} {xs : List Int} (h : w.ownsRow base e 1 v n (nums .i64 xs)) : ∃ A c, v = .slice A n c ∧ n ≤ c ∧ Kd.C (Kd.int .i64) w A n xs := by
  obtain ⟨A, c, rfl, hr⟩ := own_reads h
  refine ⟨A, c, rfl, ?_, Kd.C_of_reads (d := (0 : Int)) (h1 := fun _ => rfl) hr⟩
  rcases h.2 with ⟨h1, h2⟩ | ⟨g, cap, cur, h1, _, _, h2, _⟩
  · simp at h1; omega
  · simp at h1; omega
theorem lit_reads (w : World) (l : List Int) (h : l.length ≤ 1000) : Kd.C (Kd.int .i64) (w.alloc (.cells (l.map (Value.int .i64)).toArray 3)) (some ⟨w.heap.size, 0, none⟩) l.length l := by
  refine ⟨rfl, by omega, fun _ => ⟨_, rfl, fun j p hp => ⟨[.int .i64 p], rfl, rfl, fun i u hu => ?_⟩⟩⟩
  obtain ⟨rfl, rfl⟩ : i = 0 ∧ u = .int .i64 p := by
    cases i with
    | zero => exact ⟨rfl, by simpa using hu.symm⟩
    | succ i => simp at hu
  rw [add_plain]
  refine (cell_of_row (w.alloc (.cells (l.map (Value.int .i64)).toArray 3)) w.heap.size _ _ 3 (0, 0) (blk_new w _)).trans ?_
  show (List.map (Value.int .i64) l).toArray[j * 1 + 0]? = _
  simp [hp]
/-- An object: its blocks, and what is said of it. -/
structure Ob where
  F : List Nat
  P : World → Prop
  st : ∀ {w w' : World}, (∀ k ∈ F, w'.heap[k]? = w.heap[k]?) → P w → P w'
/-- Objects that were made since w0, side by side; what was there stands. -/
structure Sep (w0 w : World) (l : List Ob) : Prop where
  below : Below w0.heap.size w0 w
  ok : ∀ o ∈ l, o.P w
  lo : ∀ o ∈ l, ∀ k ∈ o.F, w0.heap.size ≤ k ∧ k < w.heap.size
  ap : l.Pairwise fun a b => ∀ k ∈ a.F, k ∉ b.F
section
variable {w0 w w' : World} {l : List Ob}
theorem Sep.nil (w : World) : Sep w w [] := ⟨Below.refl _ _, (fun _ h => by cases h), (fun _ h => by cases h), .nil⟩
theorem Sep.get (h : Sep w0 w l) (i : Nat) {o : Ob} (e : l[i]? = some o) : o.P w := h.ok o (List.mem_of_getElem? e)
theorem Sep.step (h : Sep w0 w l) (hb : Below w.heap.size w w') : Sep w0 w' l :=
  ⟨below_step h.below hb, fun o ho => o.st (fun k hk => hb.block k (h.lo o ho k hk).2) (h.ok o ho), fun o ho k hk => ⟨(h.lo o ho k hk).1, Nat.lt_of_lt_of_le (h.lo o ho k hk).2 hb.size⟩, h.ap⟩
/-- Something is made. -/
theorem Sep.push (h : Sep w0 w l) (hb : Below w.heap.size w w') (o : Ob) (ho : o.P w') (hn : ∀ k ∈ o.F, w.heap.size ≤ k ∧ k < w'.heap.size) : Sep w0 w' (l ++ [o]) := by
  have h1 := h.step hb
  refine ⟨h1.below, fun a ha => ?_, fun a ha k hk => ?_, ?_⟩
  · rcases List.mem_append.1 ha with ha | ha
    · exact h1.ok a ha
    · rw [List.mem_singleton.1 ha]; exact ho
  · rcases List.mem_append.1 ha with ha | ha
    · exact h1.lo a ha k hk
    · rw [List.mem_singleton.1 ha] at hk
      exact ⟨Nat.le_trans h.below.size (hn k hk).1, (hn k hk).2⟩
  · rw [List.pairwise_append]
    refine ⟨h1.ap, List.pairwise_singleton _ _, fun a ha b hb' k hk hk2 => ?_⟩
    rw [List.mem_singleton.1 hb'] at hk2
    have := (h.lo a ha k hk).2
    have := (hn k hk2).1
    omega
/-- Something is forgotten. -/
theorem Sep.sub {l' : List Ob} (h : Sep w0 w l) (hs : l'.Sublist l) : Sep w0 w l' :=
  ⟨h.below, fun o ho => h.ok o (hs.subset ho), fun o ho => h.lo o (hs.subset ho), h.ap.sublist hs⟩
theorem Sep.take (h : Sep w0 w l) (k : Nat) : Sep w0 w (l.take k) := h.sub (List.take_sublist k l)
theorem Sep.init {o : Ob} (h : Sep w0 w (l ++ [o])) : Sep w0 w l := h.sub (List.sublist_append_left _ _)
theorem Sep.tail {o : Ob} (h : Sep w0 w (o :: l)) : Sep w0 w l := h.sub (List.sublist_cons_self _ _)
theorem ap_ne {l : List Ob} (h : l.Pairwise fun a b => ∀ k ∈ a.F, k ∉ b.F) {i j : Nat} {a b : Ob} (hi : l[i]? = some a) (hj : l[j]? = some b) (hne : i ≠ j) : ∀ k ∈ a.F, k ∉ b.F := by
  obtain ⟨h1, e1⟩ := List.getElem?_eq_some_iff.1 hi
  obtain ⟨h2, e2⟩ := List.getElem?_eq_some_iff.1 hj
  rcases Nat.lt_or_gt_of_ne hne with hlt | hlt
  · have := List.pairwise_iff_getElem.1 h i j h1 h2 hlt
    rw [e1, e2] at this
    exact this
  · have := List.pairwise_iff_getElem.1 h j i h2 h1 hlt
    rw [e1, e2] at this
    exact fun k hk hk2 => this k hk2 hk
/-- One of them is turned: its blocks, and new ones. -/
theorem Sep.turn (h : Sep w0 w l) (i : Nat) {o : Ob} (e : l[i]? = some o) {S : Nat → Prop} (ho : Only S w w') (hS : ∀ k, S k → k ∈ o.F) (o' : Ob) (hP : o'.P w') (hF : ∀ k ∈ o'.F, k ∈ o.F ∨ (w.heap.size ≤ k ∧ k < w'.heap.size)) : Sep w0 w' (l.set i o') := by
  have hm := List.mem_of_getElem? e
  have other : ∀ (j : Nat) (a : Ob), j ≠ i → l[j]? = some a → ∀ k ∈ a.F, w'.heap[k]? = w.heap[k]? := fun j a hj ha k hk =>
    ho.block k (h.lo a (List.mem_of_getElem? ha) k hk).2 (fun hs => ap_ne h.ap e ha (Ne.symm hj) k (hS k hs) hk)
  have mem : ∀ a ∈ l.set i o', a = o' ∨ ∃ j, j ≠ i ∧ l[j]? = some a := by
    intro a ha
    obtain ⟨j, hj, ea⟩ := List.mem_iff_getElem.1 ha
    rw [List.getElem_set] at ea
    split at ea
    · exact .inl ea.symm
    · refine .inr ⟨j, fun c => by omega, ?_⟩
      rw [List.length_set] at hj
      rw [List.getElem?_eq_getElem hj, ea]
  refine ⟨?_, fun a ha => ?_, fun a ha k hk => ?_, ?_⟩
  · exact ho.below h.below h.below.size (fun k hk => (h.lo o hm k (hS k hk)).1)
  · rcases mem a ha with rfl | ⟨j, hj, ea⟩
    · exact hP
    · exact a.st (other j a hj ea) (h.ok a (List.mem_of_getElem? ea))
  · rcases mem a ha with rfl | ⟨j, hj, ea⟩
    · rcases hF k hk with hk | hk
      · exact ⟨(h.lo o hm k hk).1, Nat.lt_of_lt_of_le (h.lo o hm k hk).2 ho.size⟩
      · exact ⟨Nat.le_trans h.below.size hk.1, hk.2⟩
    · have := h.lo a (List.mem_of_getElem? ea) k hk
      exact ⟨this.1, Nat.lt_of_lt_of_le this.2 ho.size⟩
  · rw [List.pairwise_iff_getElem]
    intro x y hx hy hxy k hk hk2
    rw [List.length_set] at hx hy
    rw [List.getElem_set] at hk hk2
    have old : ∀ (j : Nat) (hj : j < l.length), j ≠ i → k ∈ l[j].F → k ∈ o'.F → False := by
      intro j hj hji h1 h2
      rcases hF k h2 with h2 | h2
      · exact ap_ne h.ap e (List.getElem?_eq_getElem hj) (Ne.symm hji) k h2 h1
      · have := (h.lo _ (List.getElem_mem hj) k h1).2
        omega
    split at hk
    · split at hk2
      · omega
      · exact old y hy (by omega) hk2 hk
    · split at hk2
      · exact old x hx (by omega) hk hk2
      · exact List.pairwise_iff_getElem.1 h.ap x y hx hy hxy k hk hk2
end
/-- A block that is known whole. -/
def Blk (b : Nat) (cs : Array Value) (t : Nat) : Ob where
  F := [b]
  P := fun w => w.heap[b]? = some (.cells cs t (0, 0))
  st := fun hs h => (hs b (by simp)).trans h
/-- A row of whole numbers of the function's own. -/
def Own (v : Value) (xs : List Int) : Ob where
  F := v.ownBlock.toList
  P := fun w => w.ownsRow 0 3 1 v xs.length (nums .i64 xs)
  st := fun hs h => own_move h fun k hk => hs k (by rw [hk]; simp)
section
variable {w0 w w' : World} {l : List Ob}
theorem Sep.blk (h : Sep w0 w l) (i : Nat) {b t : Nat} {cs : Array Value} (e : l[i]? = some (Blk b cs t)) : w.heap[b]? = some (.cells cs t (0, 0)) := h.get i e
theorem Sep.own (h : Sep w0 w l) (i : Nat) {v : Value} {xs : List Int} (e : l[i]? = some (Own v xs)) : w.ownsRow 0 3 1 v xs.length (nums .i64 xs) := h.get i e
theorem Sep.new_blk (h : Sep w0 w l) (cs : Array Value) (t : Nat) : Sep w0 (w.alloc (.cells cs t)) (l ++ [Blk w.heap.size cs t]) :=
  h.push (below_alloc (Below.refl _ w) _) _ (blk_new w _) fun k hk => by
    simp only [Blk, List.mem_singleton] at hk
    subst hk
    exact ⟨Nat.le_refl _, by simp⟩
theorem Sep.turn_blk (h : Sep w0 w l) (i : Nat) {b t : Nat} {cs : Array Value} (e : l[i]? = some (Blk b cs t)) (j : Nat) (u : Value) : Sep w0 (w.setCell ⟨b, j, none⟩ u) (l.set i (Blk b (cs.setIfInBounds j u) t)) :=
  h.turn i e (Only.set (· = b) w (p := ⟨b, j, none⟩) rfl u) (fun k hk => by rw [hk]; simp [Blk]) _ (blk_set (h.blk i e) j u) (fun k hk => .inl hk)
/-- A row is made. -/
theorem Sep.new_own (h : Sep w0 w l) (hb : Below w.heap.size w w') {v : Value} {xs : List Int} (hr : w'.ownsRow w.heap.size 3 1 v xs.length (nums .i64 xs)) : Sep w0 w' (l ++ [Own v xs]) :=
  h.push hb _ (own_low hr (Nat.zero_le _)) fun k hk => by
    have hk' : v.ownBlock = some k := by simpa [Own] using hk
    exact ⟨own_base hr k hk', own_lt hr k hk'⟩
theorem Sep.row (h : Sep w0 w l) (i : Nat) {A : Option Addr} {n c : Nat} {xs : List Int} (e : l[i]? = some (Own (.slice A n c) xs)) : n = xs.length ∧ n ≤ c ∧ Kd.C (Kd.int .i64) w A n xs := by
  have h0 := h.own i e
  obtain ⟨A', c', e', h1, h2⟩ := own_C h0
  cases e'
  exact ⟨rfl, h1, h2⟩
end
theorem info3 : (Tryd.prog.info? 3).map (fun i => (i.zero, i.size, i.bytes)) = some (some (.int .i64 0), 1, 8) := by kernel_rfl
theorem Sep.append {w0 w w' : World} {l l' : List Ob} (h : Sep w0 w l) (k : Sep w w' l') : Sep w0 w' (l ++ l') := by
  have h1 := h.step k.below
  refine ⟨h1.below, fun a ha => ?_, fun a ha x hx => ?_, ?_⟩
  · rcases List.mem_append.1 ha with ha | ha
    · exact h1.ok a ha
    · exact k.ok a ha
  · rcases List.mem_append.1 ha with ha | ha
    · exact h1.lo a ha x hx
    · have := k.lo a ha x hx
      exact ⟨Nat.le_trans h.below.size this.1, this.2⟩
  · rw [List.pairwise_append]
    refine ⟨h1.ap, k.ap, fun a ha b hb x hx hx2 => ?_⟩
    have := (h.lo a ha x hx).2
    have := (k.lo b hb x hx2).1
    omega
/-- append(out, x), of a row of the function's own. -/
theorem sep_append {ops : Array Oper} {rest : List Oper} {o : Oper} {a : Act} {Q : Exit → Act → World → Prop} {w0 W : World} {l : List Ob} (hgd : o.guard = none) (s x : Operand) (ho : o.op = .call { callee := .builtin .append, args := #[s, x], argTypes := #[38, 38] })
    {v : Value} {xs : List Int} (h : Sep w0 W l) (i : Nat) (e : l[i]? = some (Own v xs)) (y : Int) (hs : a.eval s = v) (hx : a.eval x = .slice (some ⟨W.heap.size, 0, none⟩) 1 1) (hl : xs.length ≤ 1000000)
    (K : ∀ v1 w1, Sep w0 w1 (l.set i (Own v1 (xs ++ [y]))) → wpList Tryd.prog ops Q rest (a.put o.dst v1) w1) :
    wpList Tryd.prog ops Q (o :: rest) a (W.alloc (.cells #[.int .i64 y] 3)) := by
  refine print_append_num (w0 := W) 0 hgd s x 38 3 .i64 8 ho Tryd.underlying38 info3 (by decide) v xs y hs hx (h.own i e) (Below.refl _ _) (Nat.zero_le _) (by omega) fun v1 w1 hown _ hg hat => K v1 w1 ?_
  have ho : Only (fun k => v.ownBlock = some k) W w1 := ⟨hg.os, hg.tape, hg.output, hg.size, fun k hk hn => hg.block k hk (fun e => hn e.symm)⟩
  refine h.turn i e ho (fun k hk => by simp [Own, hk]) _ hown fun k hk => ?_
  have hk' : v1.ownBlock = some k := by simpa [Own] using hk
  rcases hat with hat | ⟨b, hb, hle⟩
  · exact .inl (by simp only [Own]; rw [← hat]; exact hk)
  · rw [hb] at hk'
    obtain rfl := Option.some.inj hk'
    exact .inr ⟨hle, own_lt hown _ (by rw [hb])⟩
/-- Objects that lie below B stand while what lies from B on is turned. -/
theorem sep_grow {w0 W W' : World} {l : List Ob} {B : Nat} {row : Option Nat} (h : Sep w0 W l) (hB : ∀ o ∈ l, ∀ k ∈ o.F, k < B) (hg : W.grownBy W' row) (hr : ∀ r, row = some r → B ≤ r) (h0 : w0.heap.size ≤ B) : Sep w0 W' l :=
  ⟨⟨hg.os.trans h.below.os, hg.tape.trans h.below.tape, hg.output.trans h.below.output, Nat.le_trans h.below.size hg.size, fun k hk => (hg.block k (Nat.lt_of_lt_of_le hk h.below.size) (fun e => by have := hr k e.symm; omega)).trans (h.below.block k hk)⟩,
    fun o ho => o.st (fun k hk => hg.block k (h.lo o ho k hk).2 (fun e => by have := hr k e.symm; have := hB o ho k hk; omega)) (h.ok o ho),
    fun o ho k hk => ⟨(h.lo o ho k hk).1, Nat.lt_of_lt_of_le (h.lo o ho k hk).2 hg.size⟩, h.ap⟩
theorem keeps_only {S : Nat → Prop} {B : Nat} {W W' : World} (h : Only S W W') (hS : ∀ k, S k → k < B) : KeepsFrom B W W' :=
  ⟨h.size, fun k o hB hk _ => (h.block k (blk_lt hk) (fun hs => by have := hS k hs; omega)).trans hk⟩
theorem keeps_below {B : Nat} {W W' : World} (h : Below W.heap.size W W') : KeepsFrom B W W' := keeps_only (S := fun _ => False) (Only.of_below h) (fun _ h => h.elim)
theorem stay_only {S : Nat → Prop} {K : List Nat} {W W' : World} (h : Only S W W') (hK : ∀ k ∈ K, k < W.heap.size ∧ ¬ S k) : Stay K W W' := fun k hk => h.block k (hK k hk).1 (hK k hk).2
/-- A result that lies in a cell. -/
theorem results_cell {fn : Func} {t : Nat} {ty : TypeId} {P : Program} {W : World} {tmps : Array Value} {b : Nat} {v : Value} (h : fn.results = #[.cell t ty]) (ht : tmps.getD t undef = .pointer (some ⟨b, 0, none⟩)) (hc : W.cell? ⟨b, 0, none⟩ = some v) (ha : (isAgg ty).run P W = .ok false W) : (results fn tmps).run P W = .ok v W := by
  have ht' : tmps[t]?.getD undef = .pointer (some ⟨b, 0, none⟩) := by simpa using ht
  simp [results, h, ht', asAddr, loadVar, go_sem, ha, hc]
section
variable {P : Program} {F : Fence} {n : Nat} {fn : Func} {R : Ending → World → Prop} {tmps : Array Value} {w : World} {v : Value}
theorem leave0 (hr : (results fn tmps).run P w = .ok v w) (hR : R (.returned v) w) : bodyPostM F n P fn R .ret { tmps := tmps, defers := [] } w :=
  ⟨v, hr, hR⟩
/-- The world behind the end of a range. -/
def shut (w : World) (D : Nat) : World := w.putObj D (.deferred none)
theorem leave1 {D : Nat} (hD : w.heap[D]? = some (.deferred (some []))) (hr : (results fn tmps).run P (shut w D) = .ok v (shut w D)) (hR : R (.returned v) (shut w D)) : bodyPostM F n P fn R .ret { tmps := tmps, defers := [{ target := .collected D, args := #[] }] } w :=
  ⟨by simp, .inl ⟨_, _, rfl, run_takeDeferred hD, v, hr, hR⟩⟩
theorem shut_other {D k : Nat} (h : k ≠ D) : (shut w D).heap[k]? = w.heap[k]? := World.putObj_heap_other h
theorem leave2 {D E : Nat} (hne : D ≠ E) (hD : w.heap[D]? = some (.deferred (some []))) (hE : w.heap[E]? = some (.deferred (some []))) (hr : (results fn tmps).run P (shut (shut w E) D) = .ok v (shut (shut w E) D)) (hR : R (.returned v) (shut (shut w E) D)) : bodyPostM F n P fn R .ret { tmps := tmps, defers := [{ target := .collected E, args := #[] }, { target := .collected D, args := #[] }] } w :=
  ⟨by simp, .inl ⟨_, _, rfl, run_takeDeferred hE, leave1 ((shut_other hne).trans hD) hr hR⟩⟩
end
theorem own_conv {w w' : World} {A : Option Addr} {m c : Nat} {xs : List Int} (hb : Below w.heap.size w w') (hr : w'.ownsRow w.heap.size 3 1 (.slice A m c) m (nums .i64 xs)) (hm : xs.length = m) : Sep w w' [Own (.slice A m c) xs] := by
  subst hm
  exact (Sep.nil w).new_own hb hr
theorem own_addr {w : World} {A : Option Addr} {n c : Nat} {xs : List Int} (h : w.ownsRow 0 3 1 (.slice A n c) xs.length (nums .i64 xs)) (hn : 0 < xs.length) : ∃ b, A = some ⟨b, 0, none⟩ ∧ ∀ i, i < xs.length → w.cell? ⟨b, i, none⟩ = some (.int .i64 (xs.getD i 0)) := by
  rcases h.2 with ⟨h1, h2⟩ | ⟨b, cap, cur, h1, _⟩
  · omega
  · obtain ⟨rfl, rfl, rfl⟩ : A = some ⟨b, 0, none⟩ ∧ n = xs.length ∧ c = cap := by simpa using h1
    refine ⟨b, rfl, fun i hi => ?_⟩
    have := own_at h (i : Int) (by omega) (by omega)
    rw [Int.toNat_natCast] at this
    exact this.1
/-- The block of a range's deferred calls. -/
def Def (D : Nat) : Ob where
  F := [D]
  P := fun w => w.heap[D]? = some (.deferred (some []))
  st := fun hs h => (hs D (by simp)).trans h
def Gone : Ob where
  F := []
  P := fun _ => True
  st := fun _ _ => trivial
theorem sep_add {w0 W : World} {l : List Ob} (h : Sep w0 W l) (o : Ob) (ho : o.P W) (hn : ∀ k ∈ o.F, w0.heap.size ≤ k ∧ k < W.heap.size) (ha : ∀ a ∈ l, ∀ k ∈ a.F, k ∉ o.F) : Sep w0 W (l ++ [o]) := by
  refine ⟨h.below, fun a hm => ?_, fun a hm k hk => ?_, ?_⟩
  · rcases List.mem_append.1 hm with hm | hm
    · exact h.ok a hm
    · rw [List.mem_singleton.1 hm]; exact ho
  · rcases List.mem_append.1 hm with hm | hm
    · exact h.lo a hm k hk
    · rw [List.mem_singleton.1 hm] at hk; exact hn k hk
  · rw [List.pairwise_append]
    refine ⟨h.ap, List.pairwise_singleton _ _, fun a hm b hb k hk hk2 => ?_⟩
    rw [List.mem_singleton.1 hb] at hk2
    exact ha a hm k hk hk2
theorem sep_def {w0 W : World} {l : List Ob} {B D : Nat} (h : Sep w0 W l) (hB : ∀ o ∈ l, ∀ k ∈ o.F, k < B) (hD : B ≤ D) (h0 : w0.heap.size ≤ B) (hK : W.heap[D]? = some (.deferred (some []))) : Sep w0 W (l ++ [Def D]) :=
  sep_add h (Def D) hK (fun k hk => by simp only [Def, List.mem_singleton] at hk; subst hk; exact ⟨Nat.le_trans h0 hD, blk_lt hK⟩) (fun a ha k hk hk2 => by simp only [Def, List.mem_singleton] at hk2; have := hB a ha k hk; omega)
theorem sep_shut {w0 W : World} {l : List Ob} {D : Nat} (h : Sep w0 W l) (i : Nat) (e : l[i]? = some (Def D)) : Sep w0 (shut W D) (l.set i Gone) :=
  h.turn i e (S := (· = D)) (show Only (· = D) W (shut W D) from ⟨rfl, rfl, rfl, by simp [shut], fun k _ hk => shut_other hk⟩) (fun k hk => by rw [hk]; simp [Def]) Gone trivial (fun k hk => by cases hk)
/-- What holds of all blocks of some objects holds of those of others with the same blocks. -/
theorem foot_of {l l' : List Ob} {P : Nat → Prop} (e : l'.map Ob.F = l.map Ob.F) (h : ∀ o ∈ l, ∀ q ∈ o.F, P q) : ∀ o ∈ l', ∀ q ∈ o.F, P q := by
  intro o ho q hq
  have h1 : o.F ∈ l.map Ob.F := by rw [← e]; exact List.mem_map_of_mem ho
  obtain ⟨o2, h2, e2⟩ := List.mem_map.1 h1
  exact h o2 h2 q (by rw [e2]; exact hq)
end Go.Proofs.YtlaegahdignphaaDoor.S1

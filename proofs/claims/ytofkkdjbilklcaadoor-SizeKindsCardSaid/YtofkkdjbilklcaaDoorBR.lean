/- In a round of a range over a function a region that draws its order is walked as outside of one. -/
import Derived.BigQuiet
import Derived.OrdersIn
import Derived.OrdersHeld
import Derived.RangeFuncNested
import Derived.TacticsIn
import Derived.StillTailTactics
namespace Go.Proofs.YtofkkdjbilklcaaDoor.BR
open Go
def noDefer (ops : Array Oper) : Bool := ops.all fun o => match o.op with | .defer _ => false | _ => true
theorem noDefer_at {ops : Array Oper} {i : Nat} {o : Oper} (h : noDefer ops = true) (hi : ops[i]? = some o) : ∀ c, o.op ≠ .defer c := by
  intro c hc
  obtain ⟨hlt, rfl⟩ := Array.getElem?_eq_some_iff.1 hi
  have := Array.all_eq_true.1 h i hlt
  rw [hc] at this
  cases this
section
variable {P : Program} {l n : Nat} {ops : Array Oper} {md : Region.Mode} {Q Q' : Exit → Act → World → Prop}
theorem calls_round {f : FuncId} {args : Array Value} {w : World} {R : Ending → World → Prop} (h : Calls P f args w R) : CallsIn (Fence.wide.inRound l) n P f args w R := (callsIn_wide.2 h).inRound l
theorem rows_round {row : String} {args : Array Value} {w : World} {R : Value → World → Prop} (h : Rows P row args w R) : RowsIn (Fence.wide.inRound l) n P row args w R :=
  fun c cs _ => let ⟨v, w', r, s⟩ := h c cs; ⟨v, w', r, stepsIn_wide.2 s⟩
theorem oper_round {o : Oper} {a : Act} {w : World} {K K' : Act → World → Prop} (hd : ∀ c, o.op ≠ .defer c) (hK : ∀ a w, K a w → K' a w) (hQ : ∀ e a w, Q e a w → Q' e a w) (h : o.wp P a w K Q) :
    o.wpIn (Fence.wide.inRound l) n P a w K' Q' := by
  unfold Oper.wp at h
  refine ⟨fun _ _ => trivial, ?_⟩
  rw [Oper.semAt_eq _ _ _ hd]
  generalize (execOp a.eval o).run P w = r at *
  cases r with
  | ok x w' =>
    cases x <;> simp only [Oper.upon] at h <;> simp only [Oper.uponIn]
    case value => exact hK _ _ h
    case skip => exact hK _ _ h
    case defer => exact hK _ _ h
    case enter =>
      refine ⟨fun h => by simp [Fence.wide] at h, (calls_round h).mono fun e w'' he => ?_⟩
      cases e with
      | returned v => exact hK _ _ he
      | panicked c => exact hQ _ _ _ he
      | outgrown => obtain ⟨a, w, hl⟩ := he; exact ⟨a, w, hQ _ _ _ hl⟩
    case row => exact ⟨fun h => by simp [Fence.wide] at h, (rows_round h).mono fun v w'' he => hK _ _ he⟩
  | halt x w' =>
    cases x <;> simp only [Oper.upon] at h <;> simp only [Oper.uponIn]
    case panic => exact hQ _ _ _ h
theorem op_round {i : Nat} {a : Act} {w : World} {K K' : Act → World → Prop} (hd : noDefer ops = true) (hl : ¬ LetsOut Q) (hK : ∀ a w, K a w → K' a w) (hQ : ∀ e a w, Q e a w → Q' e a w)
    (h : wpOp P ops Q i K a w) : wpOpIn (Fence.wide.inRound l) n P ops Q' i K' a w := by
  unfold wpOp at h
  unfold wpOpIn
  cases ho : ops[i]? with
  | none => simp only [ho] at h; exact hK _ _ h
  | some o =>
    simp only [ho] at h ⊢
    split
    · rename_i hw
      simp only [hw, if_true] at h
      rcases h with h | ⟨_, h⟩
      · exact oper_round (noDefer_at hd ho) hK hQ h
      · exact absurd h hl
    · rename_i hw
      simp only [hw] at h
      exact ⟨fun _ _ => trivial, hK _ _ h⟩
theorem any_round (hd : noDefer ops = true) (hl : ¬ LetsOut Q) (hQ : ∀ e a w, Q e a w → Q' e a w) : ∀ (fuel : Nat) (listed : Array Bool) (a : Act) (w : World),
    wpAny P md ops Q fuel listed a w → wpAnyIn (Fence.wide.inRound l) n P md ops Q' fuel listed a w
  | 0, _, _, _, h => ⟨h.1, hQ _ _ _ h.2⟩
  | fuel + 1, _, _, _, h => ⟨fun h0 => hQ _ _ _ (h.1 h0), fun i hi => op_round hd hl (fun a w h => any_round hd hl hQ fuel _ a w h) hQ (h.2 i hi)⟩
/-- The region, by all its orders as outside of a round. -/
theorem region_round {id : Nat} {a : Act} {w : World} (R : Act → World → Prop) (hm : P.follows .mixedOrders = true) (hd : noDefer ops = true) (hQ : ∀ a w, R a w → Q' .normal a w)
    (h : wpAny P .any ops (fun e a w => e = .normal ∧ R a w) ops.size (Array.replicate ops.size false) a w.drew) : (Code.region id ops true).wpIn (Fence.wide.inRound l) n P Q' a w :=
  wpIn_region_any hm (any_round (Q := fun e a w => e = .normal ∧ R a w) hd (by rintro ⟨_, _, h, _⟩; cases h) (fun e a w ⟨he, hr⟩ => by subst he; exact hQ _ _ hr) _ _ _ _ h)
/-- A region that leaves the world alone, but for draws. -/
theorem quiet_round {id : Nat} {Q : Exit → Act → World → Prop} {a : Act} {w : World} {o : List Oper} (hm : P.follows .mixedOrders = true) (hd : noDefer o.toArray = true) (hB : Region.lexB .any o.toArray = true)
    (h : wpQuiet P o.toArray (fun w' => ∃ n, w' = w.drewN n) (fun a' => ∀ w', (∃ n, w' = w.drewN n) → Q .normal a' w') o a) : (Code.region id o.toArray true).wpIn (Fence.wide.inRound l) n P Q a w := by
  simp only [Region.lexB, Bool.and_eq_true] at hB
  refine region_round (fun a w' => (∃ n, w' = w.drewN n) ∧ ∀ w', (∃ n, w' = w.drewN n) → Q .normal a w') hm hd (fun a w' h => h.2 _ h.1) ?_
  refine wpAny_of_quiet (C := fun w' => ∃ n, w' = w.drewN n) (Q := fun a' => ∀ w', (∃ n, w' = w.drewN n) → Q .normal a' w') (fun a w' hw' h => ⟨rfl, hw', h⟩) _ _ _ _ ⟨1, rfl⟩ ?_
  have := wpAnyQ_lex (C := fun w' => ∃ n, w' = w.drewN n) (md := .any) hB.1 o 0 (Array.replicate o.length false) a (by simp) (by simpa using hB.2) h
  simpa using this
/-- What follows a region's ordinary end. -/
def OnlyN (Q : Exit → Act → World → Prop) : Exit → Act → World → Prop
  | .normal, a, w => Q .normal a w
  | _, _, _ => False
theorem OnlyN.normal {Q : Exit → Act → World → Prop} {a : Act} {w : World} (h : Q .normal a w) : OnlyN Q .normal a w := h
/-- A region whose first operations leave the world alone, the others come in one order. -/
theorem tail_round {id : Nat} {Q : Exit → Act → World → Prop} {a : Act} {w : World} {o : List Oper} (k : Nat) (hm : P.follows .mixedOrders = true) (hd : noDefer o.toArray = true) (hB : Region.lexTailB .any o.toArray k = true)
    (h : wpStill P o.toArray w.drew (fun a' => wpList P o.toArray (OnlyN Q) (o.drop k) a' w.drew) (o.take k) a) : (Code.region id o.toArray true).wpIn (Fence.wide.inRound l) n P Q a w := by
  simp only [Region.lexTailB, Bool.and_eq_true, decide_eq_true_eq] at hB
  obtain ⟨⟨⟨⟨hsel, hn⟩, hs⟩, hc⟩, hlex⟩ := hB
  have hn' : k < o.length := by simpa using hn
  have htl : (o.take k).length = k := by simp; omega
  have hdl : (o.drop k).length = o.toArray.size - k := by simp
  have inv0 : HeadInv .any o.toArray k (Array.replicate o.toArray.size false) :=
    ⟨by simp, fun j oj _ hl => (by rw [getD_replicate_false] at hl; cases hl), fun t _ ht => getD_in (by simpa using ht) (getD_replicate_false _ _)⟩
  have H := wpAnyL_lex (md := .any) (g := o.toArray.size - k) hsel hs hc hn (o.take k) 0 _ a (fun j hj => by
    have hj' : j < k := by rw [htl] at hj; exact hj
    simp [hj']) (by simpa using htl) inv0 (by rw [htl]; exact hlex) h
  have := wpAny_of_head (Q' := OnlyN Q) (g := o.toArray.size - k) (fun listed a' hL => by
    have := wpAny_of_seq (md := .any) (Q' := OnlyN Q) (o.drop k) k listed a' w.drew (fun j => by simp [List.getElem?_drop]) (by rw [hdl]; exact hL.1) hL.2
    rwa [hdl] at this) _ _ _ H
  rw [htl, show k + (o.toArray.size - k) = o.toArray.size by omega] at this
  refine wpIn_region_any hm (any_round (Q := OnlyN Q) hd (by rintro ⟨_, _, h⟩; exact h) (fun e a w h => ?_) _ _ _ _ this)
  cases e <;> first | exact h | exact h.elim
end
end Go.Proofs.YtofkkdjbilklcaaDoor.BR

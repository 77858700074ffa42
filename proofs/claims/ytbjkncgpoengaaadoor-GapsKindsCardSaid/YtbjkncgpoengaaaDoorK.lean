/- Small words of this seat: arguments opened (rows and arrays of whole numbers), as the walks want them. -/
import Derived.ProofKit
import Derived.OpenShut
import Derived.Test.YtbjkncgpoengaaaDoorWSized
import Derived.Test.YtbjkncgpoengaaaDoorWWords
namespace Go.Proofs.YtbjkncgpoengaaaDoor.K
open Go.ChangeShapes Go.WideShapes Go.ChangeAt Go.RowKit Go.Proofs.YtbjkncgpoengaaaDoorW.PrintWords
set_option linter.unusedVariables false

/-- An argument that is an array of whole numbers. -/
theorem open_intarr {H : Type} {enc : TypeId × Value → H} {P : Program} {W : World} {base b0 n : Nat} {sp : Nat → Bool} {held : Bool} {r : Reach} {t e : TypeId} {k : IntKind} {v : Value} {d : DataW H} {p : List MemPlace}
    (ht : P.underlying t = some (.array n e)) (he : P.underlying e = some (.int k)) (hce : P.cellsOf e = 1) (hct : P.cellsOf t = n) (hv : Value.okWide P W r b0 t v) (hd : DataW.Trod enc P W base sp held t v d p) :
    ∃ xs : List Int, v = .agg (xs.map (Value.int k)).toArray ∧ xs.length = n ∧ ∀ x ∈ xs, (Lit.int k x).wf = true := by
  obtain ⟨cs, rfl, hsz, _⟩ : ∃ cs, v = .agg cs ∧ cs.size = P.cellsOf t ∧ Row.okWide P W r b0 t cs := by simpa [Value.okWide, ht] using hv
  obtain ⟨l⟩ := cs
  rw [hct] at hsz
  have hl : l.length = n := by simpa using hsz
  obtain ⟨fuel, hf⟩ := hd
  obtain ⟨xs, m, _, _, _, hxn, hel⟩ := DataW.trod_array ht hf
  have each : ∀ i, i < n → ∃ x, l[i]? = some (.int k x) ∧ (Lit.int k x).wf = true := by
    intro i hi
    have h := hel i hi
    rw [hce] at h
    have hix : i < xs.length := by omega
    rw [List.getElem?_eq_getElem hix] at h
    obtain ⟨x, e0, _, w0⟩ := DataW.trod_int he h
    refine ⟨x, ?_, w0⟩
    have hv : (Value.agg l.toArray).cells.toList = l := by simp [Value.cells]
    rw [hv, Nat.mul_one] at e0
    have : (List.take 1 (List.drop i l))[0]? = l[i]? := by simp [List.getElem?_drop]
    rw [← this, e0]
    rfl
  have build : ∀ (l : List Value), (∀ i, i < l.length → ∃ x, l[i]? = some (.int k x) ∧ (Lit.int k x).wf = true) → ∃ xs : List Int, l = xs.map (Value.int k) ∧ ∀ x ∈ xs, (Lit.int k x).wf = true := by
    intro l
    induction l with
    | nil => intro _; exact ⟨[], rfl, by simp⟩
    | cons c l ih =>
      intro h
      obtain ⟨x, e, wx⟩ := h 0 (by simp)
      obtain ⟨xs, hxs, hw⟩ := ih (fun i hi => by simpa using h (i + 1) (by simpa using hi))
      simp only [List.getElem?_cons_zero, Option.some.injEq] at e
      refine ⟨x :: xs, by rw [hxs, e]; rfl, ?_⟩
      intro y hy
      rcases List.mem_cons.1 hy with rfl | hy
      · exact wx
      · exact hw y hy
  obtain ⟨ys, h1, h2⟩ := build l (by rw [hl]; exact each)
  exact ⟨ys, by rw [h1], by rw [← hl, h1]; simp, h2⟩
theorem open_two {H : Type} {enc : TypeId × Value → H} {P : Program} {W : World} {base b0 : Nat} {sp : Nat → Bool} {held : Bool} {r : Reach} {t e : TypeId} {k : IntKind} {v : Value} {d : DataW H} {p : List MemPlace}
    (ht : P.underlying t = some (.array 2 e)) (he : P.underlying e = some (.int k)) (hce : P.cellsOf e = 1) (hct : P.cellsOf t = 2) (hv : Value.okWide P W r b0 t v) (hd : DataW.Trod enc P W base sp held t v d p) :
    ∃ x y : Int, v = .agg #[.int k x, .int k y] ∧ (Lit.int k x).wf = true ∧ (Lit.int k y).wf = true := by
  obtain ⟨xs, rfl, hl, hw⟩ := open_intarr ht he hce hct hv hd
  match xs, hl with
  | [x, y], _ => exact ⟨x, y, rfl, hw x (by simp), hw y (by simp)⟩
theorem open_three {H : Type} {enc : TypeId × Value → H} {P : Program} {W : World} {base b0 : Nat} {sp : Nat → Bool} {held : Bool} {r : Reach} {t e : TypeId} {k : IntKind} {v : Value} {d : DataW H} {p : List MemPlace}
    (ht : P.underlying t = some (.array 3 e)) (he : P.underlying e = some (.int k)) (hce : P.cellsOf e = 1) (hct : P.cellsOf t = 3) (hv : Value.okWide P W r b0 t v) (hd : DataW.Trod enc P W base sp held t v d p) :
    ∃ x y z : Int, v = .agg #[.int k x, .int k y, .int k z] ∧ (Lit.int k x).wf = true ∧ (Lit.int k y).wf = true ∧ (Lit.int k z).wf = true := by
  obtain ⟨xs, rfl, hl, hw⟩ := open_intarr ht he hce hct hv hd
  match xs, hl with
  | [x, y, z], _ => exact ⟨x, y, z, rfl, hw x (by simp), hw y (by simp), hw z (by simp)⟩

def IsRow (k : IntKind) (w : World) (a : Option Addr) (len cap : Nat) (zs : List Int) : Prop :=
  (a = none ∧ len = 0 ∧ cap = 0 ∧ zs = []) ∨
  ∃ x, a = some x ∧ len ≤ cap ∧ cap ≤ maxLen ∧ zs.length = cap ∧ (∀ i, i < zs.length → w.cell? (x.add i) = some (.int k (zs.getD i 0))) ∧ ∀ n ∈ zs, (Lit.int k n).wf = true
/-- An argument that is a row of whole numbers. -/
theorem open_row {H : Type} {enc : TypeId × Value → H} {P : Program} {W : World} {base b0 : Nat} {held : Bool} {r : Reach} {t e : TypeId} {k : IntKind} {v : Value} {d : DataW H} {p : List MemPlace}
    {ts : List TypeId} {ds : List (DataW H)} {j : Nat} {B : Nat}
    (ht : P.underlying t = some (.slice e)) (he : P.underlying e = some (.int k)) (hce : P.cellsOf e = 1) (hB : P.bytesOf e = B)
    (hsz : (DataW.weightsEach P ts ds).all (· ≤ reachBytes) = true) (hts : ts[j]? = some t) (hds : ds[j]? = some d)
    (hv : Value.okWide P W r b0 t v) (hd : DataW.Trod enc P W base (fun _ => true) held t v d p) :
    ∃ (A : Option Addr) (c : Nat) (l : List Int), v = .slice A l.length c ∧ Kd.C (Kd.int k) W A l.length l ∧ l.length ≤ c ∧ l.length * B ≤ 140737488351232 ∧ ∀ x ∈ l, (Lit.int k x).wf = true := by
  obtain ⟨a0, len0, cap0, rfl⟩ := okWide_slice ht hv
  have y := sized_ints hsz hts hds ht he hce hB hd
  obtain ⟨z0, w0⟩ : ∃ zs, IsRow k W a0 len0 cap0 zs := by
    obtain ⟨fuel, hf⟩ := hd
    rcases open_ints ht he hce hf with ⟨hcs, _⟩ | ⟨x, l, c, zs, hcs, _, hl, hm, hz, _, hcell, hwz⟩
    · simp [Value.cells] at hcs
      obtain ⟨rfl, rfl, rfl⟩ := hcs
      exact ⟨[], .inl ⟨rfl, rfl, rfl, rfl⟩⟩
    · simp [Value.cells] at hcs
      obtain ⟨rfl, rfl, rfl⟩ := hcs
      exact ⟨zs, .inr ⟨_, rfl, hl, hm, by simpa using hz, hcell, hwz⟩⟩
  obtain ⟨l, rfl, h1, h2, h3, h4⟩ := ReadsInt.ofRowC w0
  exact ⟨a0, cap0, l, rfl, Kd.C_of_reads (d := (0 : Int)) (h1 := fun _ => rfl) h1, h4, y, h3⟩
end Go.Proofs.YtbjkncgpoengaaaDoor.K

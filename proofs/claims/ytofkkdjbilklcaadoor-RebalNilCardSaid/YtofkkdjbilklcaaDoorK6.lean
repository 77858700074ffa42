/- Small words of this seat: an argument that is a row of texts, opened. -/
import Derived.Test.YtofkkdjbilklcaaDoorK
import Derived.SliceStrings
namespace Go.Proofs.YtofkkdjbilklcaaDoor.K6
open Go.ChangeShapes Go.WideShapes Go.ChangeAt Go.RowKit Go.Proofs.YtofkkdjbilklcaaDoorW.PrintWords
set_option linter.unusedVariables false
theorem open_texts {H : Type} {enc : TypeId × Value → H} {P : Program} {W : World} {base b0 : Nat} {sp : Nat → Bool} {held : Bool} {r : Reach} {t e : TypeId} {v : Value} {d : DataW H} {p : List MemPlace}
    (ht : P.underlying t = some (.slice e)) (he : P.underlying e = some .string) (hc : P.cellsOf e = 1) (hv : Value.okWide P W r b0 t v) (hd : DataW.Trod enc P W base sp held t v d p) :
    ∃ (A : Option Addr) (c : Nat) (l : List ByteArray), v = .slice A l.length c ∧ Kd.C Kd.string W A l.length l ∧ l.length ≤ c := by
  obtain ⟨a0, len0, cap0, rfl⟩ := okWide_slice ht hv
  obtain ⟨fuel, hf⟩ := hd
  rcases open_strings ht he hc hf with ⟨hcs, _⟩ | ⟨a, len, cap, ss, hcs, _, hl, hm, hz, _, hcell, _⟩
  · simp [Value.cells] at hcs
    obtain ⟨rfl, rfl, rfl⟩ := hcs
    exact ⟨none, 0, [], rfl, Kd.C_nil _ _, Nat.le_refl _⟩
  · simp [Value.cells] at hcs
    obtain ⟨rfl, rfl, rfl⟩ := hcs
    have hsl : len0 ≤ ss.length := by rw [hz]; split <;> omega
    have e1 : (ss.take len0).length = len0 := by rw [List.length_take]; omega
    have hmx : cap0 ≤ 9223372036854775807 := hm
    refine ⟨some a, cap0, ss.take len0, by rw [e1], ?_, by omega⟩
    rw [e1]
    refine Kd.C_of_reads (enc := Value.string) (d := ByteArray.empty) (h1 := fun _ => rfl) ⟨e1, by omega, fun h0 => ⟨a, rfl, fun i hi => ?_⟩⟩
    rw [hcell i (by omega)]
    simp only [List.getD_eq_getElem?_getD, List.getElem?_take, if_pos hi]
end Go.Proofs.YtofkkdjbilklcaaDoor.K6

/- Small words of this seat: an argument that is a struct of a number and a row of numbers, opened. -/
import Derived.Test.YtofkkdjbilklcaaDoorK
import Derived.Lib.SmallJoins
namespace Go.Proofs.YtofkkdjbilklcaaDoor.K5
open Go.ChangeShapes Go.WideShapes Go.ChangeAt Go.RowKit Go.Deep Go.Proofs.YtofkkdjbilklcaaDoorW.PrintWords
set_option linter.unusedVariables false
theorem open_laid_ints {H : Type} {enc : TypeId × Value → H} {P : Program} {W : World} {base b0 : Nat} {held : Bool} {r : Reach} {t ti ts e : TypeId} {g0 g1 : Field} {v : Value} {d : DataW H} {p : List MemPlace}
    (ht : P.underlying t = some (.struct #[g0, g1])) (hone : oneCellFields P #[g0, g1] = true) (hct : P.cellsOf t = 2) (hg : g0.type = ti ∧ g1.type = ts) (hti : P.underlying ti = some (.int .i64)) (hts : P.underlying ts = some (.slice e))
    (he : P.underlying e = some (.int .i64)) (hce : P.cellsOf e = 1)
    (hv : Value.okWide P W r b0 t v) (hd : DataW.Trod enc P W base (fun _ => true) held t v d p) :
    ∃ (n : Int) (A : Option Addr) (c : Nat) (l : List Int), v = .agg #[.int .i64 n, .slice A l.length c] ∧ (Lit.int .i64 n).wf = true ∧ Kd.C (Kd.int .i64) W A l.length l ∧ l.length ≤ c ∧ ∀ x ∈ l, (Lit.int .i64 x).wf = true := by
  obtain ⟨v0, v1, y0, y1, m, rfl, _, _, h0, h1⟩ := Go.Joins.open_agg2 ht hone hct hv hd
  rw [hg.1] at h0
  rw [hg.2] at h1
  obtain ⟨n, e0, _, wn⟩ := DataW.trod_int hti h0
  obtain rfl : v0 = .int .i64 n := by simpa using e0
  obtain ⟨a0, len0, cap0, zs, rfl, w0⟩ : ∃ a0 len0 cap0 zs, v1 = .slice a0 len0 cap0 ∧ K.IsRow .i64 W a0 len0 cap0 zs := by
    rcases open_ints hts he hce h1 with ⟨hcs, _⟩ | ⟨x, l, c, zs, hcs, _, hl, hm, hz, _, hcell, hwz⟩
    · obtain rfl : v1 = .slice none 0 0 := by simpa using hcs
      exact ⟨_, _, _, [], rfl, .inl ⟨rfl, rfl, rfl, rfl⟩⟩
    · obtain rfl : v1 = .slice (some x) l c := by simpa using hcs
      exact ⟨_, _, _, zs, rfl, .inr ⟨_, rfl, hl, hm, by simpa using hz, hcell, hwz⟩⟩
  obtain ⟨l, rfl, h1, h2, h3, h4⟩ := ReadsInt.ofRowC w0
  exact ⟨n, a0, cap0, l, rfl, wn, Kd.C_of_reads (d := (0 : Int)) (h1 := fun _ => rfl) h1, h4, h3⟩
/-- The same, with how long the row can be. -/
theorem open_laid_intsB {H : Type} {enc : TypeId × Value → H} {P : Program} {W : World} {base b0 : Nat} {held : Bool} {r : Reach} {t ti ts e : TypeId} {g0 g1 : Field} {v : Value} {d : DataW H} {p : List MemPlace}
    (ht : P.underlying t = some (.struct #[g0, g1])) (hone : oneCellFields P #[g0, g1] = true) (hct : P.cellsOf t = 2) (hg : g0.type = ti ∧ g1.type = ts) (hti : P.underlying ti = some (.int .i64)) (hts : P.underlying ts = some (.slice e))
    (he : P.underlying e = some (.int .i64)) (hce : P.cellsOf e = 1)
    (hv : Value.okWide P W r b0 t v) (hd : DataW.Trod enc P W base (fun _ => true) held t v d p) :
    ∃ (n : Int) (A : Option Addr) (c : Nat) (l : List Int), v = .agg #[.int .i64 n, .slice A l.length c] ∧ (Lit.int .i64 n).wf = true ∧ Kd.C (Kd.int .i64) W A l.length l ∧ l.length ≤ c ∧ (∀ x ∈ l, (Lit.int .i64 x).wf = true) ∧ l.length ≤ 9223372036854775807 := by
  obtain ⟨v0, v1, y0, y1, m, rfl, _, _, h0, h1⟩ := Go.Joins.open_agg2 ht hone hct hv hd
  rw [hg.1] at h0
  rw [hg.2] at h1
  obtain ⟨n, e0, _, wn⟩ := DataW.trod_int hti h0
  obtain rfl : v0 = .int .i64 n := by simpa using e0
  obtain ⟨a0, len0, cap0, zs, rfl, w0⟩ : ∃ a0 len0 cap0 zs, v1 = .slice a0 len0 cap0 ∧ K.IsRow .i64 W a0 len0 cap0 zs := by
    rcases open_ints hts he hce h1 with ⟨hcs, _⟩ | ⟨x, l, c, zs, hcs, _, hl, hm, hz, _, hcell, hwz⟩
    · obtain rfl : v1 = .slice none 0 0 := by simpa using hcs
      exact ⟨_, _, _, [], rfl, .inl ⟨rfl, rfl, rfl, rfl⟩⟩
    · obtain rfl : v1 = .slice (some x) l c := by simpa using hcs
      exact ⟨_, _, _, zs, rfl, .inr ⟨_, rfl, hl, hm, by simpa using hz, hcell, hwz⟩⟩
  have y : len0 ≤ 9223372036854775807 := by
    rcases w0 with ⟨_, h, _⟩ | ⟨_, _, h1, h2, _⟩
    · omega
    · exact Nat.le_trans h1 h2
  obtain ⟨l, rfl, h1, h2, h3, h4⟩ := ReadsInt.ofRowC w0
  exact ⟨n, a0, cap0, l, rfl, wn, Kd.C_of_reads (d := (0 : Int)) (h1 := fun _ => rfl) h1, h4, h3, y⟩
end Go.Proofs.YtofkkdjbilklcaaDoor.K5

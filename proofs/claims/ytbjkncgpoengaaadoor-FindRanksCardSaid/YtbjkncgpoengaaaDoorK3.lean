/- Small words of this seat: an argument that is a struct of a number and a row of structs of two numbers, opened. -/
import Derived.Test.YtbjkncgpoengaaaDoorK2
import Derived.Test.YtbjkncgpoengaaaDoorF4
import Derived.Lib.SmallJoins
namespace Go.Proofs.YtbjkncgpoengaaaDoor.K3
open Go.ChangeShapes Go.WideShapes Go.ChangeAt Go.RowKit Go.Deep Go.Proofs.YtbjkncgpoengaaaDoorW.PrintWords F4
set_option linter.unusedVariables false

theorem row_of2 {n : Nat} {C : Nat → Nat → Option Value} (h : ∀ i, i < n → ∃ a b : Int, C i 0 = some (.int .i64 a) ∧ C i 1 = some (.int .i64 b)) :
    ∃ l : List Ky, l.length = n ∧ ∀ i, i < n → C i 0 = some (.int .i64 (l.getD i zKy).a) ∧ C i 1 = some (.int .i64 (l.getD i zKy).k) := by
  induction n with
  | zero => exact ⟨[], rfl, fun i hi => by omega⟩
  | succ n ih =>
    obtain ⟨l, hl, hc⟩ := ih (fun i hi => h i (by omega))
    obtain ⟨a, b, h1, h2⟩ := h n (by omega)
    refine ⟨l ++ [⟨a, b⟩], by simp [hl], fun i hi => ?_⟩
    by_cases e : i = n
    · subst e
      rw [List.getD_eq_getElem?_getD, List.getElem?_append_right (by omega), hl, Nat.sub_self]
      exact ⟨h1, h2⟩
    · rw [List.getD_eq_getElem?_getD, List.getElem?_append_left (by omega), ← List.getD_eq_getElem?_getD]
      exact hc i (by omega)
theorem C_keys {w : World} {ad : Addr} {l : List Ky} {n : Nat} (hl : l.length = n) (hn : n ≤ 9223372036854775807) (h : ∀ i, i < n → w.cell? (ad.add (i * 2 + 0)) = some (.int .i64 (l.getD i zKy).a) ∧ w.cell? (ad.add (i * 2 + 1)) = some (.int .i64 (l.getD i zKy).k)) : Kd.C kKey w (some ad) n l := by
  refine ⟨hl, hn, fun _ => ⟨_, rfl, fun j p hp => ⟨[.int .i64 p.a, .int .i64 p.k], rfl, ⟨[_], [_], rfl, rfl, rfl⟩, fun i u hu => ?_⟩⟩⟩
  have hj : j < n := by
    rw [← hl]
    exact (List.getElem?_eq_some_iff.1 hp).1
  obtain ⟨h1, h2⟩ := h j hj
  have e : l.getD j zKy = p := by rw [List.getD_eq_getElem?_getD, hp]; rfl
  rw [e] at h1 h2
  match i, hu with
  | 0, hu => cases hu; exact h1
  | 1, hu => cases hu; exact h2
  | i + 2, hu => simp at hu
theorem open_laid {H : Type} {enc : TypeId × Value → H} {P : Program} {W : World} {base b0 : Nat} {sp : Nat → Bool} {held : Bool} {r : Reach} {t ti ts e : TypeId} {g0 g1 f0 f1 : Field} {v : Value} {d : DataW H} {p : List MemPlace}
    (ht : P.underlying t = some (.struct #[g0, g1])) (hone : oneCellFields P #[g0, g1] = true) (hct : P.cellsOf t = 2) (hg : g0.type = ti ∧ g1.type = ts) (hti : P.underlying ti = some (.int .i64)) (hts : P.underlying ts = some (.slice e))
    (he : P.underlying e = some (.struct #[f0, f1])) (hf : (f0.type = ti ∧ f0.offset = 0) ∧ (f1.type = ti ∧ f1.offset = 1)) (hc0 : P.cellsOf ti = 1) (hce : P.cellsOf e = 2)
    (hv : Value.okWide P W r b0 t v) (hd : DataW.Trod enc P W base sp held t v d p) :
    ∃ (n : Int) (A : Option Addr) (c : Nat) (l : List Ky), v = .agg #[.int .i64 n, .slice A l.length c] ∧ (Lit.int .i64 n).wf = true ∧ Kd.C kKey W A l.length l ∧ l.length ≤ c := by
  obtain ⟨v0, v1, y0, y1, m, rfl, _, _, h0, h1⟩ := Go.Joins.open_agg2 ht hone hct hv hd
  rw [hg.1] at h0
  rw [hg.2] at h1
  obtain ⟨n, e0, _, wn⟩ := DataW.trod_int hti h0
  obtain rfl : v0 = .int .i64 n := by simpa using e0
  rcases DataW.trod_slice hts h1 with ⟨hcs, _⟩ | ⟨x, len, cap, elems, rest, n', _, hcs, hx, _, hl, hm, hlen, hel, _, _⟩
  · obtain rfl : v1 = .slice none 0 0 := by simpa using hcs
    exact ⟨n, none, 0, [], rfl, wn, Kd.C_nil _ _, Nat.le_refl _⟩
  · obtain rfl : v1 = .slice (some x) len cap := by simpa using hcs
    have hmx : cap ≤ 9223372036854775807 := hm
    obtain ⟨l, hll, hcell⟩ := row_of2 (n := len) (C := fun i j => W.cell? (x.add (i * 2 + j))) (fun i hi' => by
      have h1 := hel i hi'
      rw [hce, List.getElem?_eq_getElem (show i < elems.length by omega)] at h1
      obtain ⟨cs, hcs, htr⟩ := Option.bind_eq_some_iff.1 h1
      obtain ⟨xs, n', _, _, _, hxl, hfl⟩ := DataW.trod_struct he htr
      obtain ⟨_, hcl, hat⟩ := World.cells?_some hcs
      have one : ∀ (k : Nat) (f : Field), k < 2 → #[f0, f1][k]? = some f → f.type = ti → f.offset = k → ∃ y : Int, W.cell? (x.add (i * 2 + k)) = some (.int .i64 y) := by
        intro k f hk hfk hft hfo
        have h2 := hfl k f hfk
        have hxk : k < xs.length := by rw [hxl]; exact hk
        rw [hft, hc0, hfo, List.getElem?_eq_getElem hxk] at h2
        obtain ⟨y, e1, _, _⟩ := DataW.trod_int hti h2
        have h3 := hat k hk
        have h4 : cs[k]? = some (.int .i64 y) := by
          have : (List.take 1 (List.drop k cs))[0]? = cs[k]? := by simp [List.getElem?_drop]
          rw [← this, e1]
          rfl
        rw [h4] at h3
        exact ⟨y, by rw [← h3, Go.Deep.add_add]⟩
      obtain ⟨a, ha⟩ := one 0 f0 (by omega) rfl hf.1.1 hf.1.2
      obtain ⟨b, hb⟩ := one 1 f1 (by omega) rfl hf.2.1 hf.2.2
      exact ⟨a, b, ha, hb⟩)
    exact ⟨n, some x, cap, l, by rw [hll], wn, by rw [hll]; exact C_keys hll (by omega) hcell, by omega⟩
end Go.Proofs.YtbjkncgpoengaaaDoor.K3

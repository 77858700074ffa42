/- Small words of this seat: an argument that is a row of structs of three whole numbers, opened. -/
import Derived.Test.YtbjkncgpoengaaaDoorK
import Derived.Test.YtbjkncgpoengaaaDoorG11
import Derived.ChangeArms
import Derived.Deep.Slices
namespace Go.Proofs.YtbjkncgpoengaaaDoor.K2
open Go.ChangeShapes Go.WideShapes Go.ChangeAt Go.RowKit Go.Proofs.YtbjkncgpoengaaaDoorW.PrintWords G10 G11
set_option linter.unusedVariables false

/-- From each place's numbers, a row. -/
theorem row_of {n : Nat} {C : Nat → Nat → Option Value} (h : ∀ i, i < n → ∃ a b c : Int, C i 0 = some (.int .i64 a) ∧ C i 1 = some (.int .i64 b) ∧ C i 2 = some (.int .i64 c)) :
    ∃ l : List Cal, l.length = n ∧ ∀ i, i < n → C i 0 = some (.int .i64 (l.getD i zAct).d) ∧ C i 1 = some (.int .i64 (l.getD i zAct).i) ∧ C i 2 = some (.int .i64 (l.getD i zAct).x) := by
  induction n with
  | zero => exact ⟨[], rfl, fun i hi => by omega⟩
  | succ n ih =>
    obtain ⟨l, hl, hc⟩ := ih (fun i hi => h i (by omega))
    obtain ⟨a, b, c, h1, h2, h3⟩ := h n (by omega)
    refine ⟨l ++ [⟨a, b, c⟩], by simp [hl], fun i hi => ?_⟩
    by_cases e : i = n
    · subst e
      rw [List.getD_eq_getElem?_getD, List.getElem?_append_right (by omega), hl, Nat.sub_self]
      exact ⟨h1, h2, h3⟩
    · rw [List.getD_eq_getElem?_getD, List.getElem?_append_left (by omega), ← List.getD_eq_getElem?_getD]
      exact hc i (by omega)
theorem C_acts {w : World} {ad : Addr} {l : List Cal} {n : Nat} (hl : l.length = n) (hn : n ≤ 9223372036854775807) (h : ∀ i, i < n → w.cell? (ad.add (i * 3 + 0)) = some (.int .i64 (l.getD i zAct).d) ∧ w.cell? (ad.add (i * 3 + 1)) = some (.int .i64 (l.getD i zAct).i) ∧ w.cell? (ad.add (i * 3 + 2)) = some (.int .i64 (l.getD i zAct).x)) : Kd.C kAct w (some ad) n l := by
  refine ⟨hl, hn, fun _ => ⟨_, rfl, fun j p hp => ⟨[.int .i64 p.d, .int .i64 p.i, .int .i64 p.x], rfl, ⟨[_], [_, _], rfl, rfl, [_], [_], rfl, rfl, rfl⟩, fun i u hu => ?_⟩⟩⟩
  have hj : j < n := by
    rw [← hl]
    exact (List.getElem?_eq_some_iff.1 hp).1
  obtain ⟨h1, h2, h3⟩ := h j hj
  have e : l.getD j zAct = p := by rw [List.getD_eq_getElem?_getD, hp]; rfl
  rw [e] at h1 h2 h3
  match i, hu with
  | 0, hu => cases hu; exact h1
  | 1, hu => cases hu; exact h2
  | 2, hu => cases hu; exact h3
  | i + 3, hu => simp at hu
theorem open_acts {H : Type} {enc : TypeId × Value → H} {P : Program} {W : World} {base b0 : Nat} {held : Bool} {r : Reach} {t e e0 : TypeId} {f0 f1 f2 : Field} {v : Value} {d : DataW H} {p : List MemPlace}
    {ts : List TypeId} {ds : List (DataW H)} {j : Nat}
    (ht : P.underlying t = some (.slice e)) (he : P.underlying e = some (.struct #[f0, f1, f2])) (hf : (f0.type = e0 ∧ f0.offset = 0) ∧ (f1.type = e0 ∧ f1.offset = 1) ∧ (f2.type = e0 ∧ f2.offset = 2)) (hi : P.underlying e0 = some (.int .i64)) (hc0 : P.cellsOf e0 = 1) (hce : P.cellsOf e = 3) (hB : P.bytesOf e = 24)
    (hsz : (DataW.weightsEach P ts ds).all (· ≤ reachBytes) = true) (hts : ts[j]? = some t) (hds : ds[j]? = some d)
    (hv : Value.okWide P W r b0 t v) (hd : DataW.Trod enc P W base (fun _ => true) held t v d p) :
    ∃ (A : Option Addr) (c : Nat) (l : List Cal), v = .slice A l.length c ∧ Kd.C kAct W A l.length l ∧ l.length ≤ c ∧ l.length * 24 ≤ 140737488351232 := by
  obtain ⟨a0, len0, cap0, rfl⟩ := okWide_slice ht hv
  obtain ⟨fuel, hf0⟩ := hd
  rcases DataW.trod_slice ht hf0 with ⟨hcs, _⟩ | ⟨x, len, cap, elems, rest, n, _, hcs, hx, _, hl, hm, hlen, hel, _, _⟩
  · simp [Value.cells] at hcs
    obtain ⟨rfl, rfl, rfl⟩ := hcs
    exact ⟨none, 0, [], rfl, Kd.C_nil _ _, Nat.le_refl _, by simp⟩
  · simp [Value.cells] at hcs
    obtain ⟨rfl, rfl, rfl⟩ := hcs
    obtain ⟨hx, _⟩ := Prod.mk.inj hx
    subst hx
    have z := sized_slice hsz hts hds ht
    rw [hB] at z
    have hmx : cap0 ≤ 9223372036854775807 := hm
    obtain ⟨l, hll, hcell⟩ := row_of (n := len0) (C := fun i j => W.cell? (x.add (i * 3 + j))) (fun i hi' => by
      have h1 := hel i hi'
      rw [hce, List.getElem?_eq_getElem (show i < elems.length by omega)] at h1
      obtain ⟨cs, hcs, htr⟩ := Option.bind_eq_some_iff.1 h1
      obtain ⟨xs, n', _, _, _, hxl, hfl⟩ := DataW.trod_struct he htr
      obtain ⟨_, hcl, hat⟩ := World.cells?_some hcs
      have one : ∀ (k : Nat) (f : Field), k < 3 → #[f0, f1, f2][k]? = some f → f.type = e0 → f.offset = k → ∃ y : Int, W.cell? (x.add (i * 3 + k)) = some (.int .i64 y) := by
        intro k f hk hfk hft hfo
        have h2 := hfl k f hfk
        have hxk : k < xs.length := by rw [hxl]; exact hk
        rw [hft, hc0, hfo, List.getElem?_eq_getElem hxk] at h2
        obtain ⟨y, e1, _, _⟩ := DataW.trod_int hi h2
        have h3 := hat k hk
        have h4 : cs[k]? = some (.int .i64 y) := by
          have : (List.take 1 (List.drop k cs))[0]? = cs[k]? := by simp [List.getElem?_drop]
          rw [← this, e1]
          rfl
        rw [h4] at h3
        exact ⟨y, by rw [← h3, Go.Deep.add_add]⟩
      obtain ⟨a, ha⟩ := one 0 f0 (by omega) rfl hf.1.1 hf.1.2
      obtain ⟨b, hb⟩ := one 1 f1 (by omega) rfl hf.2.1.1 hf.2.1.2
      obtain ⟨c, hc⟩ := one 2 f2 (by omega) rfl hf.2.2.1 hf.2.2.2
      exact ⟨a, b, c, ha, hb, hc⟩)
    refine ⟨some x, cap0, l, by rw [hll], by rw [hll]; exact C_acts hll (by omega) hcell, by omega, ?_⟩
    rw [hll]
    simp only [List.length_map] at z
    have hrb : reachBytes = 140737488351232 := rfl
    rw [hrb] at z
    omega
end Go.Proofs.YtbjkncgpoengaaaDoor.K2

/- Small words of this seat: an argument that is a row of structs of a whole number and a bool, opened; one that is a struct of four whole numbers. -/
import Derived.Test.YtlaegahdignphaaDoorK
import Derived.Test.YtlaegahdignphaaDoorSE
import Derived.ChangeArms
import Derived.Deep.Slices
import Derived.Lib.SmallJoins
namespace Go.Proofs.YtlaegahdignphaaDoor.K4
open Go.ChangeShapes Go.WideShapes Go.ChangeAt Go.RowKit Go.Proofs.YtlaegahdignphaaDoorW.PrintWords
set_option linter.unusedVariables false
set_option linter.unusedSimpArgs false

/-- A touch. -/
structure Tch where
  s : Int
  g : Bool
def zTch : Tch := ⟨0, false⟩
def kTch : Kd Tch := Kd.iso (Kd.pair (Kd.int .i64) Kd.bool) (fun x : Tch => (x.s, x.g))
theorem kTch_open {w : World} {x : Tch} {cs : List Value} (h : kTch.K w x cs) : cs = [.int .i64 x.s, .bool x.g] := by
  obtain ⟨_, _, rfl, rfl, rfl⟩ := h
  exact rfl
theorem at_tch {w : World} {A : Option Addr} {n : Nat} {l : List Tch} (h : Kd.C kTch w A n l) (i : Nat) (h1 : i < n) : ∃ ad, A = some ad ∧ w.cell? (ad.add (i * 2)) = some (.int .i64 (l.getD i zTch).s) ∧ w.cell? ⟨(ad.add (i * 2)).block, (ad.add (i * 2)).off + 1, none⟩ = some (.bool (l.getD i zTch).g) := by
  obtain ⟨ad, c, e, _, hK, hc0⟩ := Kd.C_get h zTch (i : Int) (by omega) (by omega)
  have hc : ∀ j u, c[j]? = some u → w.cell? (ad.add (i * 2 + j)) = some u := hc0
  obtain rfl := kTch_open hK
  exact ⟨ad, e, hc 0 _ rfl, by rw [← add_field _ _ 1 (by omega)]; exact hc 1 _ rfl⟩
theorem row_of {n : Nat} {C : Nat → Nat → Option Value} (h : ∀ i, i < n → ∃ (a : Int) (b : Bool), C i 0 = some (.int .i64 a) ∧ C i 1 = some (.bool b)) :
    ∃ l : List Tch, l.length = n ∧ ∀ i, i < n → C i 0 = some (.int .i64 (l.getD i zTch).s) ∧ C i 1 = some (.bool (l.getD i zTch).g) := by
  induction n with
  | zero => exact ⟨[], rfl, fun i hi => by omega⟩
  | succ n ih =>
    obtain ⟨l, hl, hc⟩ := ih (fun i hi => h i (by omega))
    obtain ⟨a, b, h1, h2⟩ := h n (by omega)
    refine ⟨l ++ [⟨a, b⟩], by simp [hl], fun i hi => ?_⟩
    by_cases e : i = n
    · subst e
      rw [List.getD_eq_getElem?_getD, List.getElem?_append_right (by omega), hl, Nat.sub_self]
      exact ⟨h1, h2⟩
    · rw [List.getD_eq_getElem?_getD, List.getElem?_append_left (by omega), ← List.getD_eq_getElem?_getD]
      exact hc i (by omega)
theorem C_tchs {w : World} {ad : Addr} {l : List Tch} {n : Nat} (hl : l.length = n) (hn : n ≤ 9223372036854775807) (h : ∀ i, i < n → w.cell? (ad.add (i * 2 + 0)) = some (.int .i64 (l.getD i zTch).s) ∧ w.cell? (ad.add (i * 2 + 1)) = some (.bool (l.getD i zTch).g)) : Kd.C kTch w (some ad) n l := by
  refine ⟨hl, hn, fun _ => ⟨_, rfl, fun j p hp => ⟨[.int .i64 p.s, .bool p.g], rfl, ⟨[_], [_], rfl, rfl, rfl⟩, fun i u hu => ?_⟩⟩⟩
  have hj : j < n := by
    rw [← hl]
    exact (List.getElem?_eq_some_iff.1 hp).1
  obtain ⟨h1, h2⟩ := h j hj
  have e : l.getD j zTch = p := by rw [List.getD_eq_getElem?_getD, hp]; rfl
  rw [e] at h1 h2
  match i, hu with
  | 0, hu => cases hu; exact h1
  | 1, hu => cases hu; exact h2
  | i + 2, hu => simp at hu
theorem open_tchs {H : Type} {enc : TypeId × Value → H} {P : Program} {W : World} {base b0 : Nat} {held : Bool} {r : Reach} {t e e0 e1 : TypeId} {f0 f1 : Field} {v : Value} {d : DataW H} {p : List MemPlace}
    {ts : List TypeId} {ds : List (DataW H)} {j : Nat}
    (ht : P.underlying t = some (.slice e)) (he : P.underlying e = some (.struct #[f0, f1])) (hf : (f0.type = e0 ∧ f0.offset = 0) ∧ (f1.type = e1 ∧ f1.offset = 1)) (hi : P.underlying e0 = some (.int .i64)) (hb : P.underlying e1 = some .bool) (hc0 : P.cellsOf e0 = 1) (hc1 : P.cellsOf e1 = 1) (hce : P.cellsOf e = 2)
    (hsz : (DataW.weightsEach P ts ds).all (· ≤ reachBytes) = true) (hts : ts[j]? = some t) (hds : ds[j]? = some d)
    (hv : Value.okWide P W r b0 t v) (hd : DataW.Trod enc P W base (fun _ => true) held t v d p) :
    ∃ (A : Option Addr) (c : Nat) (l : List Tch), v = .slice A l.length c ∧ Kd.C kTch W A l.length l ∧ l.length ≤ c := by
  obtain ⟨a0, len0, cap0, rfl⟩ := okWide_slice ht hv
  obtain ⟨fuel, hf0⟩ := hd
  rcases DataW.trod_slice ht hf0 with ⟨hcs, _⟩ | ⟨x, len, cap, elems, rest, n, _, hcs, hx, _, hl, hm, hlen, hel, _, _⟩
  · simp [Value.cells] at hcs
    obtain ⟨rfl, rfl, rfl⟩ := hcs
    exact ⟨none, 0, [], rfl, Kd.C_nil _ _, Nat.le_refl _⟩
  · simp [Value.cells] at hcs
    obtain ⟨rfl, rfl, rfl⟩ := hcs
    obtain ⟨hx, _⟩ := Prod.mk.inj hx
    subst hx
    have hmx : cap0 ≤ 9223372036854775807 := hm
    obtain ⟨l, hll, hcell⟩ := row_of (n := len0) (C := fun i j => W.cell? (x.add (i * 2 + j))) (fun i hi' => by
      have h1 := hel i hi'
      rw [hce, List.getElem?_eq_getElem (show i < elems.length by omega)] at h1
      obtain ⟨cs, hcs, htr⟩ := Option.bind_eq_some_iff.1 h1
      obtain ⟨xs, n', _, _, _, hxl, hfl⟩ := DataW.trod_struct he htr
      obtain ⟨_, hcl, hat⟩ := World.cells?_some hcs
      have g0 : ∃ y : Int, W.cell? (x.add (i * 2 + 0)) = some (.int .i64 y) := by
        have h2 := hfl 0 f0 rfl
        have hxk : 0 < xs.length := by rw [hxl]; show 0 < 2; omega
        rw [hf.1.1, hc0, hf.1.2, List.getElem?_eq_getElem hxk] at h2
        obtain ⟨y, e1, _, _⟩ := DataW.trod_int hi h2
        have h3 := hat 0 (by omega)
        have h4 : cs[0]? = some (.int .i64 y) := by
          have : (List.take 1 (List.drop 0 cs))[0]? = cs[0]? := by simp [List.getElem?_drop]
          rw [← this, e1]
          rfl
        rw [h4] at h3
        exact ⟨y, by rw [← h3, Go.Deep.add_add]⟩
      have g1 : ∃ y : Bool, W.cell? (x.add (i * 2 + 1)) = some (.bool y) := by
        have h2 := hfl 1 f1 rfl
        have hxk : 1 < xs.length := by rw [hxl]; show 1 < 2; omega
        rw [hf.2.1, hc1, hf.2.2, List.getElem?_eq_getElem hxk] at h2
        obtain ⟨y, e1, _⟩ := DataW.trod_bool hb h2
        have h3 := hat 1 (by omega)
        have h4 : cs[1]? = some (.bool y) := by
          have : (List.take 1 (List.drop 1 cs))[0]? = cs[1]? := by simp [List.getElem?_drop]
          rw [← this, e1]
          rfl
        rw [h4] at h3
        exact ⟨y, by rw [← h3, Go.Deep.add_add]⟩
      obtain ⟨a, ha⟩ := g0
      obtain ⟨b, hb⟩ := g1
      exact ⟨a, b, ha, hb⟩)
    exact ⟨some x, cap0, l, by rw [hll], by rw [hll]; exact C_tchs hll (by omega) hcell, by omega⟩
/-- An argument that is a struct of four whole numbers. -/
theorem open_four {H : Type} {enc : TypeId × Value → H} {P : Program} {W : World} {base b0 : Nat} {sp : Nat → Bool} {held : Bool} {r : Reach} {t e : TypeId} {f0 f1 f2 f3 : Field} {v : Value} {d : DataW H} {p : List MemPlace}
    (ht : P.underlying t = some (.struct #[f0, f1, f2, f3])) (hf : f0.type = e ∧ f1.type = e ∧ f2.type = e ∧ f3.type = e) (hi : P.underlying e = some (.int .i64)) (hone : Go.Deep.oneCellFields P #[f0, f1, f2, f3] = true) (hC : P.cellsOf t = 4)
    (hv : Value.okWide P W r b0 t v) (hd : DataW.Trod enc P W base sp held t v d p) : ∃ a b c x : Int, v = .agg #[.int .i64 a, .int .i64 b, .int .i64 c, .int .i64 x] := by
  obtain ⟨v0, v1, v2, v3, y0, y1, y2, y3, n, rfl, _, _, h0, h1, h2, h3⟩ := Go.Joins.open_agg4 ht hone hC hv hd
  rw [hf.1] at h0
  rw [hf.2.1] at h1
  rw [hf.2.2.1] at h2
  rw [hf.2.2.2] at h3
  obtain ⟨a, e0, _, _⟩ := DataW.trod_int hi h0
  obtain ⟨b, e1, _, _⟩ := DataW.trod_int hi h1
  obtain ⟨c, e2, _, _⟩ := DataW.trod_int hi h2
  obtain ⟨x, e3, _, _⟩ := DataW.trod_int hi h3
  simp only [List.cons.injEq, and_true] at e0 e1 e2 e3
  subst e0 e1 e2 e3
  exact ⟨a, b, c, x, rfl⟩
end Go.Proofs.YtlaegahdignphaaDoor.K4

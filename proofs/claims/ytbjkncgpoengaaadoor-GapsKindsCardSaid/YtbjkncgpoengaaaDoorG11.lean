/- The law's helper made: an array behind calls. -/
import Derived.Test.YtbjkncgpoengaaaDoorG10
namespace Go.Proofs.YtbjkncgpoengaaaDoor.G11
open Go.RowKit Go.Proofs.YtbjkncgpoengaaaDoorW.PrintWords Go.Proofs.YtbjkncgpoengaaaDoorW.PrintLast Go.Proofs.YtbjkncgpoengaaaDoorW.PrintMore G1 G0 Q1 G2 G3 G4 G5 G6 G7 G8 G9 G10
set_option linter.unusedVariables false
set_option linter.unusedSimpArgs false

def kAct : Kd Cal := Kd.iso (Kd.pair (Kd.int .i64) (Kd.pair (Kd.int .i64) (Kd.int .i64))) (fun x : Cal => (x.d, x.i, x.x))
theorem kAct_open {w : World} {x : Cal} {cs : List Value} (h : kAct.K w x cs) : cs = [.int .i64 x.d, .int .i64 x.i, .int .i64 x.x] := by
  obtain ⟨_, _, rfl, rfl, _, _, rfl, rfl, rfl⟩ := h
  exact rfl
def zAct : Cal := ⟨0, 0, 0⟩
theorem at_act {w : World} {A : Option Addr} {n : Nat} {l : List Cal} (h : Kd.C kAct w A n l) (i : Nat) (h1 : i < n) : ∃ ad, A = some ad ∧ w.cell? (ad.add (i * 3)) = some (.int .i64 (l.getD i zAct).d) ∧ w.cell? ⟨(ad.add (i * 3)).block, (ad.add (i * 3)).off + 1, none⟩ = some (.int .i64 (l.getD i zAct).i) ∧ w.cell? ⟨(ad.add (i * 3)).block, (ad.add (i * 3)).off + 2, none⟩ = some (.int .i64 (l.getD i zAct).x) := by
  obtain ⟨ad, c, e, _, hK, hc0⟩ := Kd.C_get h zAct (i : Int) (by omega) (by omega)
  have hc : ∀ j u, c[j]? = some u → w.cell? (ad.add (i * 3 + j)) = some u := hc0
  obtain rfl := kAct_open hK
  exact ⟨ad, e, hc 0 _ rfl, by rw [← add_field _ _ 1 (by omega)]; exact hc 1 _ rfl, by rw [← add_field _ _ 2 (by omega)]; exact hc 2 _ rfl⟩
/-- Behind calls. -/
def runL (n : Nat) (l : List Cal) : Gap := l.foldl (actS n) ⟨fun _ => false, List.replicate n 0⟩
theorem runL_snoc (n : Nat) (l : List Cal) (i : Nat) (hi : i < l.length) : runL n (l.take (i + 1)) = actS n (runL n (l.take i)) (l.getD i zAct) := by
  unfold runL
  rw [List.take_succ_eq_append_getElem hi, List.foldl_append]
  simp [List.getD_eq_getElem?_getD, hi]
theorem made_no {n : Int} (hn : n < 1 ∨ 65536 < n) (A : Option Addr) (c m : Nat) (w : World) : Calls Tryd.prog 14 #[.int .i64 n, .slice A m c] w fun e w' => e = .returned (.pointer none) ∧ w = w' := by
  have H := Aside0.mk (gnew_no n w hn)
  clear hn
  go_enter Tryd.func14, Tryd.ntmps14
  go_wp2_with fail
  refine H.out.mono ?_
  rintro e w1 ⟨rfl, rfl⟩
  go_wp2
  go_ret
  exact ⟨rfl, rfl⟩
/-- A new array, whose blocks are new. -/
def Fresh (w0 w : World) (p sb ob wb n : Nat) (s : Gap) : Prop := (w0.heap.size ≤ p ∧ w0.heap.size ≤ sb ∧ w0.heap.size ≤ ob ∧ w0.heap.size ≤ wb) ∧ Is w p sb ob wb n s
set_option maxHeartbeats 400000 in
theorem made_yes {n : Nat} (h1 : 1 ≤ n) (h2 : n ≤ 65536) {A : Option Addr} {c : Nat} {l : List Cal} {w : World} (hr : Kd.C kAct w A l.length l) (hl : l.length ≤ 1000000) : Calls Tryd.prog 14 #[.int .i64 n, .slice A l.length c] w fun e w' => ∃ p sb ob wb, e = .returned (.pointer (some ⟨p, 0, none⟩)) ∧ Fresh w w' p sb ob wb n (runL n l) ∧ Below w.heap.size w w' := by
  have HR := Aside0.mk hr
  have H := Aside0.mk (gnew_yes n w h1 h2)
  clear hr
  go_enter Tryd.func14, Tryd.ntmps14
  go_wp2_with fail
  refine H.out.mono ?_
  rintro e w1 ⟨p, sb, ob, wb, rfl, hb4, hS, hB⟩
  have H4 := Aside0.mk hb4
  have HS : Aside0 (Is w1 p sb ob wb n (runL n (l.take 0))) := ⟨⟨_, hS⟩⟩
  have HB := Aside0.mk hB
  clear hb4 hS hB H
  go_wp2
  go_loopg [7] l.length (fun kq v7 w' => ∃ i : Nat, v7 = .int .i64 i ∧ i ≤ l.length ∧ Aside0 (l.length - i ≤ kq) ∧ Aside0 (Is w' p sb ob wb n (runL n (l.take i))) ∧ Aside0 (Below w.heap.size w w'))
  case atStart => exact ⟨0, rfl, by omega, ⟨by omega⟩, HS, HB⟩
  case round =>
    clear HS HB
    obtain ⟨i, rfl, hi, HQ, HS, HB⟩ := hrel
    by_cases hlt : i < l.length
    · obtain ⟨ad, e, d0, d1, d2⟩ := at_act (Kd.C_below HR.out HB.out) i hlt
      cases e
      have D := Aside0.mk (does_any HS.out (l.getD i zAct))
      have HN := Aside0.mk (runL_snoc n l i hlt)
      generalize l.getD i zAct = a at *
      generalize runL n (l.take i) = st at *
      obtain ⟨gk, rfl⟩ : ∃ m, gk = m + 1 := ⟨gk - 1, by have := HQ.out; omega⟩
      go_wp2_with fail
      refine D.out.mono ?_
      rintro e w2 ⟨rfl, h3, h4⟩
      have H3 := Aside0.mk (And.intro h3 h4)
      clear h3 h4
      go_wp2
      go_roundg gk
      case measure => omega
      case rel => exact ⟨i + 1, by go_num, by omega, ⟨by have := HQ.out; omega⟩, ⟨by rw [HN.out]; exact H3.out.1⟩, ⟨H3.out.2.below HB.out HB.out.size (fun k hk => by rcases hk with rfl | rfl; exact H4.out.2.1; exact H4.out.2.2.2)⟩⟩
    · have e : i = l.length := by omega
      subst e
      go_wp2
      go_ret
      refine ⟨p, sb, ob, wb, rfl, ⟨H4.out, ?_⟩, HB.out⟩
      have := HS.out
      rw [List.take_length] at this
      exact this
end Go.Proofs.YtbjkncgpoengaaaDoor.G11

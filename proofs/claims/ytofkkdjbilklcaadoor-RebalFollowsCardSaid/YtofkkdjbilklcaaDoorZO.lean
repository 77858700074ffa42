/- The document's Open (punnetref07): walked. -/
import Derived.Test.YtofkkdjbilklcaaDoorZN
import Derived.OwnWalk
namespace Go.Proofs.YtofkkdjbilklcaaDoor.ZO
open Go.RowKit Go.Shelf Go.Proofs.YtofkkdjbilklcaaDoorW.PrintWords Go.Proofs.YtofkkdjbilklcaaDoorW.PrintLast Go.Proofs.YtofkkdjbilklcaaDoorW.PrintMore G1 G0 Q1 G2 G3 G4 G5 G6 G7 G8 G9 G10 S1 Y1 Y3 Y2 Z0 Z1 Z2 Z3 Z4 ZR ZM ZP ZN
set_option linter.unusedVariables false
set_option linter.unusedSimpArgs false
theorem downM (f : Nat → Bool) {b x : Nat} (hb : b ≤ x) : ∃ M, b ≤ M ∧ M ≤ x ∧ (∀ k, M ≤ k → k < x → f k = true) ∧ (b < M → f (M - 1) = false) := by
  cases h : downF f b (x - b) with
  | none => exact ⟨b, Nat.le_refl _, hb, fun k h1 h2 => downF_none h k h1 (by omega), fun h => by omega⟩
  | some i =>
    obtain ⟨h1, h2, h3, h4⟩ := downF_some h
    exact ⟨i + 1, by omega, by omega, fun k k1 k2 => h4 k (by omega) (by omega), fun _ => h3⟩
section
variable {w0 w : World} {r lb n : Nat} {g : Gap} {L : List Ob}
set_option maxRecDepth 100000 in
set_option maxHeartbeats 4000000 in
theorem ropen_right_first (hS : Sep w0 w (RefO r lb n g :: L)) (hl : g.xs.length = n) {sg : Nat} (hw : winB n (sg : Int) 1 = true) {R : Nat} (hu : upF g.on (8 * sg) 8 = some R) :
    Calls Tryd.prog 21 #[.pointer (some ⟨r, 0, none⟩), .int .i64 (sg : Int), .int .i64 (-1)] w fun e w' => ∃ v, e = .returned (.tuple #[.int .i64 (openR n sg (-1) g).k, v, .int .i64 (openR n sg (-1) g).e]) ∧ Sep w0 w' (RefO r lb n (openR n sg (-1) g).r.g :: OwnM v (openR n sg (-1) g).r.ms :: L) := by
  obtain ⟨b, hb⟩ : ∃ b, 8 * sg = b := ⟨_, rfl⟩
  have hw2 := of_decide_eq_true hw
  have hbn : b + 8 ≤ n := by omega
  have hb4 : b ≤ 4096 := by omega
  have eb : 8 * (sg : Int) = (b : Int) := by omega
  have HS : Aside0 (Sep w0 w (RefO r lb n g :: OwnM (.slice none 0 0) [] :: L)) := ⟨by
    have h := hS.push (Below.refl _ w) (OwnM (.slice none 0 0) []) (World.ownsRow_nil _ _ _ _) (fun k hk => by simp [OwnM, Value.ownBlock] at hk)
    exact h.perm (List.Perm.cons _ List.perm_append_comm)⟩
  have HE : Aside0 (openR n sg (-1) g = ⟨(b : Int), 0, shiftR n R ⟨g, []⟩ (R - b)⟩) := ⟨by
    unfold openR nextN openN
    rw [if_neg (by omega), if_neg (by omega), if_pos rfl, show 8 * sg + 8 - 8 * sg = 8 by omega, hu, hb]⟩
  rw [hb] at hu
  obtain ⟨h1, h2, h3, h4⟩ := upF_some hu
  have HRt := Aside0.mk (And.intro h1 (And.intro (show R ≤ b + 8 by omega) h4))
  have HOff := Aside0.mk (And.intro h3 h2)
  obtain ⟨M, m1, m2, m3, m4⟩ := downM g.on (Nat.le_refl b)
  have HMt := Aside0.mk (And.intro m1 (And.intro m2 m3))
  have HMo := Aside0.mk m4
  have HX : Aside0 (b ≤ b + 8) := ⟨by omega⟩
  clear hS hw hw2 hb hu h1 h2 h3 h4 m1 m2 m3 m4 hl
  go_enter Tryd.func21, Tryd.ntmps21
  go_wp2
  go_loopg [11] (R + 1) (fun kq v11 W => ∃ i : Nat, v11 = .int .i64 (i : Int) ∧ i ≤ R ∧ Aside0 (b ≤ i ∧ R + 1 - i ≤ kq) ∧ w = W)
  case atStart => exact ⟨b, rfl, HRt.out.1, ⟨⟨Nat.le_refl _, by omega⟩⟩, rfl⟩
  case round =>
    obtain ⟨i, rfl, hi, HQ, rfl⟩ := hrel
    have href : RefAt w r lb n g := HS.out.get 0 rfl
    have c0 := href.c0
    have hn6 := href.high
    have hR2 := HRt.out.2.1
    by_cases hlt : i < R
    · obtain ⟨s0, s1⟩ := href.cells (show i < n by omega)
      rw [HRt.out.2.2 i HQ.out.1 hlt] at s0
      have e3 : (i : Int) < (b : Int) + 8 := by omega
      have e4 : i < n := by omega
      have HC := Aside0.mk hlt
      clear href s1 hlt
      go_wp2
      go_roundg (R - i)
      case measure => have := HQ.out.2; have := HC.out; omega
      case rel => exact ⟨i + 1, by go_num, by have := HC.out; omega, ⟨by have := HQ.out; have := HC.out; omega⟩, rfl⟩
    · obtain rfl : i = R := by omega
      clear hlt
      have hoff := HOff.out
      obtain ⟨s0, s1⟩ := href.cells (show i < n by omega)
      rw [hoff.1] at s0
      have e5 : (i : Int) < (b : Int) + 8 := by omega
      have HI := Aside0.mk (And.intro hi hR2)
      clear href s1 hoff hi hR2 HQ
      go_wp2
      clear s0 c0 hn6
      go_loopg [12] (b + 1) (fun kq v12 W => ∃ y : Int, v12 = .int .i64 y ∧ Aside0 (∃ m : Nat, y = (m : Int) - 1 ∧ M ≤ m ∧ m ≤ b ∧ m + 1 ≤ kq) ∧ w = W)
      case atStart => exact ⟨_, rfl, ⟨b, rfl, HMt.out.2.1, Nat.le_refl _, Nat.le_refl _⟩, rfl⟩
      case round =>
        obtain ⟨y, rfl, HY, rfl⟩ := hrel
        have href : RefAt w r lb n g := HS.out.get 0 rfl
        have c0 := href.c0
        have hn6 := href.high
        obtain ⟨m, hy, hm1, hm2, hm3⟩ := HY.out
        have hx2 := HX.out
        have hM1 := HMt.out.1
        by_cases hlt : M < m
        · obtain ⟨j, hj⟩ : ∃ j, m - 1 = j := ⟨_, rfl⟩
          obtain rfl : y = (j : Int) := by omega
          obtain ⟨s0, s1⟩ := href.cells (show j < n by omega)
          rw [HMt.out.2.2 j (by omega) (by omega)] at s0
          have e3 : (b : Int) ≤ (j : Int) := by omega
          have e4 : j < n := by omega
          obtain rfl : m = j + 1 := by omega
          have HC := Aside0.mk (And.intro (show M ≤ j by omega) (And.intro hm2 hm3))
          clear href s1 hlt hy hm1 hm2 hm3 hj HY hx2 hM1
          go_wp2
          go_roundg (j + 1)
          case measure => have := HC.out; omega
          case rel => exact ⟨_, rfl, ⟨j, rfl, by have := HC.out; omega, by have := HC.out; omega, by have := HC.out; omega⟩, rfl⟩
        · obtain rfl : m = M := by omega
          clear hlt HY hm3
          by_cases hbm : b < m
          · obtain ⟨j, hj⟩ : ∃ j, m - 1 = j := ⟨_, rfl⟩
            obtain rfl : y = (j : Int) := by omega
            obtain ⟨s0, s1⟩ := href.cells (show j < n by omega)
            have h := HMo.out hbm
            rw [hj] at h
            rw [h] at s0
            have e3 : (b : Int) ≤ (j : Int) := by omega
            have e4 : j < n := by omega
            clear href s1 hbm hy hm1 hm2 hj hx2 hM1 h
            go_wp2
            clear s0 c0 hn6 e3 e4
            go_loopg [13, 14] (i + 1) (fun kq v13 v14 W => ∃ y : Int, v14 = .int .i64 y ∧ Aside0 (∃ d : Nat, y = (i : Int) - 1 - (d : Int) ∧ b + d ≤ i ∧ i + 1 - d ≤ kq ∧ Sep w0 W (RefO r lb n (shiftR n i ⟨g, []⟩ d).g :: OwnM v13 (shiftR n i ⟨g, []⟩ d).ms :: L)))
            case atStart => exact ⟨_, rfl, ⟨0, by omega, HRt.out.1, by omega, HS.out⟩⟩
            case round =>
              clear HS
              obtain ⟨y, rfl, HY⟩ := hrel
              obtain ⟨d, hy, hd, hq, hs⟩ := HY.out
              have HS := Aside0.mk hs
              have few := shiftR_few (n := n) (i := i) (g := g) d
              have HFEW : Aside0 ((shiftR n i ⟨g, []⟩ d).ms.length ≤ 10000) := ⟨by have := HRt.out.2.1; omega⟩
              have href : RefAt wr r lb n (shiftR n i ⟨g, []⟩ d).g := HS.out.get 0 rfl
              obtain ⟨A7, c7, e7⟩ := ownM_shape (HS.out.get 1 rfl)
              by_cases hlt : b + d < i
              · obtain ⟨j, hj⟩ : ∃ j, i - d - 1 = j := ⟨_, rfl⟩
                obtain ⟨t, ht⟩ : ∃ t, i - d = t := ⟨_, rfl⟩
                obtain rfl : y = (j : Int) := by omega
                have et : (j : Int) + 1 = (t : Int) := by omega
                have e3 : (b : Int) ≤ (j : Int) := by omega
                have e4 : j < n := by have := HRt.out.2.1; omega
                have e5 : (j : Int) ≤ 10000 := by have := HRt.out.2.1; omega
                have HC := Aside0.mk (And.intro (show b + (d + 1) ≤ i by omega) (And.intro hq (show (j : Int) - 1 = (i : Int) - 1 - ((d + 1 : Nat) : Int) by omega)))
                have HST : Aside0 (shiftR n i ⟨g, []⟩ (d + 1) = ⟨moveS n (shiftR n i ⟨g, []⟩ d).g (j : Int) (t : Int), (shiftR n i ⟨g, []⟩ d).ms ++ [⟨(shiftR n i ⟨g, []⟩ d).g.xs.getD j 0, (j : Int), (t : Int)⟩]⟩) := ⟨by rw [← hj, ← ht]; rfl⟩
                obtain ⟨n7, hn7⟩ : ∃ n7, (shiftR n i ⟨g, []⟩ d).ms.length = n7 := ⟨_, rfl⟩
                rw [hn7] at e7
                subst e7
                clear hlt hy hd hq hs few hj ht hn7 HY HI
                generalize shiftR n i ⟨g, []⟩ d = r0 at *
                have C1 := Aside0.mk (one_any (HS.out.get 0 rfl) (i := j) (j := t) e4)
                generalize r0.g.xs.getD j 0 = xv at *
                clear href
                go_wp2_with fail
                refine C1.out.mono ?_
                clear C1
                rintro e w5 ⟨rfl, h4, h5⟩
                replace HS := Aside0.mk (ref_turn HS.out 0 rfl h5 h4)
                clear h4 h5
                go_wp2_with ((with_reducible refine gate_builtin (b := .append) (xs := #[.tmp 94, .tmp 100]) rfl ?_); at_builtin; refine sep_appendM rfl (.tmp 94) (.tmp 100) rfl HS.out 1 rfl ⟨xv, (j : Int), (t : Int)⟩ rfl rfl (by have := HFEW.out; omega) ?_; intro v1 w6 hs2; have HS2 := Aside0.mk hs2; clear hs2)
                go_roundg (i - d)
                case measure => have := HC.out; omega
                case rel => exact ⟨_, rfl, ⟨d + 1, HC.out.2.2, HC.out.1, by omega, by rw [HST.out]; exact HS2.out⟩⟩
              · obtain rfl : d = i - b := by have := HRt.out.1; omega
                have e3 : ¬ (b : Int) ≤ y := by have := HRt.out.1; omega
                have d3 : decide ((b : Int) ≤ y) = false := decide_eq_false e3
                subst e7
                clear hlt hy hd hq hs few href HY HI
                go_wp2
                go_ret3
                rw [HE.out]
                exact ⟨_, rfl, HS.out⟩
          · have e3 : ¬ (b : Int) ≤ y := by omega
            have d3 : decide ((b : Int) ≤ y) = false := decide_eq_false e3
            clear href hbm hy hm1 hm2 hx2 hM1
            go_wp2
            clear c0 hn6 e3 d3
            go_loopg [13, 14] (i + 1) (fun kq v13 v14 W => ∃ y : Int, v14 = .int .i64 y ∧ Aside0 (∃ d : Nat, y = (i : Int) - 1 - (d : Int) ∧ b + d ≤ i ∧ i + 1 - d ≤ kq ∧ Sep w0 W (RefO r lb n (shiftR n i ⟨g, []⟩ d).g :: OwnM v13 (shiftR n i ⟨g, []⟩ d).ms :: L)))
            case atStart => exact ⟨_, rfl, ⟨0, by omega, HRt.out.1, by omega, HS.out⟩⟩
            case round =>
              clear HS
              obtain ⟨y, rfl, HY⟩ := hrel
              obtain ⟨d, hy, hd, hq, hs⟩ := HY.out
              have HS := Aside0.mk hs
              have few := shiftR_few (n := n) (i := i) (g := g) d
              have HFEW : Aside0 ((shiftR n i ⟨g, []⟩ d).ms.length ≤ 10000) := ⟨by have := HRt.out.2.1; omega⟩
              have href : RefAt wr r lb n (shiftR n i ⟨g, []⟩ d).g := HS.out.get 0 rfl
              obtain ⟨A7, c7, e7⟩ := ownM_shape (HS.out.get 1 rfl)
              by_cases hlt : b + d < i
              · obtain ⟨j, hj⟩ : ∃ j, i - d - 1 = j := ⟨_, rfl⟩
                obtain ⟨t, ht⟩ : ∃ t, i - d = t := ⟨_, rfl⟩
                obtain rfl : y = (j : Int) := by omega
                have et : (j : Int) + 1 = (t : Int) := by omega
                have e3 : (b : Int) ≤ (j : Int) := by omega
                have e4 : j < n := by have := HRt.out.2.1; omega
                have e5 : (j : Int) ≤ 10000 := by have := HRt.out.2.1; omega
                have HC := Aside0.mk (And.intro (show b + (d + 1) ≤ i by omega) (And.intro hq (show (j : Int) - 1 = (i : Int) - 1 - ((d + 1 : Nat) : Int) by omega)))
                have HST : Aside0 (shiftR n i ⟨g, []⟩ (d + 1) = ⟨moveS n (shiftR n i ⟨g, []⟩ d).g (j : Int) (t : Int), (shiftR n i ⟨g, []⟩ d).ms ++ [⟨(shiftR n i ⟨g, []⟩ d).g.xs.getD j 0, (j : Int), (t : Int)⟩]⟩) := ⟨by rw [← hj, ← ht]; rfl⟩
                obtain ⟨n7, hn7⟩ : ∃ n7, (shiftR n i ⟨g, []⟩ d).ms.length = n7 := ⟨_, rfl⟩
                rw [hn7] at e7
                subst e7
                clear hlt hy hd hq hs few hj ht hn7 HY HI
                generalize shiftR n i ⟨g, []⟩ d = r0 at *
                have C1 := Aside0.mk (one_any (HS.out.get 0 rfl) (i := j) (j := t) e4)
                generalize r0.g.xs.getD j 0 = xv at *
                clear href
                go_wp2_with fail
                refine C1.out.mono ?_
                clear C1
                rintro e w5 ⟨rfl, h4, h5⟩
                replace HS := Aside0.mk (ref_turn HS.out 0 rfl h5 h4)
                clear h4 h5
                go_wp2_with ((with_reducible refine gate_builtin (b := .append) (xs := #[.tmp 94, .tmp 100]) rfl ?_); at_builtin; refine sep_appendM rfl (.tmp 94) (.tmp 100) rfl HS.out 1 rfl ⟨xv, (j : Int), (t : Int)⟩ rfl rfl (by have := HFEW.out; omega) ?_; intro v1 w6 hs2; have HS2 := Aside0.mk hs2; clear hs2)
                go_roundg (i - d)
                case measure => have := HC.out; omega
                case rel => exact ⟨_, rfl, ⟨d + 1, HC.out.2.2, HC.out.1, by omega, by rw [HST.out]; exact HS2.out⟩⟩
              · obtain rfl : d = i - b := by have := HRt.out.1; omega
                have e3 : ¬ (b : Int) ≤ y := by have := HRt.out.1; omega
                have d3 : decide ((b : Int) ≤ y) = false := decide_eq_false e3
                subst e7
                clear hlt hy hd hq hs few href HY HI
                go_wp2
                go_ret3
                rw [HE.out]
                exact ⟨_, rfl, HS.out⟩
set_option maxRecDepth 100000 in
set_option maxHeartbeats 4000000 in
theorem ropen_right_behind (hS : Sep w0 w (RefO r lb n g :: L)) (hl : g.xs.length = n) {sg : Nat} (hw : winB n (sg : Int) 1 = true) {bn : Nat} (k1 : 8 * sg ≤ bn) (k2 : bn < 8 * sg + 8) (hf : g.on bn = true) {R : Nat} (hu : upF g.on (bn + 1) (8 * sg + 8 - (bn + 1)) = some R) :
    Calls Tryd.prog 21 #[.pointer (some ⟨r, 0, none⟩), .int .i64 (sg : Int), .int .i64 (bn : Int)] w fun e w' => ∃ v, e = .returned (.tuple #[.int .i64 (openR n sg (bn : Int) g).k, v, .int .i64 (openR n sg (bn : Int) g).e]) ∧ Sep w0 w' (RefO r lb n (openR n sg (bn : Int) g).r.g :: OwnM v (openR n sg (bn : Int) g).r.ms :: L) := by
  obtain ⟨x, hx⟩ : ∃ x, bn + 1 = x := ⟨_, rfl⟩
  obtain ⟨b, hb⟩ : ∃ b, 8 * sg = b := ⟨_, rfl⟩
  have hw2 := of_decide_eq_true hw
  have hbn : b + 8 ≤ n := by omega
  have hb4 : b ≤ 4096 := by omega
  have eb : 8 * (sg : Int) = (b : Int) := by omega
  have HS : Aside0 (Sep w0 w (RefO r lb n g :: OwnM (.slice none 0 0) [] :: L)) := ⟨by
    have h := hS.push (Below.refl _ w) (OwnM (.slice none 0 0) []) (World.ownsRow_nil _ _ _ _) (fun k hk => by simp [OwnM, Value.ownBlock] at hk)
    exact h.perm (List.Perm.cons _ List.perm_append_comm)⟩
  have hs0 : RefAt w r lb n g := hS.get 0 rfl
  obtain ⟨s0, s1⟩ := hs0.cells (show bn < n by omega)
  rw [hf] at s0
  have c0 := hs0.c0
  have hn6 := hs0.high
  have q0 : ((bn : Int) == -1) = false := beq_eq_false_iff_ne.2 (by omega)
  have q1 : ¬ (bn : Int) < (b : Int) := by omega
  have q2 : ¬ (b : Int) + 7 < (bn : Int) := by omega
  have d1 : decide ((bn : Int) < (b : Int)) = false := decide_eq_false q1
  have d2 : decide ((b : Int) + 7 < (bn : Int)) = false := decide_eq_false q2
  have enx : (bn : Int) + 1 = (x : Int) := by omega
  have hx1 : b + 1 ≤ x := by omega
  have HX : Aside0 (x ≤ b + 8) := ⟨by omega⟩
  have hbn2 : bn < n := by omega
  have hb5 : bn ≤ 10000 := by omega
  have HE : Aside0 (openR n sg (bn : Int) g = ⟨(x : Int), 0, shiftR n R ⟨g, []⟩ (R - x)⟩) := ⟨by
    unfold openR nextN openN
    rw [if_neg (by omega), if_neg (fun h => by have := h.2; rw [Int.toNat_natCast, hf] at this; cases this), if_neg (by omega), Int.toNat_natCast, hu, hx]⟩
  rw [hb, hx] at hu
  obtain ⟨h1, h2, h3, h4⟩ := upF_some hu
  have HRt := Aside0.mk (And.intro h1 (And.intro (show R ≤ b + 8 by have := HX.out; omega) h4))
  have HOff := Aside0.mk (And.intro h3 (show R < b + 8 by have := HX.out; omega))
  obtain ⟨M, m1, m2, m3, m4⟩ := downM g.on (show b ≤ x by omega)
  have HMt := Aside0.mk (And.intro m1 (And.intro m2 m3))
  have HMo := Aside0.mk m4
  clear hS hw hw2 hb hu h1 h2 h3 h4 m1 m2 m3 m4 hl hs0 s1 k1 k2 hf hx
  go_enter Tryd.func21, Tryd.ntmps21
  go_wp2
  clear s0 c0 hn6
  go_loopg [11] (R + 1) (fun kq v11 W => ∃ i : Nat, v11 = .int .i64 (i : Int) ∧ i ≤ R ∧ Aside0 (x ≤ i ∧ R + 1 - i ≤ kq) ∧ w = W)
  case atStart => exact ⟨x, rfl, HRt.out.1, ⟨⟨Nat.le_refl _, by omega⟩⟩, rfl⟩
  case round =>
    obtain ⟨i, rfl, hi, HQ, rfl⟩ := hrel
    have href : RefAt w r lb n g := HS.out.get 0 rfl
    have c0 := href.c0
    have hn6 := href.high
    have hR2 := HRt.out.2.1
    by_cases hlt : i < R
    · obtain ⟨s0, s1⟩ := href.cells (show i < n by omega)
      rw [HRt.out.2.2 i HQ.out.1 hlt] at s0
      have e3 : (i : Int) < (b : Int) + 8 := by omega
      have e4 : i < n := by omega
      have HC := Aside0.mk hlt
      clear href s1 hlt
      go_wp2
      go_roundg (R - i)
      case measure => have := HQ.out.2; have := HC.out; omega
      case rel => exact ⟨i + 1, by go_num, by have := HC.out; omega, ⟨by have := HQ.out; have := HC.out; omega⟩, rfl⟩
    · obtain rfl : i = R := by omega
      clear hlt
      have hoff := HOff.out
      obtain ⟨s0, s1⟩ := href.cells (show i < n by omega)
      rw [hoff.1] at s0
      have e5 : (i : Int) < (b : Int) + 8 := by omega
      have HI := Aside0.mk (And.intro hi hR2)
      clear href s1 hoff hi hR2 HQ
      go_wp2
      clear s0 c0 hn6
      go_loopg [12] (x + 1) (fun kq v12 W => ∃ y : Int, v12 = .int .i64 y ∧ Aside0 (∃ m : Nat, y = (m : Int) - 1 ∧ M ≤ m ∧ m ≤ x ∧ m + 1 ≤ kq) ∧ w = W)
      case atStart => exact ⟨_, rfl, ⟨x, rfl, HMt.out.2.1, Nat.le_refl _, Nat.le_refl _⟩, rfl⟩
      case round =>
        obtain ⟨y, rfl, HY, rfl⟩ := hrel
        have href : RefAt w r lb n g := HS.out.get 0 rfl
        have c0 := href.c0
        have hn6 := href.high
        obtain ⟨m, hy, hm1, hm2, hm3⟩ := HY.out
        have hx2 := HX.out
        have hM1 := HMt.out.1
        by_cases hlt : M < m
        · obtain ⟨j, hj⟩ : ∃ j, m - 1 = j := ⟨_, rfl⟩
          obtain rfl : y = (j : Int) := by omega
          obtain ⟨s0, s1⟩ := href.cells (show j < n by omega)
          rw [HMt.out.2.2 j (by omega) (by omega)] at s0
          have e3 : (b : Int) ≤ (j : Int) := by omega
          have e4 : j < n := by omega
          obtain rfl : m = j + 1 := by omega
          have HC := Aside0.mk (And.intro (show M ≤ j by omega) (And.intro hm2 hm3))
          clear href s1 hlt hy hm1 hm2 hm3 hj HY hx2 hM1
          go_wp2
          go_roundg (j + 1)
          case measure => have := HC.out; omega
          case rel => exact ⟨_, rfl, ⟨j, rfl, by have := HC.out; omega, by have := HC.out; omega, by have := HC.out; omega⟩, rfl⟩
        · obtain rfl : m = M := by omega
          clear hlt HY hm3
          by_cases hbm : b < m
          · obtain ⟨j, hj⟩ : ∃ j, m - 1 = j := ⟨_, rfl⟩
            obtain rfl : y = (j : Int) := by omega
            obtain ⟨s0, s1⟩ := href.cells (show j < n by omega)
            have h := HMo.out hbm
            rw [hj] at h
            rw [h] at s0
            have e3 : (b : Int) ≤ (j : Int) := by omega
            have e4 : j < n := by omega
            clear href s1 hbm hy hm1 hm2 hj hx2 hM1 h
            go_wp2
            clear s0 c0 hn6 e3 e4
            go_loopg [13, 14] (i + 1) (fun kq v13 v14 W => ∃ y : Int, v14 = .int .i64 y ∧ Aside0 (∃ d : Nat, y = (i : Int) - 1 - (d : Int) ∧ x + d ≤ i ∧ i + 1 - d ≤ kq ∧ Sep w0 W (RefO r lb n (shiftR n i ⟨g, []⟩ d).g :: OwnM v13 (shiftR n i ⟨g, []⟩ d).ms :: L)))
            case atStart => exact ⟨_, rfl, ⟨0, by omega, HRt.out.1, by omega, HS.out⟩⟩
            case round =>
              clear HS
              obtain ⟨y, rfl, HY⟩ := hrel
              obtain ⟨d, hy, hd, hq, hs⟩ := HY.out
              have HS := Aside0.mk hs
              have few := shiftR_few (n := n) (i := i) (g := g) d
              have HFEW : Aside0 ((shiftR n i ⟨g, []⟩ d).ms.length ≤ 10000) := ⟨by have := HRt.out.2.1; omega⟩
              have href : RefAt wr r lb n (shiftR n i ⟨g, []⟩ d).g := HS.out.get 0 rfl
              obtain ⟨A7, c7, e7⟩ := ownM_shape (HS.out.get 1 rfl)
              by_cases hlt : x + d < i
              · obtain ⟨j, hj⟩ : ∃ j, i - d - 1 = j := ⟨_, rfl⟩
                obtain ⟨t, ht⟩ : ∃ t, i - d = t := ⟨_, rfl⟩
                obtain rfl : y = (j : Int) := by omega
                have et : (j : Int) + 1 = (t : Int) := by omega
                have e3 : (x : Int) ≤ (j : Int) := by omega
                have e4 : j < n := by have := HRt.out.2.1; omega
                have e5 : (j : Int) ≤ 10000 := by have := HRt.out.2.1; omega
                have HC := Aside0.mk (And.intro (show x + (d + 1) ≤ i by omega) (And.intro hq (show (j : Int) - 1 = (i : Int) - 1 - ((d + 1 : Nat) : Int) by omega)))
                have HST : Aside0 (shiftR n i ⟨g, []⟩ (d + 1) = ⟨moveS n (shiftR n i ⟨g, []⟩ d).g (j : Int) (t : Int), (shiftR n i ⟨g, []⟩ d).ms ++ [⟨(shiftR n i ⟨g, []⟩ d).g.xs.getD j 0, (j : Int), (t : Int)⟩]⟩) := ⟨by rw [← hj, ← ht]; rfl⟩
                obtain ⟨n7, hn7⟩ : ∃ n7, (shiftR n i ⟨g, []⟩ d).ms.length = n7 := ⟨_, rfl⟩
                rw [hn7] at e7
                subst e7
                clear hlt hy hd hq hs few hj ht hn7 HY HI
                generalize shiftR n i ⟨g, []⟩ d = r0 at *
                have C1 := Aside0.mk (one_any (HS.out.get 0 rfl) (i := j) (j := t) e4)
                generalize r0.g.xs.getD j 0 = xv at *
                clear href
                go_wp2_with fail
                refine C1.out.mono ?_
                clear C1
                rintro e w5 ⟨rfl, h4, h5⟩
                replace HS := Aside0.mk (ref_turn HS.out 0 rfl h5 h4)
                clear h4 h5
                go_wp2_with ((with_reducible refine gate_builtin (b := .append) (xs := #[.tmp 94, .tmp 100]) rfl ?_); at_builtin; refine sep_appendM rfl (.tmp 94) (.tmp 100) rfl HS.out 1 rfl ⟨xv, (j : Int), (t : Int)⟩ rfl rfl (by have := HFEW.out; omega) ?_; intro v1 w6 hs2; have HS2 := Aside0.mk hs2; clear hs2)
                go_roundg (i - d)
                case measure => have := HC.out; omega
                case rel => exact ⟨_, rfl, ⟨d + 1, HC.out.2.2, HC.out.1, by omega, by rw [HST.out]; exact HS2.out⟩⟩
              · obtain rfl : d = i - x := by have := HRt.out.1; omega
                have e3 : ¬ (x : Int) ≤ y := by have := HRt.out.1; omega
                have d3 : decide ((x : Int) ≤ y) = false := decide_eq_false e3
                subst e7
                clear hlt hy hd hq hs few href HY HI
                go_wp2
                go_ret3
                rw [HE.out]
                exact ⟨_, rfl, HS.out⟩
          · have e3 : ¬ (b : Int) ≤ y := by omega
            have d3 : decide ((b : Int) ≤ y) = false := decide_eq_false e3
            clear href hbm hy hm1 hm2 hx2 hM1
            go_wp2
            clear c0 hn6 e3 d3
            go_loopg [13, 14] (i + 1) (fun kq v13 v14 W => ∃ y : Int, v14 = .int .i64 y ∧ Aside0 (∃ d : Nat, y = (i : Int) - 1 - (d : Int) ∧ x + d ≤ i ∧ i + 1 - d ≤ kq ∧ Sep w0 W (RefO r lb n (shiftR n i ⟨g, []⟩ d).g :: OwnM v13 (shiftR n i ⟨g, []⟩ d).ms :: L)))
            case atStart => exact ⟨_, rfl, ⟨0, by omega, HRt.out.1, by omega, HS.out⟩⟩
            case round =>
              clear HS
              obtain ⟨y, rfl, HY⟩ := hrel
              obtain ⟨d, hy, hd, hq, hs⟩ := HY.out
              have HS := Aside0.mk hs
              have few := shiftR_few (n := n) (i := i) (g := g) d
              have HFEW : Aside0 ((shiftR n i ⟨g, []⟩ d).ms.length ≤ 10000) := ⟨by have := HRt.out.2.1; omega⟩
              have href : RefAt wr r lb n (shiftR n i ⟨g, []⟩ d).g := HS.out.get 0 rfl
              obtain ⟨A7, c7, e7⟩ := ownM_shape (HS.out.get 1 rfl)
              by_cases hlt : x + d < i
              · obtain ⟨j, hj⟩ : ∃ j, i - d - 1 = j := ⟨_, rfl⟩
                obtain ⟨t, ht⟩ : ∃ t, i - d = t := ⟨_, rfl⟩
                obtain rfl : y = (j : Int) := by omega
                have et : (j : Int) + 1 = (t : Int) := by omega
                have e3 : (x : Int) ≤ (j : Int) := by omega
                have e4 : j < n := by have := HRt.out.2.1; omega
                have e5 : (j : Int) ≤ 10000 := by have := HRt.out.2.1; omega
                have HC := Aside0.mk (And.intro (show x + (d + 1) ≤ i by omega) (And.intro hq (show (j : Int) - 1 = (i : Int) - 1 - ((d + 1 : Nat) : Int) by omega)))
                have HST : Aside0 (shiftR n i ⟨g, []⟩ (d + 1) = ⟨moveS n (shiftR n i ⟨g, []⟩ d).g (j : Int) (t : Int), (shiftR n i ⟨g, []⟩ d).ms ++ [⟨(shiftR n i ⟨g, []⟩ d).g.xs.getD j 0, (j : Int), (t : Int)⟩]⟩) := ⟨by rw [← hj, ← ht]; rfl⟩
                obtain ⟨n7, hn7⟩ : ∃ n7, (shiftR n i ⟨g, []⟩ d).ms.length = n7 := ⟨_, rfl⟩
                rw [hn7] at e7
                subst e7
                clear hlt hy hd hq hs few hj ht hn7 HY HI
                generalize shiftR n i ⟨g, []⟩ d = r0 at *
                have C1 := Aside0.mk (one_any (HS.out.get 0 rfl) (i := j) (j := t) e4)
                generalize r0.g.xs.getD j 0 = xv at *
                clear href
                go_wp2_with fail
                refine C1.out.mono ?_
                clear C1
                rintro e w5 ⟨rfl, h4, h5⟩
                replace HS := Aside0.mk (ref_turn HS.out 0 rfl h5 h4)
                clear h4 h5
                go_wp2_with ((with_reducible refine gate_builtin (b := .append) (xs := #[.tmp 94, .tmp 100]) rfl ?_); at_builtin; refine sep_appendM rfl (.tmp 94) (.tmp 100) rfl HS.out 1 rfl ⟨xv, (j : Int), (t : Int)⟩ rfl rfl (by have := HFEW.out; omega) ?_; intro v1 w6 hs2; have HS2 := Aside0.mk hs2; clear hs2)
                go_roundg (i - d)
                case measure => have := HC.out; omega
                case rel => exact ⟨_, rfl, ⟨d + 1, HC.out.2.2, HC.out.1, by omega, by rw [HST.out]; exact HS2.out⟩⟩
              · obtain rfl : d = i - x := by have := HRt.out.1; omega
                have e3 : ¬ (x : Int) ≤ y := by have := HRt.out.1; omega
                have d3 : decide ((x : Int) ≤ y) = false := decide_eq_false e3
                subst e7
                clear hlt hy hd hq hs few href HY HI
                go_wp2
                go_ret3
                rw [HE.out]
                exact ⟨_, rfl, HS.out⟩
set_option maxRecDepth 100000 in
set_option maxHeartbeats 4000000 in
theorem ropen_full_first (hS : Sep w0 w (RefO r lb n g :: L)) (hl : g.xs.length = n) {sg : Nat} (hw : winB n (sg : Int) 1 = true) (hu : upF g.on (8 * sg) 8 = none) :
    Calls Tryd.prog 21 #[.pointer (some ⟨r, 0, none⟩), .int .i64 (sg : Int), .int .i64 (-1)] w fun e w' => ∃ v, e = .returned (.tuple #[.int .i64 (openR n sg (-1) g).k, v, .int .i64 (openR n sg (-1) g).e]) ∧ Sep w0 w' (RefO r lb n (openR n sg (-1) g).r.g :: OwnM v (openR n sg (-1) g).r.ms :: L) := by
  obtain ⟨b, hb⟩ : ∃ b, 8 * sg = b := ⟨_, rfl⟩
  have hw2 := of_decide_eq_true hw
  have hbn : b + 8 ≤ n := by omega
  have hb4 : b ≤ 4096 := by omega
  have eb : 8 * (sg : Int) = (b : Int) := by omega
  have HS : Aside0 (Sep w0 w (RefO r lb n g :: OwnM (.slice none 0 0) [] :: L)) := ⟨by
    have h := hS.push (Below.refl _ w) (OwnM (.slice none 0 0) []) (World.ownsRow_nil _ _ _ _) (fun k hk => by simp [OwnM, Value.ownBlock] at hk)
    exact h.perm (List.Perm.cons _ List.perm_append_comm)⟩
  have HE : Aside0 (openR n sg (-1) g = ⟨0, 16, ⟨g, []⟩⟩) := ⟨by
    unfold openR nextN openN
    rw [if_neg (by omega), if_neg (by omega), if_pos rfl, show 8 * sg + 8 - 8 * sg = 8 by omega, hu, Nat.sub_self]
    rfl⟩
  rw [hb] at hu
  have h4 := upF_none hu
  obtain ⟨R, hR⟩ : ∃ R, b + 8 = R := ⟨_, rfl⟩
  have HRt : Aside0 (b ≤ R ∧ R ≤ b + 8 ∧ ∀ k, b ≤ k → k < R → g.on k = true) := ⟨by omega, by omega, fun k k1 k2 => h4 k k1 (by omega)⟩
  have HR8 := Aside0.mk hR.symm
  obtain ⟨M, hM⟩ : ∃ M, b = M := ⟨_, rfl⟩
  have HMt : Aside0 (b ≤ M ∧ M ≤ b ∧ ∀ k, M ≤ k → k < b → g.on k = true) := ⟨by omega, by omega, fun k k1 k2 => by omega⟩
  have HMb := Aside0.mk hM.symm
  have HX : Aside0 (b ≤ b + 8) := ⟨by omega⟩
  clear hS hw hw2 hb hu h4 hl hR hM
  go_enter Tryd.func21, Tryd.ntmps21
  go_wp2
  go_loopg [11] (R + 1) (fun kq v11 W => ∃ i : Nat, v11 = .int .i64 (i : Int) ∧ i ≤ R ∧ Aside0 (b ≤ i ∧ R + 1 - i ≤ kq) ∧ w = W)
  case atStart => exact ⟨b, rfl, HRt.out.1, ⟨⟨Nat.le_refl _, by omega⟩⟩, rfl⟩
  case round =>
    obtain ⟨i, rfl, hi, HQ, rfl⟩ := hrel
    have href : RefAt w r lb n g := HS.out.get 0 rfl
    have c0 := href.c0
    have hn6 := href.high
    have hR2 := HRt.out.2.1
    by_cases hlt : i < R
    · obtain ⟨s0, s1⟩ := href.cells (show i < n by omega)
      rw [HRt.out.2.2 i HQ.out.1 hlt] at s0
      have e3 : (i : Int) < (b : Int) + 8 := by omega
      have e4 : i < n := by omega
      have HC := Aside0.mk hlt
      clear href s1 hlt
      go_wp2
      go_roundg (R - i)
      case measure => have := HQ.out.2; have := HC.out; omega
      case rel => exact ⟨i + 1, by go_num, by have := HC.out; omega, ⟨by have := HQ.out; have := HC.out; omega⟩, rfl⟩
    · obtain rfl : i = R := by omega
      clear hlt
      have h8 := HR8.out
      have e5 : ¬ (i : Int) < (b : Int) + 8 := by omega
      have d5 : decide ((i : Int) < (b : Int) + 8) = false := decide_eq_false e5
      clear href hR2 HQ h8 HR8 hi HRt
      go_wp2
      clear c0 hn6
      go_loopg [12] (b + 1) (fun kq v12 W => ∃ y : Int, v12 = .int .i64 y ∧ Aside0 (∃ m : Nat, y = (m : Int) - 1 ∧ M ≤ m ∧ m ≤ b ∧ m + 1 ≤ kq) ∧ w = W)
      case atStart => exact ⟨_, rfl, ⟨b, rfl, HMt.out.2.1, Nat.le_refl _, Nat.le_refl _⟩, rfl⟩
      case round =>
        obtain ⟨y, rfl, HY, rfl⟩ := hrel
        have href : RefAt w r lb n g := HS.out.get 0 rfl
        have c0 := href.c0
        have hn6 := href.high
        obtain ⟨m, hy, hm1, hm2, hm3⟩ := HY.out
        have hx2 := HX.out
        have hM1 := HMt.out.1
        by_cases hlt : M < m
        · obtain ⟨j, hj⟩ : ∃ j, m - 1 = j := ⟨_, rfl⟩
          obtain rfl : y = (j : Int) := by omega
          obtain ⟨s0, s1⟩ := href.cells (show j < n by omega)
          rw [HMt.out.2.2 j (by omega) (by omega)] at s0
          have e3 : (b : Int) ≤ (j : Int) := by omega
          have e4 : j < n := by omega
          obtain rfl : m = j + 1 := by omega
          have HC := Aside0.mk (And.intro (show M ≤ j by omega) (And.intro hm2 hm3))
          clear href s1 hlt hy hm1 hm2 hm3 hj HY hx2 hM1
          go_wp2
          go_roundg (j + 1)
          case measure => have := HC.out; omega
          case rel => exact ⟨_, rfl, ⟨j, rfl, by have := HC.out; omega, by have := HC.out; omega, by have := HC.out; omega⟩, rfl⟩
        · obtain rfl : m = M := by omega
          clear hlt HY hm3
          have hmb := HMb.out
          have e3 : ¬ (b : Int) ≤ y := by omega
          have d3 : decide ((b : Int) ≤ y) = false := decide_eq_false e3
          have e6 : y < (b : Int) := by omega
          obtain ⟨A7, c7, e7⟩ := ownM_shape (HS.out.get 1 rfl)
          clear href hmb HMb hy hm1 hm2 hx2 hM1 HMt
          go_wp2
          go_ret3
          rw [HE.out]
          exact ⟨_, rfl, HS.out⟩
set_option maxRecDepth 100000 in
set_option maxHeartbeats 4000000 in
theorem ropen_full_behind (hS : Sep w0 w (RefO r lb n g :: L)) (hl : g.xs.length = n) {sg : Nat} (hw : winB n (sg : Int) 1 = true) {bn : Nat} (k1 : 8 * sg ≤ bn) (k2 : bn < 8 * sg + 8) (hf : g.on bn = true) (hu : upF g.on (bn + 1) (8 * sg + 8 - (bn + 1)) = none) (hd : downF g.on (8 * sg) (bn + 1 - 8 * sg) = none) :
    Calls Tryd.prog 21 #[.pointer (some ⟨r, 0, none⟩), .int .i64 (sg : Int), .int .i64 (bn : Int)] w fun e w' => ∃ v, e = .returned (.tuple #[.int .i64 (openR n sg (bn : Int) g).k, v, .int .i64 (openR n sg (bn : Int) g).e]) ∧ Sep w0 w' (RefO r lb n (openR n sg (bn : Int) g).r.g :: OwnM v (openR n sg (bn : Int) g).r.ms :: L) := by
  obtain ⟨x, hx⟩ : ∃ x, bn + 1 = x := ⟨_, rfl⟩
  obtain ⟨b, hb⟩ : ∃ b, 8 * sg = b := ⟨_, rfl⟩
  have hw2 := of_decide_eq_true hw
  have hbn : b + 8 ≤ n := by omega
  have hb4 : b ≤ 4096 := by omega
  have eb : 8 * (sg : Int) = (b : Int) := by omega
  have HS : Aside0 (Sep w0 w (RefO r lb n g :: OwnM (.slice none 0 0) [] :: L)) := ⟨by
    have h := hS.push (Below.refl _ w) (OwnM (.slice none 0 0) []) (World.ownsRow_nil _ _ _ _) (fun k hk => by simp [OwnM, Value.ownBlock] at hk)
    exact h.perm (List.Perm.cons _ List.perm_append_comm)⟩
  have hs0 : RefAt w r lb n g := hS.get 0 rfl
  obtain ⟨s0, s1⟩ := hs0.cells (show bn < n by omega)
  rw [hf] at s0
  have c0 := hs0.c0
  have hn6 := hs0.high
  have q0 : ((bn : Int) == -1) = false := beq_eq_false_iff_ne.2 (by omega)
  have q1 : ¬ (bn : Int) < (b : Int) := by omega
  have q2 : ¬ (b : Int) + 7 < (bn : Int) := by omega
  have d1 : decide ((bn : Int) < (b : Int)) = false := decide_eq_false q1
  have d2 : decide ((b : Int) + 7 < (bn : Int)) = false := decide_eq_false q2
  have enx : (bn : Int) + 1 = (x : Int) := by omega
  have hx1 : b + 1 ≤ x := by omega
  have HX : Aside0 (x ≤ b + 8) := ⟨by omega⟩
  have hbn2 : bn < n := by omega
  have hb5 : bn ≤ 10000 := by omega
  have HE : Aside0 (openR n sg (bn : Int) g = ⟨0, 16, ⟨g, []⟩⟩) := ⟨by
    unfold openR nextN openN
    rw [if_neg (by omega), if_neg (fun h => by have := h.2; rw [Int.toNat_natCast, hf] at this; cases this), if_neg (by omega), Int.toNat_natCast, hu, hd]⟩
  rw [hb, hx] at hu hd
  have h4 := upF_none hu
  have h5 := downF_none hd
  obtain ⟨R, hR⟩ : ∃ R, b + 8 = R := ⟨_, rfl⟩
  have HRt : Aside0 (x ≤ R ∧ R ≤ b + 8 ∧ ∀ k, x ≤ k → k < R → g.on k = true) := ⟨by have := HX.out; omega, by omega, fun k k1 k2 => h4 k k1 (by have := HX.out; omega)⟩
  have HR8 := Aside0.mk hR.symm
  obtain ⟨M, hM⟩ : ∃ M, b = M := ⟨_, rfl⟩
  have HMt : Aside0 (b ≤ M ∧ M ≤ x ∧ ∀ k, M ≤ k → k < x → g.on k = true) := ⟨by omega, by omega, fun k k1 k2 => h5 k (by omega) (by omega)⟩
  have HMb := Aside0.mk hM.symm
  clear hS hw hw2 hb hu hd h4 h5 hl hs0 s1 k1 k2 hf hx hR hM
  go_enter Tryd.func21, Tryd.ntmps21
  go_wp2
  clear s0 c0 hn6
  go_loopg [11] (R + 1) (fun kq v11 W => ∃ i : Nat, v11 = .int .i64 (i : Int) ∧ i ≤ R ∧ Aside0 (x ≤ i ∧ R + 1 - i ≤ kq) ∧ w = W)
  case atStart => exact ⟨x, rfl, HRt.out.1, ⟨⟨Nat.le_refl _, by omega⟩⟩, rfl⟩
  case round =>
    obtain ⟨i, rfl, hi, HQ, rfl⟩ := hrel
    have href : RefAt w r lb n g := HS.out.get 0 rfl
    have c0 := href.c0
    have hn6 := href.high
    have hR2 := HRt.out.2.1
    by_cases hlt : i < R
    · obtain ⟨s0, s1⟩ := href.cells (show i < n by omega)
      rw [HRt.out.2.2 i HQ.out.1 hlt] at s0
      have e3 : (i : Int) < (b : Int) + 8 := by omega
      have e4 : i < n := by omega
      have HC := Aside0.mk hlt
      clear href s1 hlt
      go_wp2
      go_roundg (R - i)
      case measure => have := HQ.out.2; have := HC.out; omega
      case rel => exact ⟨i + 1, by go_num, by have := HC.out; omega, ⟨by have := HQ.out; have := HC.out; omega⟩, rfl⟩
    · obtain rfl : i = R := by omega
      clear hlt
      have h8 := HR8.out
      have e5 : ¬ (i : Int) < (b : Int) + 8 := by omega
      have d5 : decide ((i : Int) < (b : Int) + 8) = false := decide_eq_false e5
      clear href hR2 HQ h8 HR8 hi HRt
      go_wp2
      clear c0 hn6
      go_loopg [12] (x + 1) (fun kq v12 W => ∃ y : Int, v12 = .int .i64 y ∧ Aside0 (∃ m : Nat, y = (m : Int) - 1 ∧ M ≤ m ∧ m ≤ x ∧ m + 1 ≤ kq) ∧ w = W)
      case atStart => exact ⟨_, rfl, ⟨x, rfl, HMt.out.2.1, Nat.le_refl _, Nat.le_refl _⟩, rfl⟩
      case round =>
        obtain ⟨y, rfl, HY, rfl⟩ := hrel
        have href : RefAt w r lb n g := HS.out.get 0 rfl
        have c0 := href.c0
        have hn6 := href.high
        obtain ⟨m, hy, hm1, hm2, hm3⟩ := HY.out
        have hx2 := HX.out
        have hM1 := HMt.out.1
        by_cases hlt : M < m
        · obtain ⟨j, hj⟩ : ∃ j, m - 1 = j := ⟨_, rfl⟩
          obtain rfl : y = (j : Int) := by omega
          obtain ⟨s0, s1⟩ := href.cells (show j < n by omega)
          rw [HMt.out.2.2 j (by omega) (by omega)] at s0
          have e3 : (b : Int) ≤ (j : Int) := by omega
          have e4 : j < n := by omega
          obtain rfl : m = j + 1 := by omega
          have HC := Aside0.mk (And.intro (show M ≤ j by omega) (And.intro hm2 hm3))
          clear href s1 hlt hy hm1 hm2 hm3 hj HY hx2 hM1
          go_wp2
          go_roundg (j + 1)
          case measure => have := HC.out; omega
          case rel => exact ⟨_, rfl, ⟨j, rfl, by have := HC.out; omega, by have := HC.out; omega, by have := HC.out; omega⟩, rfl⟩
        · obtain rfl : m = M := by omega
          clear hlt HY hm3
          have hmb := HMb.out
          have e3 : ¬ (b : Int) ≤ y := by omega
          have d3 : decide ((b : Int) ≤ y) = false := decide_eq_false e3
          have e6 : y < (b : Int) := by omega
          obtain ⟨A7, c7, e7⟩ := ownM_shape (HS.out.get 1 rfl)
          clear href hmb HMb hy hm1 hm2 hx2 hM1 HMt
          go_wp2
          go_ret3
          rw [HE.out]
          exact ⟨_, rfl, HS.out⟩
set_option maxRecDepth 100000 in
set_option maxHeartbeats 4000000 in
theorem ropen_left (hS : Sep w0 w (RefO r lb n g :: L)) (hl : g.xs.length = n) {sg : Nat} (hw : winB n (sg : Int) 1 = true) {bn : Nat} (k1 : 8 * sg ≤ bn) (k2 : bn < 8 * sg + 8) (hf : g.on bn = true) (hu : upF g.on (bn + 1) (8 * sg + 8 - (bn + 1)) = none) {jf : Nat} (hd : downF g.on (8 * sg) (bn + 1 - 8 * sg) = some jf) :
    Calls Tryd.prog 21 #[.pointer (some ⟨r, 0, none⟩), .int .i64 (sg : Int), .int .i64 (bn : Int)] w fun e w' => ∃ v, e = .returned (.tuple #[.int .i64 (openR n sg (bn : Int) g).k, v, .int .i64 (openR n sg (bn : Int) g).e]) ∧ Sep w0 w' (RefO r lb n (openR n sg (bn : Int) g).r.g :: OwnM v (openR n sg (bn : Int) g).r.ms :: L) := by
  obtain ⟨x, hx⟩ : ∃ x, bn + 1 = x := ⟨_, rfl⟩
  obtain ⟨b, hb⟩ : ∃ b, 8 * sg = b := ⟨_, rfl⟩
  have hw2 := of_decide_eq_true hw
  have hbn : b + 8 ≤ n := by omega
  have hb4 : b ≤ 4096 := by omega
  have eb : 8 * (sg : Int) = (b : Int) := by omega
  have HS : Aside0 (Sep w0 w (RefO r lb n g :: OwnM (.slice none 0 0) [] :: L)) := ⟨by
    have h := hS.push (Below.refl _ w) (OwnM (.slice none 0 0) []) (World.ownsRow_nil _ _ _ _) (fun k hk => by simp [OwnM, Value.ownBlock] at hk)
    exact h.perm (List.Perm.cons _ List.perm_append_comm)⟩
  have hs0 : RefAt w r lb n g := hS.get 0 rfl
  obtain ⟨s0, s1⟩ := hs0.cells (show bn < n by omega)
  rw [hf] at s0
  have c0 := hs0.c0
  have hn6 := hs0.high
  have q0 : ((bn : Int) == -1) = false := beq_eq_false_iff_ne.2 (by omega)
  have q1 : ¬ (bn : Int) < (b : Int) := by omega
  have q2 : ¬ (b : Int) + 7 < (bn : Int) := by omega
  have d1 : decide ((bn : Int) < (b : Int)) = false := decide_eq_false q1
  have d2 : decide ((b : Int) + 7 < (bn : Int)) = false := decide_eq_false q2
  have enx : (bn : Int) + 1 = (x : Int) := by omega
  have hx1 : b + 1 ≤ x := by omega
  have HX : Aside0 (x ≤ b + 8) := ⟨by omega⟩
  have hbn2 : bn < n := by omega
  have hb5 : bn ≤ 10000 := by omega
  obtain ⟨M, hM⟩ : ∃ M, jf + 1 = M := ⟨_, rfl⟩
  have HE : Aside0 (openR n sg (bn : Int) g = ⟨(bn : Int), 0, shiftL n (M - 1) ⟨g, []⟩ (bn - (M - 1))⟩) := ⟨by
    unfold openR nextN openN
    rw [if_neg (by omega), if_neg (fun h => by have := h.2; rw [Int.toNat_natCast, hf] at this; cases this), if_neg (by omega), Int.toNat_natCast, hu, hd, show M - 1 = jf by omega]⟩
  rw [hb, hx] at hu hd
  have h4 := upF_none hu
  obtain ⟨j1, j2, j3, j4⟩ := downF_some hd
  obtain ⟨R, hR⟩ : ∃ R, b + 8 = R := ⟨_, rfl⟩
  have HRt : Aside0 (x ≤ R ∧ R ≤ b + 8 ∧ ∀ k, x ≤ k → k < R → g.on k = true) := ⟨by have := HX.out; omega, by omega, fun k k1 k2 => h4 k k1 (by have := HX.out; omega)⟩
  have HR8 := Aside0.mk hR.symm
  have HMt : Aside0 (b ≤ M ∧ M ≤ x ∧ ∀ k, M ≤ k → k < x → g.on k = true) := ⟨by omega, by omega, fun k k1 k2 => j4 k (by omega) (by omega)⟩
  have HMb : Aside0 (b < M ∧ g.on (M - 1) = false) := ⟨by omega, by rw [show M - 1 = jf by omega]; exact j3⟩
  clear hS hw hw2 hb hu hd h4 hl hs0 s1 k1 k2 hf hx hR hM j1 j2 j3 j4
  go_enter Tryd.func21, Tryd.ntmps21
  go_wp2
  clear s0 c0 hn6
  go_loopg [11] (R + 1) (fun kq v11 W => ∃ i : Nat, v11 = .int .i64 (i : Int) ∧ i ≤ R ∧ Aside0 (x ≤ i ∧ R + 1 - i ≤ kq) ∧ w = W)
  case atStart => exact ⟨x, rfl, HRt.out.1, ⟨⟨Nat.le_refl _, by omega⟩⟩, rfl⟩
  case round =>
    obtain ⟨i, rfl, hi, HQ, rfl⟩ := hrel
    have href : RefAt w r lb n g := HS.out.get 0 rfl
    have c0 := href.c0
    have hn6 := href.high
    have hR2 := HRt.out.2.1
    by_cases hlt : i < R
    · obtain ⟨s0, s1⟩ := href.cells (show i < n by omega)
      rw [HRt.out.2.2 i HQ.out.1 hlt] at s0
      have e3 : (i : Int) < (b : Int) + 8 := by omega
      have e4 : i < n := by omega
      have HC := Aside0.mk hlt
      clear href s1 hlt
      go_wp2
      go_roundg (R - i)
      case measure => have := HQ.out.2; have := HC.out; omega
      case rel => exact ⟨i + 1, by go_num, by have := HC.out; omega, ⟨by have := HQ.out; have := HC.out; omega⟩, rfl⟩
    · obtain rfl : i = R := by omega
      clear hlt
      have h8 := HR8.out
      have e5 : ¬ (i : Int) < (b : Int) + 8 := by omega
      have d5 : decide ((i : Int) < (b : Int) + 8) = false := decide_eq_false e5
      clear href hR2 HQ h8 HR8 hi HRt
      go_wp2
      clear c0 hn6
      go_loopg [12] (x + 1) (fun kq v12 W => ∃ y : Int, v12 = .int .i64 y ∧ Aside0 (∃ m : Nat, y = (m : Int) - 1 ∧ M ≤ m ∧ m ≤ x ∧ m + 1 ≤ kq) ∧ w = W)
      case atStart => exact ⟨_, rfl, ⟨x, rfl, HMt.out.2.1, Nat.le_refl _, Nat.le_refl _⟩, rfl⟩
      case round =>
        obtain ⟨y, rfl, HY, rfl⟩ := hrel
        have href : RefAt w r lb n g := HS.out.get 0 rfl
        have c0 := href.c0
        have hn6 := href.high
        obtain ⟨m, hy, hm1, hm2, hm3⟩ := HY.out
        have hx2 := HX.out
        have hM1 := HMt.out.1
        by_cases hlt : M < m
        · obtain ⟨j, hj⟩ : ∃ j, m - 1 = j := ⟨_, rfl⟩
          obtain rfl : y = (j : Int) := by omega
          obtain ⟨s0, s1⟩ := href.cells (show j < n by omega)
          rw [HMt.out.2.2 j (by omega) (by omega)] at s0
          have e3 : (b : Int) ≤ (j : Int) := by omega
          have e4 : j < n := by omega
          obtain rfl : m = j + 1 := by omega
          have HC := Aside0.mk (And.intro (show M ≤ j by omega) (And.intro hm2 hm3))
          clear href s1 hlt hy hm1 hm2 hm3 hj HY hx2 hM1
          go_wp2
          go_roundg (j + 1)
          case measure => have := HC.out; omega
          case rel => exact ⟨_, rfl, ⟨j, rfl, by have := HC.out; omega, by have := HC.out; omega, by have := HC.out; omega⟩, rfl⟩
        · obtain rfl : m = M := by omega
          clear hlt HY hm3
          obtain ⟨j, hj⟩ : ∃ j, m - 1 = j := ⟨_, rfl⟩
          have hmb := HMb.out
          rw [hj] at HE hmb
          obtain rfl : y = (j : Int) := by omega
          obtain ⟨s0, s1⟩ := href.cells (show j < n by omega)
          rw [hmb.2] at s0
          have e3 : (b : Int) ≤ (j : Int) := by omega
          have e4 : j < n := by omega
          have e6 : ¬ (j : Int) < (b : Int) := by omega
          have d6 : decide ((j : Int) < (b : Int)) = false := decide_eq_false e6
          have HJ : Aside0 (j + 1 ≤ bn + 1) := ⟨by omega⟩
          have hj5 : j ≤ 10000 := by omega
          clear href hmb HMb hy hm1 hm2 hx2 hM1 HMt s1 hj hx1
          go_wp2
          clear s0 c0 hn6 e3 e4 e5 d5 e6 d6
          go_loopg [13, 15] (bn + 2) (fun kq v13 v15 W => ∃ q : Nat, v15 = .int .i64 (q : Int) ∧ Aside0 (j + 1 ≤ q ∧ q ≤ bn + 1 ∧ bn + 2 - q ≤ kq ∧ Sep w0 W (RefO r lb n (shiftL n j ⟨g, []⟩ (q - j - 1)).g :: OwnM v13 (shiftL n j ⟨g, []⟩ (q - j - 1)).ms :: L)))
          case atStart => exact ⟨j + 1, by go_num, ⟨by omega, HJ.out, by omega, by rw [show j + 1 - j - 1 = 0 by omega]; exact HS.out⟩⟩
          case round =>
            clear HS
            obtain ⟨q, rfl, HQ⟩ := hrel
            obtain ⟨hq1, hq2, hq3, hs⟩ := HQ.out
            obtain ⟨d, hd⟩ : ∃ d, q - j - 1 = d := ⟨_, rfl⟩
            rw [hd] at hs
            have HS := Aside0.mk hs
            have few := shiftL_few (n := n) (i := j) (g := g) d
            have HFEW : Aside0 ((shiftL n j ⟨g, []⟩ d).ms.length ≤ 10000) := ⟨by omega⟩
            obtain ⟨A7, c7, e7⟩ := ownM_shape (HS.out.get 1 rfl)
            by_cases hlt : q ≤ bn
            · obtain ⟨t, ht⟩ : ∃ t, q - 1 = t := ⟨_, rfl⟩
              have et : (q : Int) - 1 = (t : Int) := by omega
              have e3 : (q : Int) ≤ (bn : Int) := by omega
              have e4 : q < n := by omega
              have e8 : (q : Int) ≤ 10000 := by omega
              have HC := Aside0.mk (And.intro (show j + 1 ≤ q + 1 by omega) (And.intro (show q + 1 ≤ bn + 1 by omega) (And.intro hq3 (show q + 1 - j - 1 = d + 1 by omega))))
              have HST : Aside0 (shiftL n j ⟨g, []⟩ (d + 1) = ⟨moveS n (shiftL n j ⟨g, []⟩ d).g (q : Int) (t : Int), (shiftL n j ⟨g, []⟩ d).ms ++ [⟨(shiftL n j ⟨g, []⟩ d).g.xs.getD q 0, (q : Int), (t : Int)⟩]⟩) := ⟨by rw [show q = j + d + 1 by omega, show t = j + d by omega]; rfl⟩
              obtain ⟨n7, hn7⟩ : ∃ n7, (shiftL n j ⟨g, []⟩ d).ms.length = n7 := ⟨_, rfl⟩
              rw [hn7] at e7
              subst e7
              clear hlt hq1 hq2 hq3 hs few ht hn7 HQ hd
              generalize shiftL n j ⟨g, []⟩ d = r0 at *
              have C1 := Aside0.mk (one_any (HS.out.get 0 rfl) (i := q) (j := t) e4)
              generalize r0.g.xs.getD q 0 = xv at *
              go_wp2_with fail
              refine C1.out.mono ?_
              clear C1
              rintro e w5 ⟨rfl, h4, h5⟩
              replace HS := Aside0.mk (ref_turn HS.out 0 rfl h5 h4)
              clear h4 h5
              go_wp2_with ((with_reducible refine gate_builtin (b := .append) (xs := #[.tmp 114, .tmp 120]) rfl ?_); at_builtin; refine sep_appendM rfl (.tmp 114) (.tmp 120) rfl HS.out 1 rfl ⟨xv, (q : Int), (t : Int)⟩ rfl rfl (by have := HFEW.out; omega) ?_; intro v1 w6 hs2; have HS2 := Aside0.mk hs2; clear hs2)
              go_roundg (bn + 1 - q)
              case measure => have := HC.out; omega
              case rel => exact ⟨q + 1, by go_num, ⟨HC.out.1, HC.out.2.1, by omega, by rw [HC.out.2.2.2, HST.out]; exact HS2.out⟩⟩
            · obtain rfl : d = bn - j := by omega
              have e3 : ¬ (q : Int) ≤ (bn : Int) := by omega
              have d3 : decide ((q : Int) ≤ (bn : Int)) = false := decide_eq_false e3
              subst e7
              clear hlt hq1 hq2 hq3 hs few HQ hd
              go_wp2
              go_ret3
              rw [HE.out]
              exact ⟨_, rfl, HS.out⟩
set_option maxRecDepth 100000 in
theorem ropen_arg (hS : Sep w0 w (RefO r lb n g :: L)) {sg : Nat} (hw : winB n (sg : Int) 1 = true) {bh : Int} (hbad : bh ≠ -1 ∧ (bh < 8 * (sg : Int) ∨ 8 * (sg : Int) + 8 ≤ bh)) :
    Calls Tryd.prog 21 #[.pointer (some ⟨r, 0, none⟩), .int .i64 (sg : Int), .int .i64 bh] w fun e w' => ∃ v, e = .returned (.tuple #[.int .i64 (openR n sg bh g).k, v, .int .i64 (openR n sg bh g).e]) ∧ Sep w0 w' (RefO r lb n (openR n sg bh g).r.g :: OwnM v (openR n sg bh g).r.ms :: L) := by
  obtain ⟨b, hb⟩ : ∃ b, 8 * sg = b := ⟨_, rfl⟩
  have hw2 := of_decide_eq_true hw
  have hbn : b + 8 ≤ n := by omega
  have hb4 : b ≤ 4096 := by omega
  have eb : 8 * (sg : Int) = (b : Int) := by omega
  have HS : Aside0 (Sep w0 w (RefO r lb n g :: OwnM (.slice none 0 0) [] :: L)) := ⟨by
    have h := hS.push (Below.refl _ w) (OwnM (.slice none 0 0) []) (World.ownsRow_nil _ _ _ _) (fun k hk => by simp [OwnM, Value.ownBlock] at hk)
    exact h.perm (List.Perm.cons _ List.perm_append_comm)⟩
  have HE : Aside0 (openR n sg bh g = ⟨0, 1, ⟨g, []⟩⟩) := ⟨by unfold openR; rw [if_pos hbad]⟩
  have q0 : (bh != -1) = true := bne_iff_ne.2 hbad.1
  by_cases h1 : bh < (b : Int)
  · clear hS hw hw2 hb hbad
    go_enter Tryd.func21, Tryd.ntmps21
    go_wp2
    go_ret3
    rw [HE.out]
    exact ⟨_, rfl, HS.out⟩
  · have d1 : decide (bh < (b : Int)) = false := decide_eq_false h1
    have h2 : (b : Int) + 7 < bh := by omega
    clear hS hw hw2 hb hbad
    go_enter Tryd.func21, Tryd.ntmps21
    go_wp2
    go_ret3
    rw [HE.out]
    exact ⟨_, rfl, HS.out⟩
set_option maxRecDepth 100000 in
theorem ropen_none (hS : Sep w0 w (RefO r lb n g :: L)) {sg : Nat} (hw : winB n (sg : Int) 1 = true) {bn : Nat} (k1 : 8 * sg ≤ bn) (k2 : bn < 8 * sg + 8) (hf : g.on bn = false) :
    Calls Tryd.prog 21 #[.pointer (some ⟨r, 0, none⟩), .int .i64 (sg : Int), .int .i64 (bn : Int)] w fun e w' => ∃ v, e = .returned (.tuple #[.int .i64 (openR n sg (bn : Int) g).k, v, .int .i64 (openR n sg (bn : Int) g).e]) ∧ Sep w0 w' (RefO r lb n (openR n sg (bn : Int) g).r.g :: OwnM v (openR n sg (bn : Int) g).r.ms :: L) := by
  obtain ⟨x, hx⟩ : ∃ x, bn + 1 = x := ⟨_, rfl⟩
  obtain ⟨b, hb⟩ : ∃ b, 8 * sg = b := ⟨_, rfl⟩
  have hw2 := of_decide_eq_true hw
  have hbn : b + 8 ≤ n := by omega
  have hb4 : b ≤ 4096 := by omega
  have eb : 8 * (sg : Int) = (b : Int) := by omega
  have HS : Aside0 (Sep w0 w (RefO r lb n g :: OwnM (.slice none 0 0) [] :: L)) := ⟨by
    have h := hS.push (Below.refl _ w) (OwnM (.slice none 0 0) []) (World.ownsRow_nil _ _ _ _) (fun k hk => by simp [OwnM, Value.ownBlock] at hk)
    exact h.perm (List.Perm.cons _ List.perm_append_comm)⟩
  have hs0 : RefAt w r lb n g := hS.get 0 rfl
  obtain ⟨s0, s1⟩ := hs0.cells (show bn < n by omega)
  rw [hf] at s0
  have c0 := hs0.c0
  have hn6 := hs0.high
  have q0 : ((bn : Int) == -1) = false := beq_eq_false_iff_ne.2 (by omega)
  have q1 : ¬ (bn : Int) < (b : Int) := by omega
  have q2 : ¬ (b : Int) + 7 < (bn : Int) := by omega
  have d1 : decide ((bn : Int) < (b : Int)) = false := decide_eq_false q1
  have d2 : decide ((b : Int) + 7 < (bn : Int)) = false := decide_eq_false q2
  have enx : (bn : Int) + 1 = (x : Int) := by omega
  have hx1 : b + 1 ≤ x := by omega
  have HX : Aside0 (x ≤ b + 8) := ⟨by omega⟩
  have hbn2 : bn < n := by omega
  have hb5 : bn ≤ 10000 := by omega
  have HE : Aside0 (openR n sg (bn : Int) g = ⟨0, 14, ⟨g, []⟩⟩) := ⟨by
    unfold openR
    rw [if_neg (by omega), if_pos ⟨by omega, by rw [Int.toNat_natCast, hf]⟩]⟩
  clear hS hw hw2 hb hs0 s1 k1 k2 hf hx
  go_enter Tryd.func21, Tryd.ntmps21
  go_wp2
  go_ret3
  rw [HE.out]
  exact ⟨_, rfl, HS.out⟩
/-- The document's Open, whatever it is asked. -/
theorem ropen_any (hS : Sep w0 w (RefO r lb n g :: L)) (hl : g.xs.length = n) {sg : Nat} (hw : winB n (sg : Int) 1 = true) (bh : Int) :
    Calls Tryd.prog 21 #[.pointer (some ⟨r, 0, none⟩), .int .i64 (sg : Int), .int .i64 bh] w fun e w' => ∃ v, e = .returned (.tuple #[.int .i64 (openR n sg bh g).k, v, .int .i64 (openR n sg bh g).e]) ∧ Sep w0 w' (RefO r lb n (openR n sg bh g).r.g :: OwnM v (openR n sg bh g).r.ms :: L) := by
  by_cases hbad : bh ≠ -1 ∧ (bh < 8 * (sg : Int) ∨ 8 * (sg : Int) + 8 ≤ bh)
  · exact ropen_arg hS hw hbad
  · by_cases h1 : bh = -1
    · subst h1
      cases hu : upF g.on (8 * sg) 8 with
      | some R => exact ropen_right_first hS hl hw hu
      | none => exact ropen_full_first hS hl hw hu
    · obtain ⟨bn, rfl⟩ := Int.eq_ofNat_of_zero_le (show 0 ≤ bh by omega)
      cases hf : g.on bn with
      | false => exact ropen_none hS hw (by omega) (by omega) hf
      | true =>
        cases hu : upF g.on (bn + 1) (8 * sg + 8 - (bn + 1)) with
        | some R => exact ropen_right_behind hS hl hw (by omega) (by omega) hf hu
        | none =>
          cases hd : downF g.on (8 * sg) (bn + 1 - 8 * sg) with
          | some jf => exact ropen_left hS hl hw (by omega) (by omega) hf hu hd
          | none => exact ropen_full_behind hS hl hw (by omega) (by omega) hf hu hd
end
end Go.Proofs.YtofkkdjbilklcaaDoor.ZO

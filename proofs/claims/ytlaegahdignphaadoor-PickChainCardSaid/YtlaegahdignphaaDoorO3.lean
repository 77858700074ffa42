/- The law PickChain walked: it returns true; whatever the touches. -/
import Derived.Test.YtlaegahdignphaaDoorN8
import Derived.Test.YtlaegahdignphaaDoorN9
import Derived.Test.YtlaegahdignphaaDoorK4
namespace Go.Proofs.YtlaegahdignphaaDoor.O3
open Go.RowKit Go.Shelf Go.Proofs.YtlaegahdignphaaDoorW.PrintWords Go.Proofs.YtlaegahdignphaaDoorW.PrintLast Go.Proofs.YtlaegahdignphaaDoorW.PrintMore Q1 Q2 L1 L3 S1 M1 M2 M3 M4 M5 M6 M7 M8 M9 N1 N2 N3 N4 N7 N8 N9 SL SG K4
set_option linter.unusedVariables false
set_option linter.unusedSimpArgs false

/-- The counts of an array whose segments have up to 7, and, but in the least capacity, from 1 on. -/
structure Dense (l : List Int) : Prop where
  cap : capB (8 * (l.length : Int)) = true
  hi : ∀ j, j < l.length → 0 ≤ l.getD j 0 ∧ l.getD j 0 ≤ 7
  lo : 4 < l.length → ∀ j, j < l.length → 1 ≤ l.getD j 0
theorem Dense.good {l : List Int} (h : Dense l) : goodL l := fun j hj => by have := h.hi j hj; omega
theorem dense_0 : Dense [0, 0, 0, 0] := ⟨by decide, by decide, by decide⟩
theorem get_set {l : List Int} {i j : Nat} {v : Int} (h : i < l.length) : (l.set i v).getD j 0 = if j = i then v else l.getD j 0 := by
  rw [List.getD_eq_getElem?_getD, List.getElem?_set]
  by_cases e : i = j
  · subst e; simp [h]
  · rw [if_neg e, if_neg (fun c => e c.symm), List.getD_eq_getElem?_getD]
theorem take_get {l : List Int} {f j : Nat} (h : j < f) : (l.take f).getD j 0 = l.getD j 0 := by simp [List.getD_eq_getElem?_getD, List.getElem?_take, h]
theorem drop_get {l : List Int} {f j : Nat} (h : f ≤ j) : (l.drop f).getD (j - f) 0 = l.getD j 0 := by simp [List.getD_eq_getElem?_getD, List.getElem?_drop, show f + (j - f) = j by omega]
/-- One more, or one less, and then a step: dense again. -/
theorem dense_next {l m : List Int} {s f g : Nat} {v : Int} {p : Int × Int × Int × Int × Int} (hs : s < l.length) (h : Dense l) (hN : Nx (l.set s v) m s p f g) : Dense m := by
  refine ⟨hN.cap, fun j hj => ?_, fun h4 j hj => ?_⟩
  · have h0 := (hN.good j hj).1
    refine ⟨h0, ?_⟩
    by_cases hin : f ≤ j ∧ j < f + g
    · exact hN.hi j hin.1 hin.2
    · rcases hN.kind with ⟨_, k1, k2, k3, k4, k5⟩ | ⟨_, k1, k2, _⟩ | ⟨_, k1, k2, _⟩
      · rw [List.length_set] at k1
        have hjs : j ≠ s := by omega
        rcases Nat.lt_or_ge j f with hlt | hge
        · have e := congrArg (fun q => q.getD j 0) k4
          simp only [take_get hlt] at e
          rw [e, get_set hs, if_neg hjs]
          exact (h.hi j (by omega)).2
        · have hge2 : f + g ≤ j := by omega
          have e := congrArg (fun q => q.getD (j - (f + g)) 0) k5
          simp only [drop_get hge2] at e
          rw [e, get_set hs, if_neg hjs]
          exact (h.hi j (by omega)).2
      · omega
      · omega
  · by_cases hin : f ≤ j ∧ j < f + g
    · rcases hN.kind with ⟨_, k1, _⟩ | ⟨e2, k1, k2, k3⟩ | ⟨_, k1, k2, k3⟩
      · rw [List.length_set] at k1
        refine hN.lo h4 (fun i hi hne => ?_) j hin.1 hin.2
        rw [List.length_set] at hi
        rw [get_set hs, if_neg hne]
        exact h.lo (by omega) i hi
      · exact hN.lo2 e2 j hin.1 hin.2
      · rw [List.length_set] at k3
        refine hN.lo h4 (fun i hi hne => ?_) j hin.1 hin.2
        rw [List.length_set] at hi
        rw [get_set hs, if_neg hne]
        exact h.lo (by omega) i hi
    · rcases hN.kind with ⟨_, k1, k2, k3, k4, k5⟩ | ⟨_, k1, k2, _⟩ | ⟨_, k1, k2, _⟩
      · rw [List.length_set] at k1
        have hjs : j ≠ s := by omega
        rcases Nat.lt_or_ge j f with hlt | hge
        · have e := congrArg (fun q => q.getD j 0) k4
          simp only [take_get hlt] at e
          rw [e, get_set hs, if_neg hjs]
          exact h.lo (by omega) j (by omega)
        · have hge2 : f + g ≤ j := by omega
          have e := congrArg (fun q => q.getD (j - (f + g)) 0) k5
          simp only [drop_get hge2] at e
          rw [e, get_set hs, if_neg hjs]
          exact h.lo (by omega) j (by omega)
      · omega
      · omega
theorem not_full {l : List Int} (hcp : Caps l) {s : Nat} (hs : s < l.length) (h : l.sum ≤ 2560) : (pickN l s).2.2.2.2 = 0 := by
  unfold pickN
  cases hk : lvl l s with
  | some k => rfl
  | none =>
    dsimp only
    by_cases h1 : withN l.sum (hN l) (hN l) < 0
    · rw [if_pos h1]
    · rw [if_neg h1]
      by_cases h2 : l.length = 512
      · exfalso
        have hx := okW_root hcp hs (lvl_not hk _ (Nat.le_refl _))
        have := root_grow hcp (by rcases withN_val l.sum (hN l) (hN l) with h | h | h <;> omega)
        omega
      · rw [if_neg h2]
theorem seg_of (sg : Int) {L : Nat} (h : 1 ≤ L) (hL : L ≤ 512) : ∃ (r : Int) (t : Nat), sg.tmod (L : Int) = r ∧ -(L : Int) < r ∧ r < L ∧ (r + L).tmod (L : Int) = t ∧ t < L := by
  have h1 := Int.tmod_lt_of_pos sg (show (0 : Int) < (L : Int) by omega)
  have h2 : -(L : Int) < sg.tmod (L : Int) := by
    rw [← Int.neg_neg sg, Int.neg_tmod]
    have := Int.tmod_lt_of_pos (-sg) (show (0 : Int) < (L : Int) by omega)
    omega
  obtain ⟨r, hr⟩ : ∃ r, sg.tmod (L : Int) = r := ⟨_, rfl⟩
  rw [hr] at h1 h2
  have h3 : (r + L).tmod (L : Int) = (r + L) % (L : Int) := Int.tmod_eq_emod_of_nonneg (by omega)
  have h4 := Int.emod_nonneg (r + L) (show (L : Int) ≠ 0 by omega)
  have h5 := Int.emod_lt_of_pos (r + L) (show (0 : Int) < (L : Int) by omega)
  obtain ⟨t, ht⟩ := Int.eq_ofNat_of_zero_le h4
  exact ⟨r, t, hr, h2, h1, by rw [h3, ht], by rw [ht] at h5; omega⟩
theorem wrg_of {l : List Int} (hc : capB (8 * (l.length : Int)) = true) (hg : goodL l) {s : Nat} (hs : s < l.length) : wrg l s = 0 := by
  unfold wrg
  rw [if_neg (by rw [ck_of hc hg]; decide), if_neg (by omega)]
set_option maxRecDepth 100000 in
theorem chain_long {w : World} {A : Option Addr} {c n : Nat} (hT : Tb w) (h : 300 < n) : Calls Tryd.prog 12 #[.slice A n c] w fun e w' => e = .returned (.bool true) ∧ Below w.heap.size w w' := by
  have C := Aside0.mk (N4.awake_any w hT)
  clear hT
  go_enter Tryd.func12, Tryd.ntmps12
  go_wp2_with fail
  refine C.out.mono ?_
  clear C
  rintro e w9 ⟨rfl, hb⟩
  have HB := Aside0.mk hb
  clear hb
  go_wp2
  go_ret
  exact ⟨rfl, HB.out⟩
theorem then_aux {w w1 : World} {v0 v1 : Value} {now : List Int} {sg : Nat} (v : Int) (hsg : sg < now.length) (h : Sep w w1 [S1.Own v0 now, S1.Own v1 ([] ++ now)]) :
    ∃ b1 c1, v1 = .slice (some ⟨b1, 0, none⟩) now.length c1 ∧ w1.cell? ⟨b1, sg, none⟩ = some (.int .i64 (now.getD sg 0)) ∧ w1.frozen? ⟨b1, sg, none⟩ = false ∧ Aside0 (Sep w (w1.setCell ⟨b1, sg, none⟩ (.int .i64 v)) [S1.Own v0 now, S1.Own (.slice (some ⟨b1, 0, none⟩) now.length c1) (now.set sg v)]) := by
  obtain ⟨b1, c1, rfl⟩ := sep_form h (i := 1) rfl (by simp; omega)
  simp only [List.nil_append] at h ⊢
  have hc := sep_cell h (i := 1) rfl hsg
  exact ⟨b1, c1, rfl, hc.1, hc.2, ⟨sep_store h (i := 1) rfl sg v⟩⟩
section
variable {w0 W : World} {ls : List Ob} {i n c : Nat} {A : Option Addr} {xs : List Int}
theorem pick_own (h : Sep w0 W ls) (e : ls[i]? = some (S1.Own (.slice A n c) xs)) (hT : Tb W) {s : Nat} (hz : wrg xs s = 0) :
    Calls Tryd.prog 35 #[.slice A n c, .int .i64 s] W fun e w' => e = .returned (pickV xs s) ∧ Below W.heap.size W w' := by
  obtain ⟨rfl, h2, h3⟩ := h.row i e
  exact pick_good h3 h2 hT hz
theorem after_own (h : Sep w0 W ls) (e : ls[i]? = some (S1.Own (.slice A n c) xs)) {s : Nat} (hz : wrg xs s = 0) (h5 : (pickN xs s).2.2.2.2 = 0) :
    ∃ m f g, Nx xs m s (pickN xs s) f g ∧ Calls Tryd.prog 40 #[.slice A n c, .agg #[.int .i64 (pickN xs s).1, .int .i64 (pickN xs s).2.1, .int .i64 (pickN xs s).2.2.1, .int .i64 (pickN xs s).2.2.2.1]] W fun e w' => ∃ A' c', e = .returned (.tuple #[.slice A' m.length c', .int .i64 0]) ∧ Sep W w' [S1.Own (.slice A' m.length c') m] := by
  obtain ⟨rfl, h2, h3⟩ := h.row i e
  exact after_next h3 h2 hz h5
theorem total_own (h : Sep w0 W ls) (e : ls[i]? = some (S1.Own (.slice A n c) xs)) (hg : goodL xs) (hl : xs.length ≤ 4096) :
    Calls Tryd.prog 43 #[.slice A n c] W fun e w' => e = .returned (.int .i64 xs.sum) ∧ Drawn0 W w' := by
  obtain ⟨rfl, h2, h3⟩ := h.row i e
  exact total_any h3 h2 hg hl
end
set_option maxRecDepth 100000 in
set_option maxHeartbeats 16000000 in
theorem chain_yes {w : World} {A : Option Addr} {c : Nat} {l : List Tch} (hr : Kd.C kTch w A l.length l) (hT : Tb w) (h : l.length ≤ 300) : Calls Tryd.prog 12 #[.slice A l.length c] w fun e w' => e = .returned (.bool true) ∧ Below w.heap.size w w' := by
  have HT := Aside0.mk hT
  have HR := Aside0.mk hr
  have HS := Aside0.mk ((Sep.nil w).new_own (below_alloc (Below.refl _ w) (.cells (nums .i64 [0, 0, 0, 0]).toArray 3)) (own_lit w w.heap.size 3 .i64 [0, 0, 0, 0] (Nat.le_refl _) (by decide)))
  have d300 : decide ((300 : Int) < (l.length : Int)) = false := decide_eq_false (by omega)
  have d301 : decide (300 < l.length) = false := decide_eq_false (by omega)
  clear hT hr
  go_enter Tryd.func12, Tryd.ntmps12
  go_wp2
  go_loopg [3, 4, 5] (l.length + 1) (fun kq v3 v4 v5 W => ∃ (i : Nat) (now : List Int) (A3 : Option Addr) (c3 : Nat), v3 = .slice A3 now.length c3 ∧ v4 = .int .i64 now.sum ∧ v5 = .int .i64 i ∧ i ≤ l.length ∧ now.sum ≤ i ∧ Aside0 (l.length - i ≤ kq) ∧ Aside0 (Dense now) ∧ Aside0 (Sep w W [S1.Own (.slice A3 now.length c3) now]))
  case atStart => exact ⟨0, [0, 0, 0, 0], _, _, rfl, rfl, rfl, by omega, by decide, ⟨by omega⟩, ⟨dense_0⟩, HS⟩
  case round =>
    clear HS
    obtain ⟨i, now, A3, c3, rfl, rfl, rfl, hi, hni, HQ, HD, HS⟩ := hrel
    by_cases hlt : i < l.length
    · obtain ⟨ad, e, t0, t1⟩ := at_tch (Kd.C_below HR.out HS.out.below) i hlt
      cases e
      have hcp := caps_of HD.out.cap
      have hL := hcp.le
      have hL4 : 4 ≤ now.length := by rw [hcp.len]; exact Nat.pow_le_pow_right (n := 2) (i := 2) (by omega) hcp.h2
      have hsum := (good_sum HD.out.good).1
      obtain ⟨r, sg, e1, r1, r2, e2, hsg⟩ := seg_of (l.getD i zTch).s (L := now.length) (by omega) hL
      have HRW := Aside0.mk (HS.out.row 0 rfl)
      obtain ⟨ad2, e, hx⟩ := Kd.at_int HRW.out.2.2 (sg : Int) (by omega) (by omega)
      cases e
      rw [Int.toNat_natCast, show rd now (sg : Int) = now.getD sg 0 from rfl] at hx
      have hx7 := HD.out.hi sg hsg
      have hL0 : ¬ (now.length : Int) = 0 := by omega
      have hsl : (sg : Int) < (now.length : Int) := by omega
      generalize (l.getD i zTch).s = sgi at *
      obtain ⟨b, hb⟩ : ∃ b, (l.getD i zTch).g = b := ⟨_, rfl⟩
      rw [hb] at t1
      have HB := Aside0.mk hb
      clear hb hcp
      obtain ⟨x, hx9⟩ : ∃ x, now.getD sg 0 = x := ⟨_, rfl⟩
      rw [hx9] at hx hx7
      have HX := Aside0.mk hx9
      clear hx9
      cases b
      · have hgl := good_set HD.out.good sg (v := x + 1) (by omega) (by omega)
        have hcl : capB (8 * ((now.set sg (x + 1)).length : Int)) = true := by rw [List.length_set]; exact HD.out.cap
        have hzw := wrg_of hcl hgl (s := sg) (by rw [List.length_set]; exact hsg)
        have hsm : (now.set sg (x + 1)).sum = now.sum + 1 := by rw [sum_set _ _ _ hsg, HX.out]; omega
        have HZ := Aside0.mk (And.intro hzw (not_full (caps_of hcl) (s := sg) (by rw [List.length_set]; exact hsg) (by rw [hsm]; omega)))
        have HSM := Aside0.mk hsm
        have HDN := Aside0.mk (fun (m : List Int) (f g : Nat) (p : Int × Int × Int × Int × Int) (hN : Nx (now.set sg (x + 1)) m sg p f g) => dense_next hsg HD.out hN)
        have hn0 : 0 ≤ now.sum + 1 := by rw [← hsm]; exact (good_sum hgl).1
        have HSe := Aside0.mk (HS.out.append ((Sep.nil wr).new_own (below_alloc (Below.refl _ wr) (.cells #[] 3)) (own_lit wr wr.heap.size 3 .i64 [] (Nat.le_refl _) (by decide))))
        have HRe := Aside0.mk (Kd.C_below HRW.out.2.2 (below_alloc (Below.refl _ wr) (.cells #[] 3)))
        have hlen0 : ([] : List Int).length + now.length ≤ 1000000 := by simp; omega
        have t1' := pw_cell_below (below_alloc (Below.refl _ wr) (.cells #[] 3)) t1
        clear hgl hcl hzw hsm HRW
        go_wp2_with ((with_reducible refine gate_builtin (b := .append) (xs := #[.tmp 50, .tmp 51]) rfl ?_); at_builtin; refine sep_append_row rfl (.tmp 50) (.tmp 51) rfl HSe.out 1 rfl HRe.out rfl rfl hlen0 ?_; intro v1 w1 hs; have hown1 := Kd.C_below HR.out hs.below; obtain ⟨ad5, e, _, u1⟩ := at_tch hown1 i hlt; cases e; rw [HB.out] at u1; obtain ⟨b1, c1, e1, k0, k1, HS1⟩ := then_aux (x + 1) hsg hs; subst e1; rw [HX.out] at k0; clear hs hown1)
        generalize hW1 : w1.setCell ⟨b1, sg, none⟩ (.int .i64 (x + 1)) = W1 at *
        clear k0 k1 t0 t1 t1' u1 hx HSe HRe
        have CP := pick_own HS1.out (i := 1) rfl (Kd.C_below HT.out HS1.out.below) HZ.out.1
        have CA := fun (W : World) (hb : Below W1.heap.size W1 W) => after_own (HS1.out.step hb) (i := 1) rfl HZ.out.1 HZ.out.2
        have h5 := HZ.out.2
        unfold pickV at CP
        generalize hpn : pickN (now.set sg (x + 1)) sg = pn at *
        obtain ⟨p1, p2, p3, p4, p5⟩ := pn
        dsimp only at CP CA h5
        subst h5
        have CP := Aside0.mk CP
        have CA := Aside0.mk CA
        clear hpn hW1 e1 e2 hL0
        refine CP.out.mono ?_
        clear CP
        rintro e w2 ⟨rfl, hb⟩
        obtain ⟨m, f, g, hN, hC⟩ := CA.out _ (below_step hb (below_alloc (Below.refl _ w2) (.cells #[.int .i64 p1, .int .i64 p2, .int .i64 p3, .int .i64 p4] 41)))
        have HN := Aside0.mk hN
        have C := Aside0.mk hC
        have HD2 := Aside0.mk (HDN.out m f g _ hN)
        replace HS1 := Aside0.mk ((HS1.out.step hb).new_blk #[.int .i64 p1, .int .i64 p2, .int .i64 p3, .int .i64 p4] 41)
        have hml := hN.hl
        have hm4 : 4 ≤ m.length := by
          have hc := caps_of HD2.out.cap
          rw [hc.len]
          exact Nat.pow_le_pow_right (n := 2) (i := 2) (by omega) hc.h2
        have hmn : m.sum = now.sum + 1 := hN.sum.trans HSM.out
        have HMN := Aside0.mk hmn
        clear CA hC hN hb HDN hmn
        have c0 : (_ : Option Value) = some (.int .i64 p1) := (blk_cell (HS1.out.blk 2 rfl) 0).trans rfl
        have c1' : (_ : Option Value) = some (.int .i64 p2) := (blk_cell (HS1.out.blk 2 rfl) 1).trans rfl
        have c2 : (_ : Option Value) = some (.int .i64 p3) := (blk_cell (HS1.out.blk 2 rfl) 2).trans rfl
        have c3' : (_ : Option Value) = some (.int .i64 p4) := (blk_cell (HS1.out.blk 2 rfl) 3).trans rfl
        go_wp2_with fail
        refine C.out.mono ?_
        clear C c0 c1' c2 c3'
        rintro e w3 ⟨A4, c4, rfl, hs3⟩
        replace HS1 : Aside0 (Sep w w3 [S1.Own (.slice A4 m.length c4) m]) := ⟨(((HS1.out.append hs3).tail).tail).tail⟩
        clear hs3
        have CT := Aside0.mk (total_own HS1.out (i := 0) rfl HD2.out.good (by omega))
        rw [HMN.out] at CT
        have q1 : ¬ (m.length : Int) < 4 := by omega
        have q2 : decide ((m.length : Int) < 4) = false := decide_eq_false q1
        have q5 : ((now.sum + 1) != (now.sum + 1)) = false := by simp
        go_wp2_with fail
        refine CT.out.mono ?_
        clear CT
        rintro e w4 ⟨rfl, hd⟩
        replace HS1 := Aside0.mk (HS1.out.step hd.below)
        clear hd
        go_wp2
        clear q1 q2 q5
        go_loopg [12] (m.length + 1) (fun kq v12 W => ∃ k : Nat, v12 = .int .i64 k ∧ k ≤ m.length ∧ Aside0 (m.length - k ≤ kq) ∧ Aside0 (Sep w W [S1.Own (.slice A4 m.length c4) m]))
        case atStart => exact ⟨0, rfl, by omega, ⟨by omega⟩, HS1⟩
        case round =>
          clear HS1
          obtain ⟨k, rfl, hk, HQ9, HS1⟩ := hrel
          by_cases hkl : k < m.length
          · have HRW := Aside0.mk (HS1.out.row 0 rfl)
            obtain ⟨ad9, e, hy⟩ := Kd.at_int HRW.out.2.2 (k : Int) (by omega) (by omega)
            cases e
            rw [Int.toNat_natCast, show rd m (k : Int) = m.getD k 0 from rfl] at hy
            have hy7 := HD2.out.hi k hkl
            have HLO := Aside0.mk (fun h4 => HD2.out.lo h4 k hkl)
            generalize m.getD k 0 = y at *
            have z1 : ¬ (7 : Int) < y := by omega
            have z2 : ¬ y < 0 := by omega
            clear HRW
            by_cases h44 : 4 < m.length
            · have hy1 := HLO.out h44
              have z3 : ¬ y < 1 := by omega
              have z4 : (4 : Int) < (m.length : Int) := by omega
              go_wp2
              go_roundg (m.length - (k + 1))
              case measure => have := HQ9.out; omega
              case rel => exact ⟨k + 1, by go_num, by omega, ⟨Nat.le_refl _⟩, HS1⟩
            · have z4 : ¬ (4 : Int) < (m.length : Int) := by omega
              go_wp2
              go_roundg (m.length - (k + 1))
              case measure => have := HQ9.out; omega
              case rel => exact ⟨k + 1, by go_num, by omega, ⟨Nat.le_refl _⟩, HS1⟩
          · obtain rfl : k = m.length := by omega
            go_wp2
            go_roundg (l.length - (i + 1))
            case measure => have := HQ.out; omega
            case rel => exact ⟨i + 1, m, A4, c4, rfl, by rw [HMN.out], by go_num, by omega, by rw [HMN.out]; omega, ⟨Nat.le_refl _⟩, HD2, HS1⟩
      · by_cases hx0 : x = 0
        · have q0 : (x == 0) = true := beq_iff_eq.2 hx0
          clear hx0
          go_wp2
          go_roundg (l.length - (i + 1))
          case measure => have := HQ.out; omega
          case rel => exact ⟨i + 1, now, some ad2, c3, rfl, rfl, by go_num, by omega, by omega, ⟨Nat.le_refl _⟩, HD, HS⟩
        · have q0 : (x == 0) = false := beq_eq_false_iff_ne.2 hx0
          have hgl := good_set HD.out.good sg (v := x - 1) (by omega) (by omega)
          have hcl : capB (8 * ((now.set sg (x - 1)).length : Int)) = true := by rw [List.length_set]; exact HD.out.cap
          have hzw := wrg_of hcl hgl (s := sg) (by rw [List.length_set]; exact hsg)
          have hsm : (now.set sg (x - 1)).sum = now.sum - 1 := by rw [sum_set _ _ _ hsg, HX.out]; omega
          have HZ := Aside0.mk (And.intro hzw (not_full (caps_of hcl) (s := sg) (by rw [List.length_set]; exact hsg) (by rw [hsm]; omega)))
          have HSM := Aside0.mk hsm
          have HDN := Aside0.mk (fun (m : List Int) (f g : Nat) (p : Int × Int × Int × Int × Int) (hN : Nx (now.set sg (x - 1)) m sg p f g) => dense_next hsg HD.out hN)
          have hn0 : 0 ≤ now.sum - 1 := by rw [← hsm]; exact (good_sum hgl).1
          have HSe := Aside0.mk (HS.out.append ((Sep.nil wr).new_own (below_alloc (Below.refl _ wr) (.cells #[] 3)) (own_lit wr wr.heap.size 3 .i64 [] (Nat.le_refl _) (by decide))))
          have HRe := Aside0.mk (Kd.C_below HRW.out.2.2 (below_alloc (Below.refl _ wr) (.cells #[] 3)))
          have hlen0 : ([] : List Int).length + now.length ≤ 1000000 := by simp; omega
          have t1' := pw_cell_below (below_alloc (Below.refl _ wr) (.cells #[] 3)) t1
          clear hgl hcl hzw hsm HRW
          go_wp2_with ((with_reducible refine gate_builtin (b := .append) (xs := #[.tmp 50, .tmp 51]) rfl ?_); at_builtin; refine sep_append_row rfl (.tmp 50) (.tmp 51) rfl HSe.out 1 rfl HRe.out rfl rfl hlen0 ?_; intro v1 w1 hs; have hown1 := Kd.C_below HR.out hs.below; obtain ⟨ad5, e, _, u1⟩ := at_tch hown1 i hlt; cases e; rw [HB.out] at u1; obtain ⟨b1, c1, e1, k0, k1, HS1⟩ := then_aux (x - 1) hsg hs; subst e1; rw [HX.out] at k0; clear hs hown1)
          generalize hW1 : w1.setCell ⟨b1, sg, none⟩ (.int .i64 (x - 1)) = W1 at *
          clear k0 k1 t0 t1 t1' u1 hx HSe HRe
          have CP := pick_own HS1.out (i := 1) rfl (Kd.C_below HT.out HS1.out.below) HZ.out.1
          have CA := fun (W : World) (hb : Below W1.heap.size W1 W) => after_own (HS1.out.step hb) (i := 1) rfl HZ.out.1 HZ.out.2
          have h5 := HZ.out.2
          unfold pickV at CP
          generalize hpn : pickN (now.set sg (x - 1)) sg = pn at *
          obtain ⟨p1, p2, p3, p4, p5⟩ := pn
          dsimp only at CP CA h5
          subst h5
          have CP := Aside0.mk CP
          have CA := Aside0.mk CA
          clear hpn hW1 e1 e2 hL0
          refine CP.out.mono ?_
          clear CP
          rintro e w2 ⟨rfl, hb⟩
          obtain ⟨m, f, g, hN, hC⟩ := CA.out _ (below_step hb (below_alloc (Below.refl _ w2) (.cells #[.int .i64 p1, .int .i64 p2, .int .i64 p3, .int .i64 p4] 41)))
          have HN := Aside0.mk hN
          have C := Aside0.mk hC
          have HD2 := Aside0.mk (HDN.out m f g _ hN)
          replace HS1 := Aside0.mk ((HS1.out.step hb).new_blk #[.int .i64 p1, .int .i64 p2, .int .i64 p3, .int .i64 p4] 41)
          have hml := hN.hl
          have hm4 : 4 ≤ m.length := by
            have hc := caps_of HD2.out.cap
            rw [hc.len]
            exact Nat.pow_le_pow_right (n := 2) (i := 2) (by omega) hc.h2
          have hmn : m.sum = now.sum - 1 := hN.sum.trans HSM.out
          have HMN := Aside0.mk hmn
          clear CA hC hN hb HDN hmn
          have c0 : (_ : Option Value) = some (.int .i64 p1) := (blk_cell (HS1.out.blk 2 rfl) 0).trans rfl
          have c1' : (_ : Option Value) = some (.int .i64 p2) := (blk_cell (HS1.out.blk 2 rfl) 1).trans rfl
          have c2 : (_ : Option Value) = some (.int .i64 p3) := (blk_cell (HS1.out.blk 2 rfl) 2).trans rfl
          have c3' : (_ : Option Value) = some (.int .i64 p4) := (blk_cell (HS1.out.blk 2 rfl) 3).trans rfl
          go_wp2_with fail
          refine C.out.mono ?_
          clear C c0 c1' c2 c3'
          rintro e w3 ⟨A4, c4, rfl, hs3⟩
          replace HS1 : Aside0 (Sep w w3 [S1.Own (.slice A4 m.length c4) m]) := ⟨(((HS1.out.append hs3).tail).tail).tail⟩
          clear hs3
          have CT := Aside0.mk (total_own HS1.out (i := 0) rfl HD2.out.good (by omega))
          rw [HMN.out] at CT
          have q1 : ¬ (m.length : Int) < 4 := by omega
          have q2 : decide ((m.length : Int) < 4) = false := decide_eq_false q1
          have q5 : ((now.sum - 1) != (now.sum - 1)) = false := by simp
          go_wp2_with fail
          refine CT.out.mono ?_
          clear CT
          rintro e w4 ⟨rfl, hd⟩
          replace HS1 := Aside0.mk (HS1.out.step hd.below)
          clear hd
          go_wp2
          clear q1 q2 q5
          go_loopg [12] (m.length + 1) (fun kq v12 W => ∃ k : Nat, v12 = .int .i64 k ∧ k ≤ m.length ∧ Aside0 (m.length - k ≤ kq) ∧ Aside0 (Sep w W [S1.Own (.slice A4 m.length c4) m]))
          case atStart => exact ⟨0, rfl, by omega, ⟨by omega⟩, HS1⟩
          case round =>
            clear HS1
            obtain ⟨k, rfl, hk, HQ9, HS1⟩ := hrel
            by_cases hkl : k < m.length
            · have HRW := Aside0.mk (HS1.out.row 0 rfl)
              obtain ⟨ad9, e, hy⟩ := Kd.at_int HRW.out.2.2 (k : Int) (by omega) (by omega)
              cases e
              rw [Int.toNat_natCast, show rd m (k : Int) = m.getD k 0 from rfl] at hy
              have hy7 := HD2.out.hi k hkl
              have HLO := Aside0.mk (fun h4 => HD2.out.lo h4 k hkl)
              generalize m.getD k 0 = y at *
              have z1 : ¬ (7 : Int) < y := by omega
              have z2 : ¬ y < 0 := by omega
              clear HRW
              by_cases h44 : 4 < m.length
              · have hy1 := HLO.out h44
                have z3 : ¬ y < 1 := by omega
                have z4 : (4 : Int) < (m.length : Int) := by omega
                go_wp2
                go_roundg (m.length - (k + 1))
                case measure => have := HQ9.out; omega
                case rel => exact ⟨k + 1, by go_num, by omega, ⟨Nat.le_refl _⟩, HS1⟩
              · have z4 : ¬ (4 : Int) < (m.length : Int) := by omega
                go_wp2
                go_roundg (m.length - (k + 1))
                case measure => have := HQ9.out; omega
                case rel => exact ⟨k + 1, by go_num, by omega, ⟨Nat.le_refl _⟩, HS1⟩
            · obtain rfl : k = m.length := by omega
              go_wp2
              go_roundg (l.length - (i + 1))
              case measure => have := HQ.out; omega
              case rel => exact ⟨i + 1, m, A4, c4, rfl, by rw [HMN.out], by go_num, by omega, by rw [HMN.out]; omega, ⟨Nat.le_refl _⟩, HD2, HS1⟩
    · obtain rfl : i = l.length := by omega
      have C := Aside0.mk (N4.awake_any _ (Kd.C_below HT.out HS.out.below))
      go_wp2_with fail
      refine C.out.mono ?_
      clear C
      rintro e w9 ⟨rfl, hb⟩
      replace HS := Aside0.mk (HS.out.step hb)
      clear hb
      go_wp2
      go_ret
      exact ⟨rfl, HS.out.below⟩
theorem law (A : Option Addr) (c : Nat) (l : List Tch) {W0 : World} (g : Kd.C kTch W0 A l.length l) (W : World) (hT : Tb W) (hW : W = W0 := by rfl) :
    Calls Tryd.prog 12 #[.slice A l.length c] W fun e w' => e = .returned (.bool true) ∧ Below W.heap.size W w' := by
  subst hW
  by_cases h : 300 < l.length
  · exact chain_long hT h
  · exact chain_yes g hT (by omega)
end Go.Proofs.YtlaegahdignphaaDoor.O3

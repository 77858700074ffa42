/- The law PickFull walked: it returns true; whatever the numbers. -/
import Derived.Test.YtlaegahdignphaaDoorN4
import Derived.Test.YtlaegahdignphaaDoorN7
namespace Go.Proofs.YtlaegahdignphaaDoor.N8
open Go.RowKit Go.Shelf Go.Proofs.YtlaegahdignphaaDoorW.PrintWords Go.Proofs.YtlaegahdignphaaDoorW.PrintLast Go.Proofs.YtlaegahdignphaaDoorW.PrintMore Q1 Q2 L1 L3 S1 M1 M2 M3 M4 M5 M6 M7 M8 M9 N1 N2 N3 N4 N7 SL SG
set_option linter.unusedVariables false
set_option linter.unusedSimpArgs false

theorem sep_store {w0 W : World} {l : List Ob} {i b n c : Nat} {xs : List Int} (h : Sep w0 W l) (e : l[i]? = some (S1.Own (.slice (some ⟨b, 0, none⟩) n c) xs)) (j : Nat) (x : Int) : Sep w0 (W.setCell ⟨b, j, none⟩ (.int .i64 x)) (l.set i (S1.Own (.slice (some ⟨b, 0, none⟩) n c) (xs.set j x))) := by
  have ho := h.own i e
  have hn : n = xs.length := (h.row i e).1
  subst hn
  have hs := (own_store ho (j : Int) x).1
  rw [Int.toNat_natCast] at hs
  refine h.turn i e (S := (· = b)) (Only.set (· = b) W (p := ⟨b, j, none⟩) rfl _) (fun k hk => by rw [hk]; simp [S1.Own, Value.ownBlock]) _ ?_ (fun k hk => .inl hk)
  show World.ownsRow _ 0 3 1 _ (xs.set j x).length _
  rw [List.length_set]
  exact hs
theorem sep_cell {w0 W : World} {l : List Ob} {i b n c : Nat} {xs : List Int} (h : Sep w0 W l) (e : l[i]? = some (S1.Own (.slice (some ⟨b, 0, none⟩) n c) xs)) {j : Nat} (hj : j < n) : W.cell? ⟨b, j, none⟩ = some (.int .i64 (xs.getD j 0)) ∧ W.frozen? ⟨b, j, none⟩ = false := by
  have ho := h.own i e
  have hn : n = xs.length := (h.row i e).1
  subst hn
  have := own_at ho (j : Int) (by omega) (by omega)
  rw [Int.toNat_natCast] at this
  exact this
theorem sep_form {w0 W : World} {l : List Ob} {i : Nat} {v : Value} {xs : List Int} (h : Sep w0 W l) (e : l[i]? = some (S1.Own v xs)) (hp : 0 < xs.length) : ∃ b c, v = .slice (some ⟨b, 0, none⟩) xs.length c := by
  obtain ⟨b, c, rfl, _, _⟩ := (h.own i e).form hp
  exact ⟨b, c, rfl⟩
def shrK (n k : Nat) : List Int := (List.range k).map fun k => (shr n 512 k : Int)
theorem shrK_succ (n k : Nat) : shrK n (k + 1) = shrK n k ++ [(shr n 512 k : Int)] := by simp [shrK, List.range_succ]
theorem shrK_len (n k : Nat) : (shrK n k).length = k := by simp [shrK]
theorem wrg_512 {l : List Int} (h : l.length = 512) (hg : goodL l) {s : Nat} (hs : s < 512) : wrg l s = 0 := by
  unfold wrg
  rw [if_neg (by rw [ck_of (big_caps h).2.2 hg]; decide), if_neg (by omega)]
theorem good_set {l : List Int} (hg : goodL l) (s : Nat) {v : Int} (h0 : 0 ≤ v) (h8 : v ≤ 8) : goodL (l.set s v) := good_iff.2 fun x hx => by
  rcases List.mem_or_eq_of_mem_set hx with h | h
  · exact good_iff.1 hg x h
  · omega
theorem good_rep (n : Nat) {v : Int} (h0 : 0 ≤ v) (h8 : v ≤ 8) : goodL (List.replicate n v) := good_iff.2 fun x hx => by
  obtain rfl := (List.mem_replicate.1 hx).2
  omega
theorem good_shr {n : Nat} (h : n ≤ 2560) : goodL (shrK n 512) := good_iff.2 fun x hx => by
  obtain ⟨k, _, rfl⟩ := List.mem_map.1 hx
  have := shr_hi (n := n) (s := 512) (q := 5) (by omega) (by omega) k
  omega
/-- Pick, of 512 counts in a row of the function's own. -/
theorem pick_512 {w0 W : World} {l : List Ob} {i b c : Nat} {xs : List Int} (h : Sep w0 W l) (e : l[i]? = some (S1.Own (.slice (some ⟨b, 0, none⟩) 512 c) xs)) (hT : Tb W) (hg : goodL xs) {s : Nat} (hs : s < 512) :
    Calls Tryd.prog 35 #[.slice (some ⟨b, 0, none⟩) 512 c, .int .i64 s] W fun e w' => e = .returned (pickV xs s) ∧ Below W.heap.size W w' := by
  obtain ⟨h1, h2, h3⟩ := h.row i e
  rw [h1] at h2 h3
  have := pick_good h3 h2 hT (wrg_512 h1.symm hg hs)
  rw [← h1] at this
  exact this
set_option maxRecDepth 100000 in
set_option maxHeartbeats 1000000 in
theorem full_no {w : World} (hT : Tb w) {n s : Int} (h : n < 2000 ∨ 2560 < n ∨ s < 0 ∨ 511 < s) : Calls Tryd.prog 13 #[.int .i64 n, .int .i64 s] w fun e w' => e = .returned (.bool true) ∧ Below w.heap.size w w' := by
  have HT := Aside0.mk hT
  have HS := Aside0.mk (Sep.nil w)
  clear hT
  by_cases h1 : n < 2000
  · clear h
    go_enter Tryd.func13, Tryd.ntmps13
    have C := Aside0.mk (N4.awake_any _ (Kd.C_below HT.out HS.out.below))
    go_wp2_with fail
    refine C.out.mono ?_
    clear C
    rintro e w9 ⟨rfl, hb⟩
    replace HS := Aside0.mk (HS.out.step hb)
    clear hb
    go_wp2
    (try rw [Exit.noGoto_ret])
    go_ret
    exact ⟨rfl, HS.out.below⟩
  · by_cases h2 : 2560 < n
    · clear h
      go_enter Tryd.func13, Tryd.ntmps13
      have C := Aside0.mk (N4.awake_any _ (Kd.C_below HT.out HS.out.below))
      go_wp2_with fail
      refine C.out.mono ?_
      clear C
      rintro e w9 ⟨rfl, hb⟩
      replace HS := Aside0.mk (HS.out.step hb)
      clear hb
      go_wp2
      (try rw [Exit.noGoto_ret])
      go_ret
      exact ⟨rfl, HS.out.below⟩
    · by_cases h3 : s < 0
      · clear h
        go_enter Tryd.func13, Tryd.ntmps13
        have C := Aside0.mk (N4.awake_any _ (Kd.C_below HT.out HS.out.below))
        go_wp2_with fail
        refine C.out.mono ?_
        clear C
        rintro e w9 ⟨rfl, hb⟩
        replace HS := Aside0.mk (HS.out.step hb)
        clear hb
        go_wp2
        (try rw [Exit.noGoto_ret])
        go_ret
        exact ⟨rfl, HS.out.below⟩
      · have h4 : 511 < s := by omega
        clear h
        go_enter Tryd.func13, Tryd.ntmps13
        have C := Aside0.mk (N4.awake_any _ (Kd.C_below HT.out HS.out.below))
        go_wp2_with fail
        refine C.out.mono ?_
        clear C
        rintro e w9 ⟨rfl, hb⟩
        replace HS := Aside0.mk (HS.out.step hb)
        clear hb
        go_wp2
        (try rw [Exit.noGoto_ret])
        go_ret
        exact ⟨rfl, HS.out.below⟩
/-- The numbers behind k that were turned to 7. -/
def sev (l : List Int) (k : Nat) : List Int := List.replicate k 7 ++ l.drop k
theorem sev_len {l : List Int} {k : Nat} (h : k ≤ l.length) : (sev l k).length = l.length := by simp [sev]; omega
theorem sev_set {l : List Int} {k : Nat} (h : k < l.length) : (sev l k).set k 7 = sev l (k + 1) := by
  unfold sev
  rw [List.replicate_succ', List.append_assoc, List.set_append_right _ _ (by simp), List.length_replicate, Nat.sub_self, List.drop_eq_getElem_cons h]
  rfl
theorem sev_all {l : List Int} : sev l l.length = List.replicate l.length 7 := by simp [sev]
set_option maxRecDepth 100000 in
set_option maxHeartbeats 8000000 in
theorem full_yes {w : World} (hT : Tb w) {n s : Nat} (h1 : 2000 ≤ n) (h2 : n ≤ 2560) (hs : s < 512) : Calls Tryd.prog 13 #[.int .i64 n, .int .i64 s] w fun e w' => e = .returned (.bool true) ∧ Below w.heap.size w w' := by
  have HT := Aside0.mk hT
  have HS := Aside0.mk ((Sep.nil w).push (Below.refl _ _) (S1.Own (.slice none 0 0) []) (own_nil _ _ _ _) (fun k hk => by simp [S1.Own, Value.ownBlock] at hk))
  have CS : Aside0 (∀ (k : Nat) (W : World), k < 512 → Calls Tryd.prog 44 #[.int .i64 n, .int .i64 512, .int .i64 k] W fun e w' => e = .returned (.tuple #[.int .i64 (shr n 512 k), .int .i64 0]) ∧ Below W.heap.size W w') := ⟨fun k W hk => share_yes (n := n) (s := 512) (by omega) (by omega) (by omega) hk W⟩
  have n1 : ¬ (n : Int) < 2000 := by omega
  have n2 : ¬ (2560 : Int) < (n : Int) := by omega
  have n3 : ¬ (s : Int) < 0 := by omega
  have n4 : ¬ (511 : Int) < (s : Int) := by omega
  have n5 : decide ((n : Int) < 2000) = false := decide_eq_false n1
  have n6 : decide ((2560 : Int) < (n : Int)) = false := decide_eq_false n2
  have n7 : decide ((s : Int) < 0) = false := decide_eq_false n3
  have n8 : decide ((511 : Int) < (s : Int)) = false := decide_eq_false n4
  have heq := fun w => eqS w
  have hgd := guardS
  clear hT
  go_enter Tryd.func13, Tryd.ntmps13
  go_wp2
  go_loopg [5, 6] 513 (fun kq v5 v6 W => ∃ k : Nat, v6 = .int .i64 k ∧ k ≤ 512 ∧ Aside0 (512 - k ≤ kq) ∧ Aside0 (Sep w W [S1.Own v5 (shrK n k)]))
  case atStart => exact ⟨0, rfl, by omega, ⟨by omega⟩, HS⟩
  case round =>
    clear HS
    obtain ⟨k, rfl, hk, HQ, HS⟩ := hrel
    by_cases hlt : k < 512
    · have C := Aside0.mk (CS.out k wr hlt)
      have hx := shr_hi (n := n) (s := 512) (q := 5) (by omega) (by omega) k
      have HL := Aside0.mk (shrK_len n k)
      have HU := Aside0.mk (shrK_succ n k)
      generalize shr n 512 k = x at *
      go_wp2_with fail
      refine C.out.mono ?_
      clear C
      rintro e w1 ⟨rfl, hb⟩
      replace HS := Aside0.mk (HS.out.step hb)
      clear hb
      go_wp2_with ((with_reducible refine gate_builtin (b := .append) (xs := #[.tmp 45, .tmp 47]) rfl ?_); at_builtin; refine sep_append rfl (.tmp 45) (.tmp 47) rfl HS.out 0 rfl (x : Int) rfl rfl (by rw [HL.out]; omega) ?_; intro v1 w2 hs2; have HS2 := Aside0.mk hs2; clear hs2)
      go_roundg (512 - (k + 1))
      case measure => have := HQ.out; omega
      case rel => exact ⟨k + 1, by go_num, by omega, ⟨Nat.le_refl _⟩, ⟨by rw [HU.out]; exact HS2.out⟩⟩
    · obtain rfl : k = 512 := by omega
      clear CS hlt hk
      obtain ⟨b, c, e5⟩ := sep_form HS.out (i := 0) rfl (by rw [shrK_len]; omega)
      rw [shrK_len] at e5
      subst e5
      obtain ⟨c0, f0⟩ := sep_cell HS.out (i := 0) rfl hs
      have hget : (shrK n 512).getD s 0 = shr n 512 s := shrL_get hs
      rw [hget] at c0
      have hx := shr_hi (n := n) (s := 512) (q := 5) (by omega) (by omega) s
      have HS1 := Aside0.mk (sep_store HS.out (i := 0) rfl s ((shr n 512 s : Int) + 1))
      have hg1 := good_set (good_shr h2) s (v := (shr n 512 s : Int) + 1) (by omega) (by omega)
      have C := Aside0.mk (pick_512 HS1.out (i := 0) rfl (Kd.C_below HT.out HS1.out.below) hg1 hs)
      obtain ⟨j, hj⟩ := full_one h1 h2 hs
      rw [show pickV ((shrK n 512).set s ((shr n 512 s : Int) + 1)) s = .tuple #[.agg #[.int .i64 1, .int .i64 (wF s j : Nat), .int .i64 (pw j : Nat), .int .i64 4096], .int .i64 0] by
        unfold pickV
        rw [pick_win (l := (shrK n 512).set s ((shr n 512 s : Int) + 1)) hj]
        rw [List.length_set, shrK_len]
        rfl] at C
      clear hj hg1 hget HS
      generalize wF s j = f1 at C
      generalize pw j = m1 at C
      generalize (shrK n 512).set s ((shr n 512 s : Int) + 1) = l1 at HS1
      generalize shr n 512 s = x at *
      go_wp2_with fail
      refine C.out.mono ?_
      clear C c0 f0
      rintro e w1 ⟨rfl, hb⟩
      have HS := Aside0.mk ((HS1.out.step hb).new_blk #[.int .i64 1, .int .i64 f1, .int .i64 m1, .int .i64 4096] 41)
      clear hb HS1
      have c0 : (_ : Option Value) = some (.int .i64 1) := (blk_cell (HS.out.blk 1 rfl) 0).trans rfl
      go_wp2
      clear c0 hx
      replace HS := Aside0.mk (HS.out.push (Below.refl _ _) (S1.Own (.slice none 0 0) []) (own_nil _ _ _ _) (fun k hk => by simp [S1.Own, Value.ownBlock] at hk))
      go_loopg [11, 12] 513 (fun kq v11 v12 W => ∃ k : Nat, v12 = .int .i64 k ∧ k ≤ 512 ∧ Aside0 (512 - k ≤ kq) ∧ Aside0 (Sep w W [S1.Own (.slice (some ⟨b, 0, none⟩) 512 c) l1, Blk w1.heap.size #[.int .i64 1, .int .i64 f1, .int .i64 m1, .int .i64 4096] 41, S1.Own v11 (List.replicate k 5)]))
      case atStart => exact ⟨0, rfl, by omega, ⟨by omega⟩, HS⟩
      case round =>
        clear HS
        obtain ⟨k, rfl, hk, HQ2, HS⟩ := hrel
        by_cases hlt : k < 512
        · have HL := Aside0.mk (rep_len0 k (5 : Int))
          go_wp2_with ((with_reducible refine gate_builtin (b := .append) (xs := #[.tmp 76, .tmp 77]) rfl ?_); at_builtin; refine sep_append rfl (.tmp 76) (.tmp 77) rfl HS.out 2 rfl 5 rfl rfl (by rw [HL.out]; omega) ?_; intro v1 w2 hs2; have HS2 := Aside0.mk hs2; clear hs2)
          go_roundg (512 - (k + 1))
          case measure => have := HQ2.out; omega
          case rel => exact ⟨k + 1, by go_num, by omega, ⟨Nat.le_refl _⟩, ⟨by rw [List.replicate_succ']; exact HS2.out⟩⟩
        · obtain rfl : k = 512 := by omega
          clear hlt hk
          obtain ⟨b2, d, e5⟩ := sep_form HS.out (i := 2) rfl (by rw [rep_len0]; omega)
          rw [rep_len0] at e5
          subst e5
          obtain ⟨c0, f0⟩ := sep_cell HS.out (i := 2) rfl hs
          rw [rep_get 5 hs] at c0
          have HS1 := Aside0.mk (sep_store HS.out (i := 2) rfl s 8)
          have hg1 := good_set (good_rep 512 (v := 5) (by omega) (by omega)) s (v := 8) (by omega) (by omega)
          have C := Aside0.mk (pick_512 HS1.out (i := 2) rfl (Kd.C_below HT.out HS1.out.below) hg1 hs)
          obtain ⟨j, hj, hj1⟩ := full_two hs
          have hm2 : 2 ≤ pw j := by
            unfold pw
            exact Nat.le_trans (by decide : 2 ≤ 2 ^ 1) (Nat.pow_le_pow_right (by omega) hj1)
          rw [show pickV ((List.replicate 512 5).set s 8) s = .tuple #[.agg #[.int .i64 1, .int .i64 (wF s j : Nat), .int .i64 (pw j : Nat), .int .i64 4096], .int .i64 0] by
            unfold pickV
            rw [pick_win hj]
            rw [rep_len]
            rfl] at C
          clear hj hg1 HS
          generalize wF s j = f2 at C
          generalize pw j = m2 at C hm2
          have HLn := Aside0.mk (rep_len 512 s (5 : Int) 8)
          generalize (List.replicate 512 (5 : Int)).set s 8 = l2 at *
          have q1 : ¬ (m2 : Int) < 2 := by omega
          go_wp2_with fail
          refine C.out.mono ?_
          clear C c0 f0
          rintro e w3 ⟨rfl, hb⟩
          have HS := Aside0.mk ((HS1.out.step hb).new_blk #[.int .i64 1, .int .i64 f2, .int .i64 m2, .int .i64 4096] 41)
          clear hb HS1
          have c0 : (_ : Option Value) = some (.int .i64 1) := (blk_cell (HS.out.blk 3 rfl) 0).trans rfl
          have c2 : (_ : Option Value) = some (.int .i64 m2) := (blk_cell (HS.out.blk 3 rfl) 2).trans rfl
          go_wp2
          clear c0 c2
          go_loopg [15] 513 (fun kq v15 W => ∃ k : Nat, v15 = .int .i64 k ∧ k ≤ 512 ∧ Aside0 (512 - k ≤ kq) ∧ Aside0 (Sep w W [S1.Own (.slice (some ⟨b, 0, none⟩) 512 c) l1, Blk w1.heap.size #[.int .i64 1, .int .i64 f1, .int .i64 m1, .int .i64 4096] 41, S1.Own (.slice (some ⟨b2, 0, none⟩) 512 d) (sev l2 k), Blk w3.heap.size #[.int .i64 1, .int .i64 f2, .int .i64 m2, .int .i64 4096] 41]))
          case atStart => exact ⟨0, rfl, by omega, ⟨by omega⟩, HS⟩
          case round =>
            clear HS
            obtain ⟨k, rfl, hk, HQ3, HS⟩ := hrel
            by_cases hlt : k < 512
            · obtain ⟨c0, f0⟩ := sep_cell HS.out (i := 2) rfl hlt
              generalize (sev l2 k).getD k 0 = x9 at c0
              have HS2 := Aside0.mk (sep_store HS.out (i := 2) rfl k 7)
              have HU := Aside0.mk (sev_set (l := l2) (k := k) (by rw [HLn.out]; exact hlt))
              go_wp2
              go_roundg (512 - (k + 1))
              case measure => have := HQ3.out; omega
              case rel => exact ⟨k + 1, by go_num, by omega, ⟨Nat.le_refl _⟩, ⟨by rw [← HU.out]; exact HS2.out⟩⟩
            · obtain rfl : k = 512 := by omega
              clear hlt hk
              have hse : sev l2 512 = List.replicate 512 7 := by
                have := sev_all (l := l2)
                rw [HLn.out] at this
                exact this
              rw [hse] at HS
              clear hse
              obtain ⟨c0, f0⟩ := sep_cell HS.out (i := 2) rfl hs
              rw [rep_get 7 hs] at c0
              have HS1 := Aside0.mk (sep_store HS.out (i := 2) rfl s 8)
              have hg1 := good_set (good_rep 512 (v := 7) (by omega) (by omega)) s (v := 8) (by omega) (by omega)
              have C := Aside0.mk (pick_512 HS1.out (i := 2) rfl (Kd.C_below HT.out HS1.out.below) hg1 hs)
              rw [show pickV ((List.replicate 512 7).set s 8) s = .tuple #[.agg #[.int .i64 0, .int .i64 0, .int .i64 0, .int .i64 0], .int .i64 16] by
                unfold pickV
                rw [full_three hs]] at C
              clear hg1 HS
              generalize (List.replicate 512 (7 : Int)).set s 8 = l3 at *
              have g1 : eqB (0, 0, 0, 0) (0, 0, 0, 0) = true := decide_eq_true rfl
              go_wp2_with fail
              refine C.out.mono ?_
              clear C c0 f0
              rintro e w4 ⟨rfl, hb⟩
              have HS := Aside0.mk ((HS1.out.step hb).new_blk #[.int .i64 0, .int .i64 0, .int .i64 0, .int .i64 0] 41)
              clear hb HS1
              have c0 : (_ : Option Value) = some (.int .i64 0) := (blk_cell (HS.out.blk 4 rfl) 0).trans rfl
              have c1 : (_ : Option Value) = some (.int .i64 0) := (blk_cell (HS.out.blk 4 rfl) 1).trans rfl
              have c2 : (_ : Option Value) = some (.int .i64 0) := (blk_cell (HS.out.blk 4 rfl) 2).trans rfl
              have c3 : (_ : Option Value) = some (.int .i64 0) := (blk_cell (HS.out.blk 4 rfl) 3).trans rfl
              have C := Aside0.mk (N4.awake_any _ (Kd.C_below HT.out HS.out.below))
              go_wp2_with fail
              refine C.out.mono ?_
              clear C
              rintro e w9 ⟨rfl, hb⟩
              replace HS := Aside0.mk (HS.out.step hb)
              clear hb
              go_wp2
              (try rw [Exit.noGoto_ret])
              go_ret
              exact ⟨rfl, HS.out.below⟩
theorem law (n : Int) (wn : (Lit.int .i64 n).wf = true) (s : Int) (ws : (Lit.int .i64 s).wf = true) (W : World) (hT : Tb W) :
    Calls Tryd.prog 13 #[.int .i64 n, .int .i64 s] W fun e w' => e = .returned (.bool true) ∧ Below W.heap.size W w' := by
  by_cases h : n < 2000 ∨ 2560 < n ∨ s < 0 ∨ 511 < s
  · exact full_no hT h
  · obtain ⟨a, rfl⟩ := Int.eq_ofNat_of_zero_le (show 0 ≤ n by omega)
    obtain ⟨b, rfl⟩ := Int.eq_ofNat_of_zero_le (show 0 ≤ s by omega)
    exact full_yes hT (by omega) (by omega) (by omega)
end Go.Proofs.YtlaegahdignphaaDoor.N8

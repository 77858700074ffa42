/- Contracts of the layer's printed functions, told by what they mean; and the law's examples. -/
import Derived.Test.YtmjfnifdgneooaaA11
import Derived.Test.YtmjfnifdgneooaaA3
namespace Go.Proofs.Ytmjfnifdgneooaa.A12
open Go.RowKit Go.Proofs.YtmjfnifdgneooaaW.PrintWords Go.Proofs.YtmjfnifdgneooaaW.PrintLast Go.Proofs.YtmjfnifdgneooaaW.PrintMore B1 A1 B2 B3 B4 B5 A2 A8 A9 A10 A11
set_option linter.unusedVariables false
set_option linter.unusedSimpArgs false

/-- A row known whole is read. -/
theorem C_of_blk {w : World} {g : Nat} {l : List Int} (h : w.heap[g]? = some (.cells (nums .i64 l).toArray 3 (0, 0))) (hl : l.length ≤ 1000000000) : Kd.C (Kd.int .i64) w (some ⟨g, 0, none⟩) l.length l := by
  refine ⟨rfl, by omega, fun _ => ⟨_, rfl, fun j p hp => ⟨[.int .i64 p], rfl, rfl, fun i u hu => ?_⟩⟩⟩
  obtain ⟨rfl, rfl⟩ : i = 0 ∧ u = .int .i64 p := by
    cases i with
    | zero => exact ⟨rfl, by simpa using hu.symm⟩
    | succ i => simp at hu
  rw [add_plain]
  refine (blk_cell h _).trans ?_
  show (nums .i64 l).toArray[j * 1 + 0]? = _
  simp [nums, hp]
theorem rank_any (A : Option Addr) (c : Nat) (l : List Int) (key : Int) (w : World) (hr : Kd.C (Kd.int .i64) w A l.length l) (hc : l.length ≤ c) (hlen : l.length ≤ 1000000) :
    Calls Try.prog 24 #[.agg #[.slice A l.length c], .int .i64 key] w fun e w' => e = .returned (.tuple #[.int .i64 (srch l key 0).1, .int .i64 (srch l key 0).2]) ∧ Below w.heap.size w w' := by
  have h := rank_f l key (by omega) l.length (l.length + l.length + 1) 0 0 0 (by omega) (by omega) (by omega) (by have := cnt_le l.length 0; omega) (by omega)
  simp only [Nat.zero_add] at h
  exact PBfsSearches.bfs_Layout_Rank.calls _ A c l key _ _ w hr hc h
theorem search_any (A : Option Addr) (c : Nat) (l : List Int) (key : Int) (w : World) (hr : Kd.C (Kd.int .i64) w A l.length l) (hc : l.length ≤ c) (hlen : l.length ≤ 1000000) :
    Calls Try.prog 25 #[.slice A l.length c, .int .i64 key, .int .i64 0] w fun e w' => e = .returned (.tuple #[.int .i64 (srch l key 0).1, .int .i64 (srch l key 0).2]) ∧ Below w.heap.size w w' := by
  have h := search_f l key (by omega) l.length (l.length + l.length + 1) 0 (by omega) (by omega) (by omega) (by omega)
  exact PBfsSearches.punnetref18_Search.calls _ A c l key 0 _ _ w hr hc h
theorem place_no (n many : Int) (w : World) (h : ¬ (1 ≤ many ∧ many ≤ 65536 ∧ 0 ≤ n ∧ n < many)) : Calls Try.prog 26 #[.int .i64 n, .int .i64 many] w fun e w' => e = .returned (.tuple #[.int .i64 0, .int .i64 10]) ∧ Below w.heap.size w w' :=
  PBfsSearches.bfs_Place.calls 0 n many 0 10 w (by unfold PBfsSearches.bfs_Place.f; rw [may_f, decide_eq_false h]; rfl)
theorem size_no (n many : Int) (w : World) (h : ¬ (1 ≤ many ∧ many ≤ 65536 ∧ 0 ≤ n ∧ n < many)) : Calls Try.prog 27 #[.int .i64 n, .int .i64 many] w fun e w' => e = .returned (.tuple #[.int .i64 0, .int .i64 10]) ∧ Below w.heap.size w w' :=
  PBfsSearches.bfs_Size.calls 0 n many 0 10 w (by unfold PBfsSearches.bfs_Size.f; rw [may_f, decide_eq_false h]; rfl)
theorem place_yes (n many : Nat) (w : World) (h : many ≤ 65536) (hn : n < many) : Calls Try.prog 26 #[.int .i64 n, .int .i64 many] w fun e w' => e = .returned (.tuple #[.int .i64 ((inOrd many 0).getD n 0 : Nat), .int .i64 0]) ∧ Below w.heap.size w w' :=
  PBfsSearches.bfs_Place.calls (many + many + 1) n many _ 0 w (by
    unfold PBfsSearches.bfs_Place.f
    rw [may_f, decide_eq_true (by omega)]
    exact place_f h many _ n 0 (by omega) (by omega) (by unfold cnt; rw [length_zero]; exact hn))
theorem size_yes (n many : Nat) (w : World) (h : many ≤ 65536) (hn : n < many) : Calls Try.prog 27 #[.int .i64 n, .int .i64 many] w fun e w' => e = .returned (.tuple #[.int .i64 (cnt many n), .int .i64 0]) ∧ Below w.heap.size w w' :=
  PBfsSearches.bfs_Size.calls (many + 1) n many _ 0 w (by
    unfold PBfsSearches.bfs_Size.f
    rw [may_f, decide_eq_true (by omega)]
    simp only [Option.bind_some, if_true]
    rw [size_any n (by omega) _ (by omega)]
    rfl)
theorem refOrder_any (p many : Nat) (w : World) (hm : many ≤ 1000000) (hp : p ≤ 2 * many + 2) : Calls Try.prog 28 #[.int .i64 p, .int .i64 many] w fun e w' => ∃ (A : Option Addr) (c : Nat), e = .returned (.slice A (nat (inOrd many p)).length c) ∧ (nat (inOrd many p)).length ≤ c ∧ Kd.C (Kd.int .i64) w' A (nat (inOrd many p)).length (nat (inOrd many p)) ∧ Below w.heap.size w w' := by
  refine (PBfsSearches.punnetref18_Order.calls (many + 1) p many _ w (order_fPBfsSearches (by omega) many _ p (by omega) (by omega) hp)).mono ?_
  rintro e w' ⟨v, rfl, hR, hb⟩
  obtain ⟨A, c, rfl, hl, hC⟩ := Kd.R_reads hR
  exact ⟨A, c, rfl, hl, hC, hb⟩
theorem refSorted_any (A0 : Option Addr) (c0 : Nat) (l : List Int) (w : World) (hr : Kd.C (Kd.int .i64) w A0 l.length l) (hc : l.length ≤ c0) (hlen : l.length ≤ 1000000) :
    Calls Try.prog 33 #[.slice A0 l.length c0] w fun e w' => ∃ (A : Option Addr) (c : Nat), e = .returned (.slice A (sortedOf l).length c) ∧ (sortedOf l).length ≤ c ∧ Kd.C (Kd.int .i64) w' A (sortedOf l).length (sortedOf l) ∧ Below w.heap.size w w' := by
  obtain ⟨k, hk⟩ := refSorted_f l (by omega)
  refine (PBfsOf.punnetref18_Sorted.calls k A0 c0 l _ w hr hc hk).mono ?_
  rintro e w' ⟨v, rfl, hR, hb⟩
  obtain ⟨A, c, rfl, hl, hC⟩ := Kd.R_reads hR
  exact ⟨A, c, rfl, hl, hC, hb⟩
theorem refOf_any (A0 : Option Addr) (c0 : Nat) (l : List Int) (w : World) (hr : Kd.C (Kd.int .i64) w A0 l.length l) (hc : l.length ≤ c0) (hlen : l.length ≤ 1000000) :
    Calls Try.prog 34 #[.slice A0 l.length c0] w fun e w' => ∃ (A : Option Addr) (c : Nat), e = .returned (.slice A (layOf l).length c) ∧ (layOf l).length ≤ c ∧ Kd.C (Kd.int .i64) w' A (layOf l).length (layOf l) ∧ Below w.heap.size w w' := by
  obtain ⟨k, hk⟩ := refOf_f l (by omega)
  refine (PBfsOf.punnetref18_Of.calls k A0 c0 l _ w hr hc hk).mono ?_
  rintro e w' ⟨v, rfl, hR, hb⟩
  obtain ⟨A, c, rfl, hl, hC⟩ := Kd.R_reads hR
  exact ⟨A, c, rfl, hl, hC, hb⟩
theorem ints_f (l : List Int) (hl : l.length ≤ 1000000) : ∃ k, PBfsSearches.punnetlaw18_ints.f k l l = some true := by
  have go : ∀ (d i k : Nat), i + d = l.length → d < k → PBfsSearches.punnetlaw18_ints.l0 k l l i = some true := by
    intro d
    induction d with
    | zero =>
      intro i k hd hk
      obtain ⟨k, rfl⟩ : ∃ j, k = j + 1 := ⟨k - 1, by omega⟩
      simp only [PBfsSearches.punnetlaw18_ints.l0]
      rw [if_neg (by omega)]
    | succ d ih =>
      intro i k hd hk
      obtain ⟨k, rfl⟩ : ∃ j, k = j + 1 := ⟨k - 1, by omega⟩
      simp only [PBfsSearches.punnetlaw18_ints.l0]
      rw [if_pos (by omega), if_pos (by omega), if_pos (by omega), if_true, wr _ (by omega)]
      exact ih (i + 1) k (by omega) (by omega)
  refine ⟨l.length + 1, ?_⟩
  unfold PBfsSearches.punnetlaw18_ints.f
  rw [if_pos rfl]
  exact go l.length 0 _ (by omega) (by omega)
theorem ints_eq (A0 : Option Addr) (c0 : Nat) (l : List Int) (A1 : Option Addr) (c1 : Nat) (m : List Int) (w : World) (hr : Kd.C (Kd.int .i64) w A0 l.length l) (hc : l.length ≤ c0) (hr1 : Kd.C (Kd.int .i64) w A1 m.length m) (hc1 : m.length ≤ c1) (hlen : l.length ≤ 1000000) (h : l = m) :
    Calls Try.prog 31 #[.slice A0 l.length c0, .slice A1 m.length c1] w fun e w' => e = .returned (.bool true) ∧ Drawn0 w w' := by
  subst h
  obtain ⟨k, hk⟩ := ints_f l hlen
  exact PBfsSearches.punnetlaw18_ints.calls k A0 c0 l A1 c1 l true w hr hc hr1 hc1 hk

set_option maxHeartbeats 1000000 in
theorem awake_any (w : World) : Calls Try.prog 23 #[] w fun e w' => e = .returned (.bool true) ∧ Below w.heap.size w w' := by
  have HR := Aside0.mk (lit_reads w [1, 2, 3, 4, 5, 6] (by decide))
  have HB := Aside0.mk (below_alloc (Below.refl w.heap.size w) (.cells ([1, 2, 3, 4, 5, 6].map (Value.int .i64)).toArray 3))
  have E1 : layOf [1, 2, 3, 4, 5, 6] = [4, 2, 6, 1, 3, 5] := by
    have e : inOrd 6 0 = [3, 1, 4, 0, 5, 2] := by simp [inOrd]
    unfold layOf
    simp [e, fill]
  go_enter Try.func23, Try.ntmps23
  go_wp2_with fail
  refine (of_yes _ _ [1, 2, 3, 4, 5, 6] _ HR.out (by decide) (by decide) rfl).mono ?_
  rintro e w1 ⟨g, hg, rfl, hk, hb⟩
  rw [E1] at hk
  replace HB := Aside0.mk (below_step HB.out hb)
  have K := Aside0.mk (blk_alloc hk (.cells #[.slice (some ⟨g, 0, none⟩) 6 6] 43))
  have L := Aside0.mk (blk_new w1 (.cells #[.slice (some ⟨g, 0, none⟩) 6 6] 43))
  replace HB := Aside0.mk (below_alloc HB.out (.cells #[.slice (some ⟨g, 0, none⟩) 6 6] 43))
  clear hk hb hg
  go_wp2_with fail
  refine (rank_any (some ⟨g, 0, none⟩) 6 [4, 2, 6, 1, 3, 5] 5 _ (C_of_blk K.out (by decide)) (by decide) (by decide)).mono ?_
  rintro e w1 ⟨rfl, hw⟩
  have hb := hw
  clear hw
  replace HB := Aside0.mk (below_step HB.out hb)
  replace K := Aside0.mk (blk_below K.out hb)
  replace L := Aside0.mk (blk_below L.out hb)
  replace L_c0 : (_ : Option Value) = some (.slice (some ⟨g, 0, none⟩) 6 6) := (blk_cell L.out 0).trans rfl
  clear hb
  go_wp2_with fail
  refine (place_yes 0 6 _ (by decide) (by decide)).mono ?_
  rintro e w2 ⟨rfl, hw⟩
  have hb := hw
  clear hw
  replace HB := Aside0.mk (below_step HB.out hb)
  replace K := Aside0.mk (blk_below K.out hb)
  replace L := Aside0.mk (blk_below L.out hb)
  replace L_c0 : (_ : Option Value) = some (.slice (some ⟨g, 0, none⟩) 6 6) := (blk_cell L.out 0).trans rfl
  clear hb
  go_wp2_with fail
  refine (size_yes 2 6 _ (by decide) (by decide)).mono ?_
  rintro e w3 ⟨rfl, hw⟩
  have hb := hw
  clear hw
  replace HB := Aside0.mk (below_step HB.out hb)
  replace K := Aside0.mk (blk_below K.out hb)
  replace L := Aside0.mk (blk_below L.out hb)
  replace L_c0 : (_ : Option Value) = some (.slice (some ⟨g, 0, none⟩) 6 6) := (blk_cell L.out 0).trans rfl
  clear hb
  have K2 := Aside0.mk (blk_alloc K.out (.cells ([4, 2, 6, 1, 3, 5].map (Value.int .i64)).toArray 3))
  have HR2 := Aside0.mk (lit_reads w3 [4, 2, 6, 1, 3, 5] (by decide))
  replace HB := Aside0.mk (below_alloc HB.out (.cells ([4, 2, 6, 1, 3, 5].map (Value.int .i64)).toArray 3))
  have E2 : srch [4, 2, 6, 1, 3, 5] 5 0 = (4, 3) := by simp [srch, cnt, inOrd]
  have E3 : ((inOrd 6 0)[0]?.getD 0) = 3 := by simp [inOrd]
  have E4 : cnt 6 2 = 2 := by simp [cnt, inOrd]
  simp only [E2, E3, E4]
  clear E2 E3 E4 E1
  go_wp2_with fail
  refine (ints_eq _ _ [4, 2, 6, 1, 3, 5] _ _ [4, 2, 6, 1, 3, 5] _ (C_of_blk K2.out (by decide)) (by decide) HR2.out (by decide) (by decide) rfl).mono ?_
  rintro e w5 ⟨rfl, hw⟩
  go_wp2
  go_ret
  exact ⟨rfl, below_step HB.out hw.below⟩
end Go.Proofs.Ytmjfnifdgneooaa.A12

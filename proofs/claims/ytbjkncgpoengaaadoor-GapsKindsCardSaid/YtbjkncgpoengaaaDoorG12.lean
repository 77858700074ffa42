/- The chapter's example, of arrays with gaps. -/
import Derived.Test.YtbjkncgpoengaaaDoorG11
namespace Go.Proofs.YtbjkncgpoengaaaDoor.G12
open Go.RowKit Go.Proofs.YtbjkncgpoengaaaDoorW.PrintWords Go.Proofs.YtbjkncgpoengaaaDoorW.PrintLast Go.Proofs.YtbjkncgpoengaaaDoorW.PrintMore G1 G0 Q1 G2 G3 G4 G5 G6 G7 G8 G9 G10 G11
set_option linter.unusedVariables false
set_option linter.unusedSimpArgs false

theorem ints_f (l : List Int) (hl : l.length ≤ 1000000) : ∃ k, punnetlaw02_ints.f k l l = some true := by
  have go : ∀ (d i k : Nat), i + d = l.length → d < k → punnetlaw02_ints.l0 k l l i = some true := by
    intro d
    induction d with
    | zero =>
      intro i k hd hk
      obtain ⟨k, rfl⟩ : ∃ j, k = j + 1 := ⟨k - 1, by omega⟩
      simp only [punnetlaw02_ints.l0]
      rw [if_neg (by omega)]
    | succ d ih =>
      intro i k hd hk
      obtain ⟨k, rfl⟩ : ∃ j, k = j + 1 := ⟨k - 1, by omega⟩
      simp only [punnetlaw02_ints.l0]
      rw [if_pos (by omega), if_pos (by omega), if_pos (by omega), if_true, wr _ (by omega)]
      exact ih (i + 1) k (by omega) (by omega)
  refine ⟨l.length + 1, ?_⟩
  unfold punnetlaw02_ints.f
  rw [if_pos rfl]
  exact go l.length 0 _ (by omega) (by omega)
theorem ints_same (n : Nat) (l : List Int) (A0 : Option Addr) (c0 : Nat) (A1 : Option Addr) (c1 : Nat) (w : World) (hr : Kd.C (Kd.int .i64) w A0 n l) (hc : n ≤ c0) (hr1 : Kd.C (Kd.int .i64) w A1 n l) (hc1 : n ≤ c1) (hlen : n ≤ 1000000) :
    Calls Tryd.prog 22 #[.slice A0 n c0, .slice A1 n c1] w fun e w' => e = .returned (.bool true) ∧ Drawn0 w w' := by
  obtain rfl : l.length = n := hr.1
  obtain ⟨k, hk⟩ := ints_f l hlen
  exact punnetlaw02_ints.calls k A0 c0 l A1 c1 l true w hr hc hr1 hc1 hk
def s0 : Gap := ⟨fun _ => false, List.replicate 8 0⟩
def s1 : Gap := putS 8 s0 1 5
def s2 : Gap := putS 8 s1 4 7
def s3 : Gap := moveS 8 s2 1 3
set_option maxHeartbeats 1000000 in
theorem awake_any (w : World) (hT : Tb w) : Calls Tryd.prog 13 #[] w fun e w' => e = .returned (.bool true) ∧ Below w.heap.size w w' := by
  have HT := Aside0.mk hT
  have R1 := Aside0.mk (show putR 8 s0 1 = 0 by decide)
  have R2 := Aside0.mk (show putR 8 s1 4 = 0 by decide)
  have R3 := Aside0.mk (show moveR 8 s2 1 3 = 0 by decide)
  have R4 := Aside0.mk (show takeR 8 s3 0 = (0, 14) by decide)
  have R5 := Aside0.mk (show moveR 8 (takeS 8 s3 0) 3 4 = 15 by decide)
  have V1 := Aside0.mk (show vals (ons (takeS 8 s3 0).on (takeS 8 s3 0).xs 8) = [5, 7] by decide)
  have V2 := Aside0.mk (show keys (ons (takeS 8 s3 0).on (takeS 8 s3 0).xs 8) = [3, 4] by decide)
  have V3 := Aside0.mk (show cntF (takeS 8 s3 0).on 8 = 2 by decide)
  clear hT
  go_enter Tryd.func13, Tryd.ntmps13
  go_wp2_with fail
  refine (gnew_yes 8 w (by decide) (by decide)).mono ?_
  rintro e w1 ⟨p, sb, ob, wb, rfl, hb4, hS, hB⟩
  have H4 := Aside0.mk hb4
  have HS : Aside0 (Is w1 p sb ob wb 8 s0) := ⟨⟨_, hS⟩⟩
  have HB := Aside0.mk hB
  clear hb4 hS hB
  have C := Aside0.mk (put_any HS.out 1 5)
  rw [R1.out] at C
  go_wp2_with fail
  refine C.out.mono ?_
  clear C HS
  rintro e w2 ⟨rfl, hs, ho⟩
  have HS := Aside0.mk hs
  replace HB := Aside0.mk (ho.below HB.out HB.out.size (fun k hk => by rcases hk with rfl | rfl; exact H4.out.2.1; exact H4.out.2.2.2))
  clear hs ho
  have C := Aside0.mk (put_any HS.out 4 7)
  rw [show putR 8 (putS 8 s0 1 5) 4 = 0 from R2.out] at C
  go_wp2_with fail
  refine C.out.mono ?_
  clear C HS
  rintro e w3 ⟨rfl, hs, ho⟩
  have HS := Aside0.mk hs
  replace HB := Aside0.mk (ho.below HB.out HB.out.size (fun k hk => by rcases hk with rfl | rfl; exact H4.out.2.1; exact H4.out.2.2.2))
  clear hs ho
  have C := Aside0.mk (move_any HS.out 1 3)
  rw [show moveR 8 (putS 8 (putS 8 s0 1 5) 4 7) 1 3 = 0 from R3.out] at C
  go_wp2_with fail
  refine C.out.mono ?_
  clear C HS
  rintro e w4 ⟨rfl, hs, ho⟩
  have HS := Aside0.mk hs
  replace HB := Aside0.mk (ho.below HB.out HB.out.size (fun k hk => by rcases hk with rfl | rfl; exact H4.out.2.1; exact H4.out.2.2.2))
  clear hs ho
  have C := Aside0.mk (take_any HS.out 0)
  rw [show takeR 8 (moveS 8 (putS 8 (putS 8 s0 1 5) 4 7) 1 3) 0 = (0, 14) from R4.out] at C
  go_wp2_with fail
  refine C.out.mono ?_
  clear C HS
  rintro e w5 ⟨rfl, hs, ho⟩
  have HS := Aside0.mk hs
  replace HB := Aside0.mk (ho.below HB.out HB.out.size (fun k hk => by rcases hk with rfl | rfl; exact H4.out.2.1; exact H4.out.2.2.2))
  clear hs ho
  obtain ⟨vs, hs⟩ := HS.out
  have C := Aside0.mk (items_any hs (Kd.C_below HT.out HB.out))
  rw [show vals (ons (takeS 8 (moveS 8 (putS 8 (putS 8 s0 1 5) 4 7) 1 3) 0).on (takeS 8 (moveS 8 (putS 8 (putS 8 s0 1 5) 4 7) 1 3) 0).xs 8) = [5, 7] from V1.out, show cntF (takeS 8 (moveS 8 (putS 8 (putS 8 s0 1 5) 4 7) 1 3) 0).on 8 = 2 from V3.out] at C
  clear hs
  go_wp2_with fail
  refine C.out.mono ?_
  clear C
  rintro e w6 ⟨A, c, rfl, hc, hC, _, hb⟩
  have HL := Aside0.mk (lit_reads w6 [5, 7] (by decide))
  have hb2 := below_alloc hb (.cells ([5, 7].map (Value.int .i64)).toArray 3)
  have HC := Aside0.mk (Kd.C_below hC (below_alloc (Below.refl w6.heap.size w6) (.cells ([5, 7].map (Value.int .i64)).toArray 3)))
  replace HS := Aside0.mk (Is.below HS.out hb2)
  replace HB := Aside0.mk (below_step HB.out hb2)
  clear hb hb2 hC
  go_wp2_with fail
  refine (ints_same 2 [5, 7] A c _ _ _ HC.out hc HL.out (by decide) (by decide)).mono ?_
  rintro e w7 ⟨rfl, hw⟩
  replace HS := Aside0.mk (Is.below HS.out hw.below)
  replace HB := Aside0.mk (below_step HB.out hw.below)
  clear hw HC HL hc
  obtain ⟨vs, hs⟩ := HS.out
  have C := Aside0.mk (places_any hs (Kd.C_below HT.out HB.out))
  rw [show keys (ons (takeS 8 (moveS 8 (putS 8 (putS 8 s0 1 5) 4 7) 1 3) 0).on (takeS 8 (moveS 8 (putS 8 (putS 8 s0 1 5) 4 7) 1 3) 0).xs 8) = [3, 4] from V2.out, show cntF (takeS 8 (moveS 8 (putS 8 (putS 8 s0 1 5) 4 7) 1 3) 0).on 8 = 2 from V3.out] at C
  clear hs
  go_wp2_with fail
  refine C.out.mono ?_
  clear C
  rintro e w8 ⟨A2, c2, rfl, hc, hC, _, hb⟩
  have HL := Aside0.mk (lit_reads w8 [3, 4] (by decide))
  have hb2 := below_alloc hb (.cells ([3, 4].map (Value.int .i64)).toArray 3)
  have HC := Aside0.mk (Kd.C_below hC (below_alloc (Below.refl w8.heap.size w8) (.cells ([3, 4].map (Value.int .i64)).toArray 3)))
  replace HS := Aside0.mk (Is.below HS.out hb2)
  replace HB := Aside0.mk (below_step HB.out hb2)
  clear hb hb2 hC
  go_wp2_with fail
  refine (ints_same 2 [3, 4] A2 c2 _ _ _ HC.out hc HL.out (by decide) (by decide)).mono ?_
  rintro e w9 ⟨rfl, hw⟩
  replace HS := Aside0.mk (Is.below HS.out hw.below)
  replace HB := Aside0.mk (below_step HB.out hw.below)
  clear hw HC HL hc
  have C := Aside0.mk (move_any HS.out 3 4)
  rw [show moveR 8 (takeS 8 (moveS 8 (putS 8 (putS 8 s0 1 5) 4 7) 1 3) 0) 3 4 = 15 from R5.out] at C
  go_wp2_with fail
  refine C.out.mono ?_
  clear C HS
  rintro e w10 ⟨rfl, hs, ho⟩
  have HS := Aside0.mk hs
  replace HB := Aside0.mk (ho.below HB.out HB.out.size (fun k hk => by rcases hk with rfl | rfl; exact H4.out.2.1; exact H4.out.2.2.2))
  clear hs ho
  go_wp2
  go_ret
  exact ⟨rfl, HB.out⟩
end Go.Proofs.YtbjkncgpoengaaaDoor.G12

/- The law SizeKinds walked: it returns true, whatever the array and the number of slots. -/
import Derived.Test.YtofkkdjbilklcaaDoorY9
import Derived.Test.YtofkkdjbilklcaaDoorHR
namespace Go.Proofs.YtofkkdjbilklcaaDoor.HK
open Go.RowKit Go.Shelf Go.Proofs.YtofkkdjbilklcaaDoorW.PrintWords Go.Proofs.YtofkkdjbilklcaaDoorW.PrintLast Go.Proofs.YtofkkdjbilklcaaDoorW.PrintMore G1 G0 Q1 G2 G3 G4 G6 G8 G9 S1 Y1 Y3 Y2 Y5 Y6 Y7 Y9
open G5 (cap_any)
open G10 (Gap inR putR putS)
open L1 (capB)
open Y4 (cap_nat)
open HS (gnew_yes put_any ArrS sep_arr sep_new sep_turn fnT Tell resize_told resize_nil celled_arrS)
set_option linter.unusedVariables false
set_option linter.unusedSimpArgs false
/-- The texts: "x" for all but 0. -/
def txk (x : Int) : ByteArray := if x = 0 then ⟨#[]⟩ else ⟨#[120]⟩
theorem txk_zero : txk 0 = ⟨#[]⟩ := rfl
theorem txk_one : txk 1 = ⟨#[120]⟩ := rfl
/-- How many are heard. -/
def cntX (pre : List (Nat × Int)) : Nat := (pre.filter fun a => a.2 != 0).length
def TK (x : Nat) : Unit → List (Nat × Int) → List Ob := fun _ pre => [Blk x #[.int .i64 (cntX pre : Int)] 3]
theorem cntX_le (pre : List (Nat × Int)) : cntX pre ≤ pre.length := List.length_filter_le _ _
theorem tell_K {w0 : World} {N x : Nat} {ps : List Int} (hN : N ≤ 1000000) : Tell txk w0 N ps x (TK x) := by
  refine ⟨fun s pre o ho => ?_, fun s pre a W L hlt hs => ?_⟩
  · rw [List.mem_singleton.1 ho]; exact celled_blk _ _ _
  · have HS := Aside0.mk hs
    have c0 : (_ : Option Value) = some (.int .i64 (cntX pre : Int)) := (blk_cell (hs.blk 0 rfl) 0).trans rfl
    have f0 := blk_frozen (hs.blk 0 rfl) 0
    have hb := cntX_le pre
    have b1 : (cntX pre : Int) ≤ 1000000 := by omega
    have b0 : (0 : Int) ≤ (cntX pre : Int) := by omega
    obtain ⟨f, v⟩ := a
    dsimp only
    have HOn := Aside0.mk (Only.set (fun b => ∃ o ∈ TK x s pre, b ∈ o.F) W (p := ⟨x, 0, none⟩) ⟨_, List.mem_singleton.2 rfl, List.mem_singleton.2 rfl⟩ (.int .i64 ((cntX pre : Int) + 1)))
    have HS2 := Aside0.mk (hs.turn_blk 0 rfl 0 (.int .i64 ((cntX pre : Int) + 1)))
    generalize hy : ps.getD pre.length 0 = y
    by_cases hv : v = 0
    · have HE : Aside0 (cntX (pre ++ [(f, v)]) = cntX pre) := ⟨by simp [cntX, List.filter_append, hv]⟩
      have e : txk v = ⟨#[]⟩ := by rw [hv]; rfl
      have d : ((⟨#[]⟩ : ByteArray) == ⟨#[120]⟩) = false := rfl
      rw [e]
      clear hs hlt hb hv e HS2 HOn
      go_enter Tryd.func46, Tryd.ntmps46
      go_wp2
      go_end0
      refine ⟨rfl, (), ?_, Only.refl _ _⟩
      unfold TK
      rw [HE.out]
      exact HS.out
    · have HE : Aside0 (cntX (pre ++ [(f, v)]) = cntX pre + 1) := ⟨by simp [cntX, List.filter_append, hv]⟩
      have e : txk v = ⟨#[120]⟩ := by unfold txk; rw [if_neg hv]
      have d : ((⟨#[120]⟩ : ByteArray) == ⟨#[120]⟩) = true := rfl
      rw [e]
      clear hs hlt hb hv e HS
      go_enter Tryd.func46, Tryd.ntmps46
      go_wp2
      go_end0
      refine ⟨rfl, (), ?_, HOn.out⟩
      unfold TK
      rw [HE.out]
      exact HS2.out
theorem keys_def (f : Nat → Bool) (xs : List Int) (n : Nat) : keys (ons f xs n) = ((List.range n).filter f).map fun i : Nat => (i : Int) := by
  unfold keys ons
  rw [List.map_map]
  rfl
theorem keys_mem {f : Nat → Bool} {xs : List Int} {n : Nat} {x : Int} : x ∈ keys (ons f xs n) ↔ ∃ j : Nat, j < n ∧ f j = true ∧ (j : Int) = x := by
  rw [keys_def, List.mem_map]
  constructor
  · rintro ⟨j, hj, e⟩
    obtain ⟨h1, h2⟩ := List.mem_filter.1 hj
    exact ⟨j, List.mem_range.1 h1, h2, e⟩
  · rintro ⟨j, h1, h2, e⟩
    exact ⟨j, List.mem_filter.2 ⟨List.mem_range.2 h1, h2⟩, e⟩
/-- Texts put at the first of some slots. -/
structure LayK (n : Nat) (p : List Int) (i : Nat) (g : Gap) : Prop where
  len : n ≤ g.xs.length
  on : ∀ j, j < n → (g.on j = true ↔ (j : Int) ∈ p.take i)
  one : ∀ j, j < n → g.on j = true → g.xs.getD j 0 = 1
theorem layK_zero (n : Nat) (p : List Int) : LayK n p 0 (gap0 n) := ⟨by simp [gap0], fun j hj => by simp [gap0], fun j hj h => by simp [gap0] at h⟩
theorem layK_step {n : Nat} {p : List Int} {i : Nat} {g : Gap} (h : LayK n p i g) (hi : i < p.length) {q : Nat} (hq : p.getD i 0 = (q : Int)) (hqn : q < n) : LayK n p (i + 1) (putS n g (q : Int) 1) := by
  have ht : p.take (i + 1) = p.take i ++ [(q : Int)] := by
    rw [List.take_add_one, List.getElem?_eq_getElem hi]
    rw [List.getD_eq_getElem?_getD, List.getElem?_eq_getElem hi] at hq
    have : p[i] = (q : Int) := hq
    rw [this]; rfl
  have hr : inR n (q : Int) = true := decide_eq_true (by omega)
  cases hf : g.on q with
  | true =>
    have e : putS n g (q : Int) 1 = g := by
      unfold putS putR
      rw [hr, if_pos rfl, Int.toNat_natCast, hf]
      rfl
    rw [e]
    refine ⟨h.len, fun j hj => ?_, h.one⟩
    rw [ht, List.mem_append, List.mem_singleton, ← h.on j hj]
    constructor
    · exact fun h => .inl h
    · rintro (h1 | h1)
      · exact h1
      · rw [show j = q by omega]; exact hf
  | false =>
    have e : putS n g (q : Int) 1 = ⟨upd g.on q true, g.xs.set q 1⟩ := by
      unfold putS putR
      rw [hr, if_pos rfl, Int.toNat_natCast, hf]
      rfl
    rw [e]
    have hl := h.len
    refine ⟨by show n ≤ (g.xs.set q 1).length; rw [List.length_set]; exact hl, fun j hj => ?_, fun j hj h1 => ?_⟩
    · show upd g.on q true j = true ↔ _
      rw [ht, List.mem_append, List.mem_singleton, ← h.on j hj]
      unfold upd
      by_cases e1 : j = q
      · rw [if_pos e1]; exact ⟨fun _ => .inr (by omega), fun _ => rfl⟩
      · rw [if_neg e1]
        exact ⟨fun h => .inl h, fun h => h.elim id (fun h => absurd (by omega) e1)⟩
    · show (g.xs.set q 1).getD j 0 = 1
      rw [List.getD_eq_getElem?_getD]
      by_cases e1 : j = q
      · subst e1
        rw [List.getElem?_set_self (by omega)]; rfl
      · rw [List.getElem?_set_ne (fun c => e1 c.symm), ← List.getD_eq_getElem?_getD]
        have h1 : upd g.on q true j = true := h1
        unfold upd at h1
        rw [if_neg e1] at h1
        exact h.one j hj h1
/-- What is laid so stands as the array it was made of. -/
theorem layK_end {n : Nat} {g gt : Gap} (h : LayK n (keys (ons g.on g.xs n)) (keys (ons g.on g.xs n)).length gt) : cntF gt.on n = cntF g.on n ∧ cntX (ons gt.on gt.xs n) = cntF g.on n := by
  have hon : ∀ j, j < n → gt.on j = g.on j := fun j hj => by
    have h1 := h.on j hj
    rw [List.take_length, keys_mem] at h1
    refine Bool.eq_iff_iff.2 (h1.trans ⟨?_, fun h2 => ⟨j, hj, h2, rfl⟩⟩)
    rintro ⟨k, k1, k2, k3⟩
    rw [show j = k by omega]; exact k2
  have hc : cntF gt.on n = cntF g.on n := cntF_congr hon
  refine ⟨hc, ?_⟩
  rw [← hc, ← ons_length gt.on gt.xs n]
  unfold cntX
  congr 1
  rw [List.filter_eq_self]
  intro a ha
  unfold ons at ha
  obtain ⟨j, hj, rfl⟩ := List.mem_map.1 ha
  obtain ⟨h1, h2⟩ := List.mem_filter.1 hj
  dsimp only
  rw [h.one j (List.mem_range.1 h1) h2]
  rfl
theorem perm6 (a b c d e f : Ob) : [a, b, c, d, e, f].Perm [e, a, b, c, d, f] := List.Perm.map (fun i => [a, b, c, d, e, f].getD i a) (show [0, 1, 2, 3, 4, 5].Perm [4, 0, 1, 2, 3, 5] by decide)
theorem celled5 {b : Nat} {cs : Array Value} {t : Nat} {p sb ob wb n q qs qo qw m p2 sb2 ob2 wb2 S : Nat} {g gt g2 : Gap} {tx : Int → ByteArray} {v : Value} {xs : List Int} : ∀ o ∈ [Blk b cs t, S1.Arr p sb ob wb n g, ArrS tx q qs qo qw m gt, S1.Own v xs, S1.Arr p2 sb2 ob2 wb2 S g2], o.Celled := by
  intro o ho
  simp only [List.mem_cons, List.not_mem_nil, or_false] at ho
  rcases ho with rfl | rfl | rfl | rfl | rfl <;> first | exact celled_blk _ _ _ | exact celled_own _ _ | exact celled_arr _ _ _ _ _ _ | exact celled_arrS _ _ _ _ _ _
section
variable {w : World} {A : Option Addr} {c : Nat} {l : List Int}
set_option maxRecDepth 100000 in
theorem law_none (hT : Tb w) {n : Int} (h : 5000 < n ∨ 300 < l.length ∨ n < 1) (s : Int) : Calls Tryd.prog 7 #[.agg #[.int .i64 n, .slice A l.length c], .int .i64 s] w fun e w' => e = .returned (.bool true) ∧ Below w.heap.size w w' := by
  have HT := Aside0.mk hT
  have HS := Aside0.mk ((Sep.nil w).new_blk #[.int .i64 n, .slice A l.length c] 66)
  have C := Aside0.mk (fun w => made_none (A := A) (c := c) h w)
  clear hT h
  go_enter Tryd.func7, Tryd.ntmps7
  go_wp2_with fail
  refine (resize_nil s _).mono ?_
  rintro e w0 ⟨rfl, hb⟩
  replace HS := Aside0.mk (HS.out.step hb)
  clear hb
  have c0 : (_ : Option Value) = some (.int .i64 n) := (blk_cell (HS.out.blk 0 rfl) 0).trans rfl
  have c1 : (_ : Option Value) = some (.slice A l.length c) := (blk_cell (HS.out.blk 0 rfl) 1).trans rfl
  go_wp2_with fail
  refine (C.out _).mono ?_
  clear C c0 c1
  rintro e w1 ⟨rfl, hb⟩
  replace HS := Aside0.mk (HS.out.step hb)
  clear hb
  have C := Aside0.mk (awake_any _ (Kd.C_below HT.out HS.out.below))
  go_wp2_with fail
  refine C.out.mono ?_
  clear C
  rintro e w30 ⟨rfl, hb⟩
  replace HS := Aside0.mk (HS.out.step hb)
  clear hb
  go_wp2
  (try rw [Exit.noGoto_ret])
  go_ret
  exact ⟨rfl, HS.out.below⟩
set_option maxRecDepth 100000 in
set_option maxHeartbeats 4000000 in
theorem law_bad (hT : Tb w) (hr : Kd.C (Kd.int .i64) w A l.length l) {n : Nat} (h1 : 1 ≤ n) (h2 : n ≤ 5000) (h3 : l.length ≤ 300) {s : Int} (hc : capB s = false) : Calls Tryd.prog 7 #[.agg #[.int .i64 (n : Int), .slice A l.length c], .int .i64 s] w fun e w' => e = .returned (.bool true) ∧ Below w.heap.size w w' := by
  have HC := Aside0.mk hc
  clear hc
  have HT := Aside0.mk hT
  have HS := Aside0.mk ((Sep.nil w).new_blk #[.int .i64 (n : Int), .slice A l.length c] 66)
  have HR := Aside0.mk hr
  have HN := Aside0.mk (And.intro h1 (And.intro h2 h3))
  clear hT hr h1 h2 h3
  go_enter Tryd.func7, Tryd.ntmps7
  go_wp2_with fail
  refine (resize_nil s _).mono ?_
  rintro e w0 ⟨rfl, hb⟩
  replace HS := Aside0.mk (HS.out.step hb)
  clear hb
  have c0 : (_ : Option Value) = some (.int .i64 (n : Int)) := (blk_cell (HS.out.blk 0 rfl) 0).trans rfl
  have c1 : (_ : Option Value) = some (.slice A l.length c) := (blk_cell (HS.out.blk 0 rfl) 1).trans rfl
  have C := Aside0.mk (made_yes (c := c) (Kd.C_below HR.out HS.out.below) HN.out.1 HN.out.2.1 HN.out.2.2)
  go_wp2_with fail
  refine C.out.mono ?_
  clear C c0 c1
  rintro e w1 ⟨p, sb, ob, wb, rfl, hs1⟩
  replace HS := Aside0.mk (HS.out.append hs1)
  clear hs1
  generalize madeG n l l.length = g at *
  have c0 : (_ : Option Value) = some (.int .i64 (n : Int)) := (blk_cell (HS.out.blk 0 rfl) 0).trans rfl
  have C := Aside0.mk (gnew_yes txk_zero n w1 HN.out.1 (by have := HN.out.2.1; omega))
  go_wp2_with fail
  refine C.out.mono ?_
  clear C c0
  rintro e w2 ⟨q, qs, qo, qw, rfl, h4, hs, hb⟩
  have HS : Aside0 (Sep w w2 [S1.Blk w.heap.size #[.int .i64 (n : Int), .slice A l.length c] 66, S1.Arr p sb ob wb n g, ArrS txk q qs qo qw n (gap0 n)]) := ⟨sep_new HS.out hb ⟨_, hs⟩ h4⟩
  clear h4 hs hb
  have lk : cntF g.on n = (keys (ons g.on g.xs n)).length := by rw [keys, List.length_map, ons_length]
  have HKL : Aside0 ((keys (ons g.on g.xs n)).length ≤ 5000) := ⟨by rw [← lk]; exact Nat.le_trans (cntF_le _ _) HN.out.2.1⟩
  obtain ⟨vs, hsl⟩ := HS.out.arr 1 rfl
  have C := places_any hsl (Kd.C_below HT.out HS.out.below)
  rw [lk] at C
  have C := Aside0.mk C
  have HEND := Aside0.mk (fun gt => layK_end (n := n) (g := g) (gt := gt))
  have HMEM := Aside0.mk (fun x => (keys_mem (f := g.on) (xs := g.xs) (n := n) (x := x)).1)
  rw [lk] at HEND
  have HLK := Aside0.mk lk
  generalize keys (ons g.on g.xs n) = kk at C HKL HEND HMEM HLK
  clear hsl vs lk
  go_wp2_with fail
  refine C.out.mono ?_
  clear C
  rintro e w3 ⟨A1, k1, rfl, _, _, g3, hb⟩
  replace HS := Aside0.mk (HS.out.new_own hb g3)
  clear g3 hb
  go_wp2
  go_loopg [11] (kk.length + 1) (fun kq v11 W => ∃ (i : Nat) (gt : Gap), v11 = .int .i64 (i : Int) ∧ i ≤ kk.length ∧ Aside0 (kk.length + 1 - i ≤ kq) ∧ Aside0 (LayK n kk i gt) ∧ Aside0 (Sep w W [S1.Blk w.heap.size #[.int .i64 (n : Int), .slice A l.length c] 66, S1.Arr p sb ob wb n g, ArrS txk q qs qo qw n gt, S1.Own (.slice A1 kk.length k1) kk]))
  case atStart => exact ⟨0, _, rfl, by omega, ⟨by omega⟩, ⟨layK_zero n kk⟩, HS⟩
  case round =>
    clear HS
    obtain ⟨i, gt, rfl, hi, HQ, HY, HS⟩ := hrel
    by_cases hlt : i < kk.length
    · have HC := Aside0.mk hlt
      obtain ⟨ad, e, hx⟩ := Kd.at_int (HS.out.row 3 rfl).2.2 (i : Int) (by omega) (by omega)
      cases e
      rw [Int.toNat_natCast, show rd kk (i : Int) = kk.getD i 0 from rfl] at hx
      obtain ⟨qi, q1, _, q3⟩ := HMEM.out (kk.getD i 0) (getD_mem hlt)
      rw [← q3] at hx
      have HY2 := Aside0.mk (layK_step HY.out hlt q3.symm q1)
      have hi5 : (i : Int) ≤ 5000 := by have := HKL.out; omega
      have CP := put_any (sep_arr HS.out 2 rfl) (qi : Int) 1
      rw [txk_one] at CP
      have CP := Aside0.mk CP
      clear q3
      go_wp2_with fail
      refine CP.out.mono ?_
      clear CP hx
      rintro e w5 ⟨rfl, h4, h5⟩
      replace HS := Aside0.mk (sep_turn HS.out 2 rfl h5 h4)
      clear h4 h5
      go_wp2
      go_roundg (kk.length - i)
      case measure => have := HQ.out; have := HC.out; omega
      case rel => exact ⟨i + 1, _, by go_num, by have := HC.out; omega, ⟨by omega⟩, HY2, HS⟩
    · obtain rfl : i = kk.length := by omega
      clear hlt
      obtain ⟨hcnt, hcx⟩ := HEND.out gt HY.out
      have HCX := Aside0.mk (And.intro hcnt hcx)
      clear hcnt hcx HY
      have HS : Aside0 (Sep w (wr.alloc (.cells #[.int .i64 0] 3)) [S1.Blk w.heap.size #[.int .i64 (n : Int), .slice A l.length c] 66, S1.Arr p sb ob wb n g, ArrS txk q qs qo qw n gt, S1.Own (.slice A1 kk.length k1) kk, S1.Blk wr.heap.size #[.int .i64 0] 3]) := ⟨HS.out.new_blk #[.int .i64 0] 3⟩
      obtain ⟨hb, hhb⟩ : ∃ hb, wr.heap.size = hb := ⟨_, rfl⟩
      rw [hhb] at HS
      have C := resize_bad (HS.out.arr 1 rfl) HC.out
      skip
      have C := Aside0.mk C
      go_wp2_with fail
      refine C.out.mono ?_
      clear C
      rintro e w6 ⟨rfl, hbb⟩
      replace HS := Aside0.mk (HS.out.step hbb)
      clear hbb
      have C := Go.Proofs.YtofkkdjbilklcaaDoor.HS.resize_badF (sep_arr HS.out 2 rfl) HC.out 46 #[.pointer (some ⟨hb, 0, none⟩)]
      skip
      have C := Aside0.mk C
      go_wp2_with fail
      refine C.out.mono ?_
      clear C
      rintro e w7 ⟨rfl, hbb⟩
      replace HS := Aside0.mk (HS.out.step hbb)
      clear hbb
      have c0 : (_ : Option Value) = some (.int .i64 0) := (blk_cell (HS.out.blk 4 rfl) 0).trans rfl
      have C := Aside0.mk (awake_any _ (Kd.C_below HT.out HS.out.below))
      go_wp2_with fail
      refine C.out.mono ?_
      clear C
      rintro e w30 ⟨rfl, hb⟩
      replace HS := Aside0.mk (HS.out.step hb)
      clear hb
      go_wp2
      (try rw [Exit.noGoto_ret])
      go_ret
      exact ⟨rfl, HS.out.below⟩
set_option maxRecDepth 100000 in
set_option maxHeartbeats 4000000 in
theorem law_long (hT : Tb w) (hr : Kd.C (Kd.int .i64) w A l.length l) {n : Nat} (h1 : 1 ≤ n) (h2 : n ≤ 5000) (h3 : l.length ≤ 300) {S : Nat} (hc : capB (S : Int) = true) (hl : S < cntF (madeG n l l.length).on n) : Calls Tryd.prog 7 #[.agg #[.int .i64 (n : Int), .slice A l.length c], .int .i64 (S : Int)] w fun e w' => e = .returned (.bool true) ∧ Below w.heap.size w w' := by
  obtain ⟨s, hs⟩ : ∃ s : Int, (S : Int) = s := ⟨_, rfl⟩
  have HC := Aside0.mk hc
  have HL := Aside0.mk hl
  clear hc hl
  rw [hs]
  have HSS := Aside0.mk hs
  clear hs
  have HT := Aside0.mk hT
  have HS := Aside0.mk ((Sep.nil w).new_blk #[.int .i64 (n : Int), .slice A l.length c] 66)
  have HR := Aside0.mk hr
  have HN := Aside0.mk (And.intro h1 (And.intro h2 h3))
  clear hT hr h1 h2 h3
  go_enter Tryd.func7, Tryd.ntmps7
  go_wp2_with fail
  refine (resize_nil s _).mono ?_
  rintro e w0 ⟨rfl, hb⟩
  replace HS := Aside0.mk (HS.out.step hb)
  clear hb
  have c0 : (_ : Option Value) = some (.int .i64 (n : Int)) := (blk_cell (HS.out.blk 0 rfl) 0).trans rfl
  have c1 : (_ : Option Value) = some (.slice A l.length c) := (blk_cell (HS.out.blk 0 rfl) 1).trans rfl
  have C := Aside0.mk (made_yes (c := c) (Kd.C_below HR.out HS.out.below) HN.out.1 HN.out.2.1 HN.out.2.2)
  go_wp2_with fail
  refine C.out.mono ?_
  clear C c0 c1
  rintro e w1 ⟨p, sb, ob, wb, rfl, hs1⟩
  replace HS := Aside0.mk (HS.out.append hs1)
  clear hs1
  generalize madeG n l l.length = g at *
  have c0 : (_ : Option Value) = some (.int .i64 (n : Int)) := (blk_cell (HS.out.blk 0 rfl) 0).trans rfl
  have C := Aside0.mk (gnew_yes txk_zero n w1 HN.out.1 (by have := HN.out.2.1; omega))
  go_wp2_with fail
  refine C.out.mono ?_
  clear C c0
  rintro e w2 ⟨q, qs, qo, qw, rfl, h4, hs, hb⟩
  have HS : Aside0 (Sep w w2 [S1.Blk w.heap.size #[.int .i64 (n : Int), .slice A l.length c] 66, S1.Arr p sb ob wb n g, ArrS txk q qs qo qw n (gap0 n)]) := ⟨sep_new HS.out hb ⟨_, hs⟩ h4⟩
  clear h4 hs hb
  have lk : cntF g.on n = (keys (ons g.on g.xs n)).length := by rw [keys, List.length_map, ons_length]
  have HKL : Aside0 ((keys (ons g.on g.xs n)).length ≤ 5000) := ⟨by rw [← lk]; exact Nat.le_trans (cntF_le _ _) HN.out.2.1⟩
  obtain ⟨vs, hsl⟩ := HS.out.arr 1 rfl
  have C := places_any hsl (Kd.C_below HT.out HS.out.below)
  rw [lk] at C
  have C := Aside0.mk C
  have HEND := Aside0.mk (fun gt => layK_end (n := n) (g := g) (gt := gt))
  have HMEM := Aside0.mk (fun x => (keys_mem (f := g.on) (xs := g.xs) (n := n) (x := x)).1)
  rw [lk] at HEND
  have HLK := Aside0.mk lk
  generalize keys (ons g.on g.xs n) = kk at C HKL HEND HMEM HLK
  clear hsl vs lk
  go_wp2_with fail
  refine C.out.mono ?_
  clear C
  rintro e w3 ⟨A1, k1, rfl, _, _, g3, hb⟩
  replace HS := Aside0.mk (HS.out.new_own hb g3)
  clear g3 hb
  go_wp2
  go_loopg [11] (kk.length + 1) (fun kq v11 W => ∃ (i : Nat) (gt : Gap), v11 = .int .i64 (i : Int) ∧ i ≤ kk.length ∧ Aside0 (kk.length + 1 - i ≤ kq) ∧ Aside0 (LayK n kk i gt) ∧ Aside0 (Sep w W [S1.Blk w.heap.size #[.int .i64 (n : Int), .slice A l.length c] 66, S1.Arr p sb ob wb n g, ArrS txk q qs qo qw n gt, S1.Own (.slice A1 kk.length k1) kk]))
  case atStart => exact ⟨0, _, rfl, by omega, ⟨by omega⟩, ⟨layK_zero n kk⟩, HS⟩
  case round =>
    clear HS
    obtain ⟨i, gt, rfl, hi, HQ, HY, HS⟩ := hrel
    by_cases hlt : i < kk.length
    · have HC := Aside0.mk hlt
      obtain ⟨ad, e, hx⟩ := Kd.at_int (HS.out.row 3 rfl).2.2 (i : Int) (by omega) (by omega)
      cases e
      rw [Int.toNat_natCast, show rd kk (i : Int) = kk.getD i 0 from rfl] at hx
      obtain ⟨qi, q1, _, q3⟩ := HMEM.out (kk.getD i 0) (getD_mem hlt)
      rw [← q3] at hx
      have HY2 := Aside0.mk (layK_step HY.out hlt q3.symm q1)
      have hi5 : (i : Int) ≤ 5000 := by have := HKL.out; omega
      have CP := put_any (sep_arr HS.out 2 rfl) (qi : Int) 1
      rw [txk_one] at CP
      have CP := Aside0.mk CP
      clear q3
      go_wp2_with fail
      refine CP.out.mono ?_
      clear CP hx
      rintro e w5 ⟨rfl, h4, h5⟩
      replace HS := Aside0.mk (sep_turn HS.out 2 rfl h5 h4)
      clear h4 h5
      go_wp2
      go_roundg (kk.length - i)
      case measure => have := HQ.out; have := HC.out; omega
      case rel => exact ⟨i + 1, _, by go_num, by have := HC.out; omega, ⟨by omega⟩, HY2, HS⟩
    · obtain rfl : i = kk.length := by omega
      clear hlt
      obtain ⟨hcnt, hcx⟩ := HEND.out gt HY.out
      have HCX := Aside0.mk (And.intro hcnt hcx)
      clear hcnt hcx HY
      have HS : Aside0 (Sep w (wr.alloc (.cells #[.int .i64 0] 3)) [S1.Blk w.heap.size #[.int .i64 (n : Int), .slice A l.length c] 66, S1.Arr p sb ob wb n g, ArrS txk q qs qo qw n gt, S1.Own (.slice A1 kk.length k1) kk, S1.Blk wr.heap.size #[.int .i64 0] 3]) := ⟨HS.out.new_blk #[.int .i64 0] 3⟩
      obtain ⟨hb, hhb⟩ : ∃ hb, wr.heap.size = hb := ⟨_, rfl⟩
      rw [hhb] at HS
      have HL2 : Aside0 (S < cntF gt.on n) := ⟨by rw [HCX.out.1, ← HLK.out]; exact HL.out⟩
      have C := resize_long (HS.out.arr 1 rfl) HC.out HL.out
      rw [HSS.out] at C
      have C := Aside0.mk C
      go_wp2_with fail
      refine C.out.mono ?_
      clear C
      rintro e w6 ⟨rfl, hbb⟩
      replace HS := Aside0.mk (HS.out.step hbb)
      clear hbb
      have C := Go.Proofs.YtofkkdjbilklcaaDoor.HS.resize_longF (sep_arr HS.out 2 rfl) HC.out HL2.out 46 #[.pointer (some ⟨hb, 0, none⟩)]
      rw [HSS.out] at C
      have C := Aside0.mk C
      go_wp2_with fail
      refine C.out.mono ?_
      clear C
      rintro e w7 ⟨rfl, hbb⟩
      replace HS := Aside0.mk (HS.out.step hbb)
      clear hbb
      have c0 : (_ : Option Value) = some (.int .i64 0) := (blk_cell (HS.out.blk 4 rfl) 0).trans rfl
      have C := Aside0.mk (awake_any _ (Kd.C_below HT.out HS.out.below))
      go_wp2_with fail
      refine C.out.mono ?_
      clear C
      rintro e w30 ⟨rfl, hb⟩
      replace HS := Aside0.mk (HS.out.step hb)
      clear hb
      go_wp2
      (try rw [Exit.noGoto_ret])
      go_ret
      exact ⟨rfl, HS.out.below⟩
set_option maxRecDepth 100000 in
set_option maxHeartbeats 4000000 in
theorem law_good (hT : Tb w) (hr : Kd.C (Kd.int .i64) w A l.length l) {n : Nat} (h1 : 1 ≤ n) (h2 : n ≤ 5000) (h3 : l.length ≤ 300) {S : Nat} (hc : capB (S : Int) = true) (hl : cntF (madeG n l l.length).on n ≤ S) : Calls Tryd.prog 7 #[.agg #[.int .i64 (n : Int), .slice A l.length c], .int .i64 (S : Int)] w fun e w' => e = .returned (.bool true) ∧ Below w.heap.size w w' := by
  obtain ⟨k, hk, hk1, hk2, _, _⟩ := cap_nat hc
  obtain ⟨s, hs⟩ : ∃ s : Int, (S : Int) = s := ⟨_, rfl⟩
  have HC := Aside0.mk hc
  have HL := Aside0.mk hl
  have HK := Aside0.mk (And.intro hk (And.intro hk1 hk2))
  clear hc hl hk hk1 hk2
  rw [hs]
  have HSS := Aside0.mk hs
  clear hs
  have HT := Aside0.mk hT
  have HS := Aside0.mk ((Sep.nil w).new_blk #[.int .i64 (n : Int), .slice A l.length c] 66)
  have HR := Aside0.mk hr
  have HN := Aside0.mk (And.intro h1 (And.intro h2 h3))
  clear hT hr h1 h2 h3
  go_enter Tryd.func7, Tryd.ntmps7
  go_wp2_with fail
  refine (resize_nil s _).mono ?_
  rintro e w0 ⟨rfl, hb⟩
  replace HS := Aside0.mk (HS.out.step hb)
  clear hb
  have c0 : (_ : Option Value) = some (.int .i64 (n : Int)) := (blk_cell (HS.out.blk 0 rfl) 0).trans rfl
  have c1 : (_ : Option Value) = some (.slice A l.length c) := (blk_cell (HS.out.blk 0 rfl) 1).trans rfl
  have C := Aside0.mk (made_yes (c := c) (Kd.C_below HR.out HS.out.below) HN.out.1 HN.out.2.1 HN.out.2.2)
  go_wp2_with fail
  refine C.out.mono ?_
  clear C c0 c1
  rintro e w1 ⟨p, sb, ob, wb, rfl, hs1⟩
  replace HS := Aside0.mk (HS.out.append hs1)
  clear hs1
  generalize madeG n l l.length = g at *
  have c0 : (_ : Option Value) = some (.int .i64 (n : Int)) := (blk_cell (HS.out.blk 0 rfl) 0).trans rfl
  have C := Aside0.mk (gnew_yes txk_zero n w1 HN.out.1 (by have := HN.out.2.1; omega))
  go_wp2_with fail
  refine C.out.mono ?_
  clear C c0
  rintro e w2 ⟨q, qs, qo, qw, rfl, h4, hs, hb⟩
  have HS : Aside0 (Sep w w2 [S1.Blk w.heap.size #[.int .i64 (n : Int), .slice A l.length c] 66, S1.Arr p sb ob wb n g, ArrS txk q qs qo qw n (gap0 n)]) := ⟨sep_new HS.out hb ⟨_, hs⟩ h4⟩
  clear h4 hs hb
  have lk : cntF g.on n = (keys (ons g.on g.xs n)).length := by rw [keys, List.length_map, ons_length]
  have HKL : Aside0 ((keys (ons g.on g.xs n)).length ≤ 5000) := ⟨by rw [← lk]; exact Nat.le_trans (cntF_le _ _) HN.out.2.1⟩
  obtain ⟨vs, hsl⟩ := HS.out.arr 1 rfl
  have C := places_any hsl (Kd.C_below HT.out HS.out.below)
  rw [lk] at C
  have C := Aside0.mk C
  have HEND := Aside0.mk (fun gt => layK_end (n := n) (g := g) (gt := gt))
  have HMEM := Aside0.mk (fun x => (keys_mem (f := g.on) (xs := g.xs) (n := n) (x := x)).1)
  rw [lk] at HEND
  have HLK := Aside0.mk lk
  generalize keys (ons g.on g.xs n) = kk at C HKL HEND HMEM HLK
  clear hsl vs lk
  go_wp2_with fail
  refine C.out.mono ?_
  clear C
  rintro e w3 ⟨A1, k1, rfl, _, _, g3, hb⟩
  replace HS := Aside0.mk (HS.out.new_own hb g3)
  clear g3 hb
  go_wp2
  go_loopg [11] (kk.length + 1) (fun kq v11 W => ∃ (i : Nat) (gt : Gap), v11 = .int .i64 (i : Int) ∧ i ≤ kk.length ∧ Aside0 (kk.length + 1 - i ≤ kq) ∧ Aside0 (LayK n kk i gt) ∧ Aside0 (Sep w W [S1.Blk w.heap.size #[.int .i64 (n : Int), .slice A l.length c] 66, S1.Arr p sb ob wb n g, ArrS txk q qs qo qw n gt, S1.Own (.slice A1 kk.length k1) kk]))
  case atStart => exact ⟨0, _, rfl, by omega, ⟨by omega⟩, ⟨layK_zero n kk⟩, HS⟩
  case round =>
    clear HS
    obtain ⟨i, gt, rfl, hi, HQ, HY, HS⟩ := hrel
    by_cases hlt : i < kk.length
    · have HC := Aside0.mk hlt
      obtain ⟨ad, e, hx⟩ := Kd.at_int (HS.out.row 3 rfl).2.2 (i : Int) (by omega) (by omega)
      cases e
      rw [Int.toNat_natCast, show rd kk (i : Int) = kk.getD i 0 from rfl] at hx
      obtain ⟨qi, q1, _, q3⟩ := HMEM.out (kk.getD i 0) (getD_mem hlt)
      rw [← q3] at hx
      have HY2 := Aside0.mk (layK_step HY.out hlt q3.symm q1)
      have hi5 : (i : Int) ≤ 5000 := by have := HKL.out; omega
      have CP := put_any (sep_arr HS.out 2 rfl) (qi : Int) 1
      rw [txk_one] at CP
      have CP := Aside0.mk CP
      clear q3
      go_wp2_with fail
      refine CP.out.mono ?_
      clear CP hx
      rintro e w5 ⟨rfl, h4, h5⟩
      replace HS := Aside0.mk (sep_turn HS.out 2 rfl h5 h4)
      clear h4 h5
      go_wp2
      go_roundg (kk.length - i)
      case measure => have := HQ.out; have := HC.out; omega
      case rel => exact ⟨i + 1, _, by go_num, by have := HC.out; omega, ⟨by omega⟩, HY2, HS⟩
    · obtain rfl : i = kk.length := by omega
      clear hlt
      obtain ⟨hcnt, hcx⟩ := HEND.out gt HY.out
      have HCX := Aside0.mk (And.intro hcnt hcx)
      clear hcnt hcx HY
      have HS : Aside0 (Sep w (wr.alloc (.cells #[.int .i64 0] 3)) [S1.Blk w.heap.size #[.int .i64 (n : Int), .slice A l.length c] 66, S1.Arr p sb ob wb n g, ArrS txk q qs qo qw n gt, S1.Own (.slice A1 kk.length k1) kk, S1.Blk wr.heap.size #[.int .i64 0] 3]) := ⟨HS.out.new_blk #[.int .i64 0] 3⟩
      obtain ⟨hb, hhb⟩ : ∃ hb, wr.heap.size = hb := ⟨_, rfl⟩
      rw [hhb] at HS
      have C := resize_yes (HS.out.arr 1 rfl) (Kd.C_below HT.out HS.out.below) HC.out HK.out.1 HL.out
      rw [HSS.out, HLK.out] at C
      have C := Aside0.mk C
      have HKEY : Aside0 (∀ v, keys (ons (layG S (plK kk.length k 0 k) v kk.length).on (layG S (plK kk.length k 0 k) v kk.length).xs S) = plK kk.length k 0 k ∧ cntF (layG S (plK kk.length k 0 k) v kk.length).on S = kk.length) := ⟨fun v => by
        have hR : Rise S (plK kk.length k 0 k) := by rw [HK.out.1]; exact pl_rise (by have := HK.out.2.1; omega) (by have := HL.out; rw [HLK.out] at this; have := HK.out.1; omega)
        have hlen := pl_len (n := kk.length) (s := k) 0 (by have := HK.out.2.1; omega)
        have e1 := lay_keys (l := v) hR
        have e2 := lay_cnt (l := v) hR
        rw [hlen] at e1 e2
        exact ⟨e1, e2⟩⟩
      have HPL := Aside0.mk (pl_len (n := kk.length) (s := k) 0 (by have := HK.out.2.1; omega))
      have HL2 : Aside0 (cntF gt.on n ≤ S) := ⟨by rw [HCX.out.1, ← HLK.out]; exact HL.out⟩
      generalize vals (ons g.on g.xs n) = v1 at C
      go_wp2_with fail
      refine C.out.mono ?_
      clear C
      rintro e w6 ⟨p2, sb2, ob2, wb2, rfl, hs1⟩
      have HS2 : Aside0 (Sep w w6 (TK hb () [] ++ [S1.Blk w.heap.size #[.int .i64 (n : Int), .slice A l.length c] 66, S1.Arr p sb ob wb n g, ArrS txk q qs qo qw n gt, S1.Own (.slice A1 kk.length k1) kk, S1.Arr p2 sb2 ob2 wb2 S (layG S (plK kk.length k 0 k) v1 kk.length)])) := ⟨(HS.out.append hs1).perm (perm6 ..)⟩
      clear hs1 HS
      have C := resize_told txk_zero (s0 := ()) (T := TK hb) HS2.out (List.mem_cons_of_mem _ (List.mem_cons_of_mem _ (List.mem_cons_self ..))) celled5 HT.out HC.out HK.out.1 HL2.out (tell_K (by have := cntF_le gt.on n; have := HN.out.2.1; omega))
      rw [HSS.out, HCX.out.1] at C
      have C := Aside0.mk C
      go_wp2_with fail
      refine C.out.mono ?_
      clear C HS2
      rintro e w7 ⟨_, p3, sb3, ob3, wb3, rfl, hs1⟩
      unfold TK at hs1
      rw [HCX.out.2] at hs1
      generalize vals (ons gt.on gt.xs n) = v2 at hs1
      have HS : Aside0 (Sep w w7 [S1.Blk hb #[.int .i64 (kk.length : Int)] 3, S1.Blk w.heap.size #[.int .i64 (n : Int), .slice A l.length c] 66, S1.Arr p sb ob wb n g, ArrS txk q qs qo qw n gt, S1.Own (.slice A1 kk.length k1) kk, S1.Arr p2 sb2 ob2 wb2 S (layG S (plK kk.length k 0 k) v1 kk.length), ArrS txk p3 sb3 ob3 wb3 S (layG S (plK kk.length k 0 k) v2 kk.length)]) := ⟨hs1⟩
      clear hs1
      have c0 : (_ : Option Value) = some (.int .i64 (kk.length : Int)) := (blk_cell (HS.out.blk 0 rfl) 0).trans rfl
      obtain ⟨vs, hsl⟩ := HS.out.arr 5 rfl
      have C := places_any hsl (Kd.C_below HT.out HS.out.below)
      rw [(HKEY.out v1).1, (HKEY.out v1).2] at C
      have C := Aside0.mk C
      clear hsl vs
      go_wp2_with fail
      refine C.out.mono ?_
      clear C c0
      rintro e w8 ⟨A2, k2, rfl, g1, g2, _, hbb⟩
      replace HS := Aside0.mk (HS.out.step hbb)
      have HP1 := Aside0.mk (And.intro g1 g2)
      clear g1 g2 hbb
      obtain ⟨vs, hsl⟩ := sep_arr HS.out 6 rfl
      have C := Go.Proofs.YtofkkdjbilklcaaDoor.HS.places_any hsl (Kd.C_below HT.out HS.out.below)
      rw [(HKEY.out v2).1, (HKEY.out v2).2] at C
      have C := Aside0.mk C
      clear hsl vs
      go_wp2_with fail
      refine C.out.mono ?_
      clear C
      rintro e w9 ⟨A3, k3, rfl, g1, g2, _, hbb⟩
      replace HS := Aside0.mk (HS.out.step hbb)
      have C := ints_any (Kd.C_below HP1.out.2 hbb) HP1.out.1 g2 g1 (by rw [HPL.out]; have := HKL.out; omega)
      rw [decide_eq_true rfl] at C
      have C := Aside0.mk C
      clear g1 g2 hbb
      go_wp2_with fail
      refine C.out.mono ?_
      clear C
      rintro e w10 ⟨rfl, hd⟩
      replace HS := Aside0.mk (HS.out.step hd.below)
      clear hd
      obtain ⟨vs, hsl⟩ := HS.out.arr 5 rfl
      have C := Aside0.mk (cap_any hsl)
      clear hsl vs
      go_wp2_with fail
      refine C.out.mono ?_
      clear C
      rintro e wc ⟨rfl, rfl⟩
      obtain ⟨vs, hsl⟩ := sep_arr HS.out 6 rfl
      have C := Aside0.mk (Go.Proofs.YtofkkdjbilklcaaDoor.HS.cap_any hsl)
      clear hsl vs
      go_wp2_with fail
      refine C.out.mono ?_
      clear C
      rintro e wc ⟨rfl, rfl⟩
      have C := Aside0.mk (awake_any _ (Kd.C_below HT.out HS.out.below))
      go_wp2_with fail
      refine C.out.mono ?_
      clear C
      rintro e w30 ⟨rfl, hb⟩
      replace HS := Aside0.mk (HS.out.step hb)
      clear hb
      go_wp2
      (try rw [Exit.noGoto_ret])
      go_ret
      exact ⟨rfl, HS.out.below⟩
end
theorem law (n : Int) (wn : (Lit.int .i64 n).wf = true) (A : Option Addr) (c : Nat) (l : List Int) {W0 : World} (g : Kd.C (Kd.int .i64) W0 A l.length l) (e : l.length ≤ c) (wl : ∀ x ∈ l, (Lit.int .i64 x).wf = true) (s : Int) (ws : (Lit.int .i64 s).wf = true) (W : World) (hT : Tb W) (hW : W = W0 := by rfl) :
    Calls Tryd.prog 7 #[.agg #[.int .i64 n, .slice A l.length c], .int .i64 s] W fun e w' => e = .returned (.bool true) ∧ Below W.heap.size W w' := by
  subst hW
  by_cases h : 5000 < n ∨ 300 < l.length ∨ n < 1
  · exact law_none hT h s
  · obtain ⟨n, rfl⟩ := Int.eq_ofNat_of_zero_le (show 0 ≤ n by omega)
    cases hc : capB s with
    | false => exact law_bad hT g (by omega) (by omega) (by omega) hc
    | true =>
      have hp := of_decide_eq_true hc
      obtain ⟨S, rfl⟩ : ∃ S : Nat, s = (S : Int) := Int.eq_ofNat_of_zero_le (by omega)
      by_cases hl : cntF (madeG n l l.length).on n ≤ S
      · exact law_good hT g (by omega) (by omega) (by omega) hc hl
      · exact law_long hT g (by omega) (by omega) (by omega) hc (by omega)
end Go.Proofs.YtofkkdjbilklcaaDoor.HK

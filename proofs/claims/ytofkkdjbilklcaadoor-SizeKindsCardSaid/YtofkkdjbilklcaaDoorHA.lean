/- Several texts as one (cat.py): H5 H6 H7 H8 H9 H10. -/
import Derived.Test.YtofkkdjbilklcaaDoorSC
import Derived.Laws.EntriesVeiled
import Derived.RangeFuncBox
import Derived.RangeFuncNested
import Derived.RangeFuncBound
import Derived.RangeFuncCalls
import Derived.RangeFuncLeaves
import Derived.Shelf.Abstract
import Derived.Shelf.RegionOpen
import Derived.OwnWalkIn
import Derived.TacticsInMore
import Derived.LoopNIn
import Derived.LoopIn
import Derived.Maps.AppendAt
/- Walks of the arrays of texts with gaps: made, looked at. -/
namespace Go.Proofs.YtofkkdjbilklcaaDoor.HS
open Go.RowKit Go.Shelf Go.Proofs.YtofkkdjbilklcaaDoorW.PrintWords Go.Proofs.YtofkkdjbilklcaaDoorW.PrintLast Go.Proofs.YtofkkdjbilklcaaDoorW.PrintMore G1 G0 Q1 G2 G3 G4 G5 G6 G7 G8 G9 G10
set_option linter.unusedVariables false
set_option linter.unusedSimpArgs false

/-- The texts of numbers. -/
def strs (tx : Int → ByteArray) (xs : List Int) : List Value := xs.map fun x => .string (tx x)
/-- An array of texts with gaps: its blocks, which slots are on, what they hold (the number of each text). -/
structure SlAt (tx : Int → ByteArray) (w : World) (p sb ob wb n : Nat) (f : Nat → Bool) (xs : List Int) (vs : List Nat) : Prop where
  z : tx 0 = ⟨#[]⟩
  hp : w.heap[p]? = some (.cells #[.slice (some ⟨sb, 0, none⟩) n xs.length, .pointer (some ⟨ob, 0, none⟩)] 111 (0, 0))
  hs : w.heap[sb]? = some (.cells (strs tx xs).toArray 9 (0, 0))
  len : n ≤ xs.length
  bits : BitsAt w ob wb n f vs
theorem SlAt.below {tx : Int → ByteArray} {w w' : World} {p sb ob wb n : Nat} {f : Nat → Bool} {xs : List Int} {vs : List Nat} (h : SlAt tx w p sb ob wb n f xs vs) (hb : Below w.heap.size w w') : SlAt tx w' p sb ob wb n f xs vs :=
  ⟨h.z, blk_below h.hp hb, blk_below h.hs hb, h.len, h.bits.below hb⟩
theorem SlAt.only {tx : Int → ByteArray} {S : Nat → Prop} {w w' : World} {p sb ob wb n : Nat} {f : Nat → Bool} {xs : List Int} {vs : List Nat} (h : SlAt tx w p sb ob wb n f xs vs) (hb : Only S w w') (h1 : ¬ S p) (h2 : ¬ S sb) (h3 : ¬ S ob) (h4 : ¬ S wb) : SlAt tx w' p sb ob wb n f xs vs :=
  ⟨h.z, hb.blk h.hp h1, hb.blk h.hs h2, h.len, h.bits.only hb h3 h4⟩
theorem SlAt.apart {tx : Int → ByteArray} {w : World} {p sb ob wb n : Nat} {f : Nat → Bool} {xs : List Int} {vs : List Nat} (h : SlAt tx w p sb ob wb n f xs vs) : p ≠ sb ∧ p ≠ ob ∧ p ≠ wb ∧ sb ≠ ob ∧ sb ≠ wb ∧ ob ≠ wb :=
  ⟨blk_ne h.hp h.hs (by decide), blk_ne h.hp h.bits.ho (by decide), blk_ne h.hp h.bits.hw (by decide), blk_ne h.hs h.bits.ho (by decide), blk_ne h.hs h.bits.hw (by decide), h.bits.ne⟩
theorem SlAt.c0 {tx : Int → ByteArray} {w : World} {p sb ob wb n : Nat} {f : Nat → Bool} {xs : List Int} {vs : List Nat} (h : SlAt tx w p sb ob wb n f xs vs) : w.cell? ⟨p, 0, none⟩ = some (.slice (some ⟨sb, 0, none⟩) n xs.length) := (blk_cell h.hp 0).trans rfl
theorem SlAt.c1 {tx : Int → ByteArray} {w : World} {p sb ob wb n : Nat} {f : Nat → Bool} {xs : List Int} {vs : List Nat} (h : SlAt tx w p sb ob wb n f xs vs) : w.cell? ⟨p, 1, none⟩ = some (.pointer (some ⟨ob, 0, none⟩)) := (blk_cell h.hp 1).trans rfl
theorem SlAt.cell {tx : Int → ByteArray} {w : World} {p sb ob wb n : Nat} {f : Nat → Bool} {xs : List Int} {vs : List Nat} (h : SlAt tx w p sb ob wb n f xs vs) {i : Nat} (hi : i < n) : w.cell? ⟨sb, i, none⟩ = some (.string (tx (xs.getD i 0))) := by
  rw [blk_cell h.hs i]
  have : i < xs.length := Nat.lt_of_lt_of_le hi h.len
  simp [strs, List.getD_eq_getElem?_getD, this]
/-- An element is put, or taken: its cell. -/
theorem SlAt.store {tx : Int → ByteArray} {w : World} {p sb ob wb n : Nat} {f : Nat → Bool} {xs : List Int} {vs : List Nat} (h : SlAt tx w p sb ob wb n f xs vs) {i : Nat} (x : Int) : SlAt tx (w.setCell ⟨sb, i, none⟩ (.string (tx x))) p sb ob wb n f (xs.set i x) vs := by
  obtain ⟨a1, a2, a3, a4, a5, a6⟩ := h.apart
  have ho : Only (· = sb) w (w.setCell ⟨sb, i, none⟩ (.string (tx x))) := Only.set (· = sb) w (p := ⟨sb, i, none⟩) rfl _
  refine ⟨h.z, by rw [List.length_set]; exact ho.blk h.hp a1, ?_, by rw [List.length_set]; exact h.len, h.bits.only ho (fun e => a4 e.symm) (fun e => a5 e.symm)⟩
  rw [blk_set h.hs i (.string (tx x))]
  congr 2
  simp [strs, List.map_set]

theorem gnew_no (n : Int) (w : World) (h : n < 1 ∨ 65536 < n) : Calls Tryd.prog 37 #[.int .i64 n] w fun e w' => e = .returned (.tuple #[.pointer none, .int .i64 10]) ∧ w = w' := by
  have H := Aside0.mk (new_no n w h)
  clear h
  go_enter Tryd.func37, Tryd.ntmps37
  go_wp2_with fail
  refine H.out.mono ?_
  rintro e w1 ⟨rfl, rfl⟩
  go_wp2
  go_ret2
  exact ⟨rfl, rfl⟩
theorem info_str : (Tryd.prog.info? 9).map (fun i => (i.zero, i.size, i.bytes)) = some (some (.string ⟨#[]⟩), 1, 16) := by kernel_rfl
theorem made_strs {tx : Int → ByteArray} (z : tx 0 = ⟨#[]⟩) (n : Nat) : madeCells #[.string ⟨#[]⟩] n = (strs tx (List.replicate n 0)).toArray := by
  apply Array.ext
  · simp [size_madeCells, strs]
  · intro i h1 h2
    simp [madeCells, strs, Nat.mod_one, z]
theorem make_texts {tx : Int → ByteArray} (z : tx 0 = ⟨#[]⟩) (n : Nat) (hn : n ≤ 1000000) (W : World) : (Instr.makeSlice 55 (.int .i64 (n : Int)) (.int .i64 (n : Int))).run Tryd.prog W = .ok (.slice (some ⟨W.heap.size, 0, none⟩) n n) (W.alloc (.cells (strs tx (List.replicate n 0)).toArray 9)) := by
  obtain ⟨i, hi, hzz⟩ := Option.map_eq_some_iff.1 info_str
  simp only [Prod.mk.injEq] at hzz
  obtain ⟨hz, hs, hb⟩ := hzz
  have h := run_make (P := Tryd.prog) W 55 9 i _ Tryd.underlying55 hi hz .i64 .i64 (n : Int) (n : Int) (by omega) (by omega) (by rw [hb]; omega) (by omega)
  rw [hs, Int.toNat_natCast, show n * 1 = n by omega, show (Value.string ⟨#[]⟩).cells = #[.string ⟨#[]⟩] from rfl, made_strs z n] at h
  exact h
theorem gnew_yes {tx : Int → ByteArray} (z : tx 0 = ⟨#[]⟩) (n : Nat) (w : World) (h1 : 1 ≤ n) (h2 : n ≤ 65536) : Calls Tryd.prog 37 #[.int .i64 n] w fun e w' => ∃ p sb ob wb, e = .returned (.tuple #[.pointer (some ⟨p, 0, none⟩), .int .i64 0]) ∧ (w.heap.size ≤ p ∧ w.heap.size ≤ sb ∧ w.heap.size ≤ ob ∧ w.heap.size ≤ wb) ∧ SlAt tx w' p sb ob wb n (fun _ => false) (List.replicate n 0) (List.replicate ((n + 63) / 64) 0) ∧ Below w.heap.size w w' := by
  have H := Aside0.mk (new_yes n w h1 h2)
  have hmk := make_texts z n (by omega)
  have hz := Aside0.mk z
  clear z
  go_enter Tryd.func37, Tryd.ntmps37
  go_wp2_with fail
  refine H.out.mono ?_
  rintro e w1 ⟨ob, wb, rfl, a1, a2, hb, hB⟩
  have HH := Aside0.mk (And.intro a1 (And.intro a2 (And.intro hb hB)))
  clear a1 a2 hb hB H
  go_wp2
  go_ret2
  have k1 := blk_new w1 (.cells (strs tx (List.replicate n 0)).toArray 9)
  have k2 := blk_new (w1.alloc (.cells (strs tx (List.replicate n 0)).toArray 9)) (.cells #[.slice (some ⟨w1.heap.size, 0, none⟩) n n, .pointer (some ⟨ob, 0, none⟩)] 111)
  simp only [World.size_alloc] at k2
  have B2 := below_alloc (below_alloc (Below.refl w1.heap.size w1) (.cells (strs tx (List.replicate n 0)).toArray 9)) (.cells #[.slice (some ⟨w1.heap.size, 0, none⟩) n n, .pointer (some ⟨ob, 0, none⟩)] 111)
  have hsz := HH.out.2.2.2.size
  exact ⟨w1.heap.size + 1, w1.heap.size, ob, wb, rfl, ⟨by omega, by omega, HH.out.1, HH.out.2.1⟩, ⟨hz.out, by rw [List.length_replicate]; exact k2, blk_alloc k1 _, by simp, HH.out.2.2.1.below B2⟩, below_step HH.out.2.2.2 B2⟩
section
variable {tx : Int → ByteArray} {w : World} {p sb ob wb n : Nat} {f : Nat → Bool} {xs : List Int} {vs : List Nat}
theorem cap_any (h : SlAt tx w p sb ob wb n f xs vs) : Calls Tryd.prog 48 #[.pointer (some ⟨p, 0, none⟩)] w fun e w' => e = .returned (.int .i64 n) ∧ w = w' := by
  have c0 := h.c0
  clear h
  go_enter Tryd.func48, Tryd.ntmps48
  go_wp2
  go_ret
  exact ⟨rfl, rfl⟩
theorem slen_any (h : SlAt tx w p sb ob wb n f xs vs) : Calls Tryd.prog 88 #[.pointer (some ⟨p, 0, none⟩)] w fun e w' => e = .returned (.int .i64 (cntF f n)) ∧ Drawn0 w w' := by
  have c1 := h.c1
  have H := Aside0.mk h.bits
  clear h
  go_enter Tryd.func88, Tryd.ntmps88
  go_wp2_with fail
  refine (count_any H.out).mono ?_
  rintro e w1 ⟨rfl, hw⟩
  go_wp2
  go_ret
  exact ⟨rfl, hw⟩
theorem snext_any (h : SlAt tx w p sb ob wb n f xs vs) (hT : Tb w) (i : Int) : Calls Tryd.prog 119 #[.pointer (some ⟨p, 0, none⟩), .int .i64 i] w fun e w' => e = .returned (.int .i64 (nextI f n i)) ∧ Drawn0 w w' := by
  have c1 := h.c1
  have H := Aside0.mk (next_any h.bits hT i)
  clear h hT
  go_enter Tryd.func119, Tryd.ntmps119
  go_wp2_with fail
  refine H.out.mono ?_
  rintro e w1 ⟨rfl, hw⟩
  go_wp2
  go_ret
  exact ⟨rfl, hw⟩
theorem at_on (h : SlAt tx w p sb ob wb n f xs vs) {i : Nat} (hi : i < n) (hf : f i = true) : Calls Tryd.prog 79 #[.pointer (some ⟨p, 0, none⟩), .int .i64 i] w fun e w' => e = .returned (.tuple #[.string (tx (xs.getD i 0)), .bool true]) ∧ w = w' := by
  have c0 := h.c0
  have c1 := h.c1
  have c2 := h.cell hi
  have H := has_in h.bits hi
  rw [hf] at H
  have HH := Aside0.mk H
  clear h H hf
  generalize xs.getD i 0 = x at *
  go_enter Tryd.func79, Tryd.ntmps79
  go_wp2_with fail
  refine HH.out.mono ?_
  rintro e w1 ⟨rfl, rfl⟩
  go_wp2
  go_ret2
  exact ⟨rfl, rfl⟩
theorem at_off (h : SlAt tx w p sb ob wb n f xs vs) {i : Int} (hi : i < 0 ∨ (n : Int) ≤ i ∨ f i.toNat = false) : Calls Tryd.prog 79 #[.pointer (some ⟨p, 0, none⟩), .int .i64 i] w fun e w' => e = .returned (.tuple #[.string ⟨#[]⟩, .bool false]) ∧ w = w' := by
  have c1 := h.c1
  have H : Calls Tryd.prog 75 #[.pointer (some ⟨ob, 0, none⟩), .int .i64 i] w fun e w' => e = .returned (.bool false) ∧ w = w' := by
    by_cases h1 : i < 0
    · exact has_out h.bits (.inl h1)
    · by_cases h2 : (n : Int) ≤ i
      · exact has_out h.bits (.inr h2)
      · obtain ⟨k, rfl⟩ := Int.eq_ofNat_of_zero_le (show 0 ≤ i by omega)
        have h3 : f k = false := by
          rcases hi with h | h | h
          · omega
          · omega
          · exact h
        have := has_in h.bits (show k < n by omega)
        rw [h3] at this
        exact this
  have HH := Aside0.mk H
  clear h H hi
  go_enter Tryd.func79, Tryd.ntmps79
  go_wp2_with fail
  refine HH.out.mono ?_
  rintro e w1 ⟨rfl, rfl⟩
  go_wp2
  go_ret2
  exact ⟨rfl, rfl⟩

theorem look_any (h : SlAt tx w p sb ob wb n f xs vs) {A : Option Addr} {c : Nat} {l : List Int} (hr : Kd.C (Kd.int .i64) w A l.length l) (hl : l.length ≤ 100) : Calls Tryd.prog 82 #[.pointer (some ⟨p, 0, none⟩), .slice A l.length c] w fun e w' => e = .returned (.int .i64 (lookE n l)) ∧ w = w' := by
  have c0 := h.c0
  have HR := Aside0.mk hr
  have hn := h.bits.high
  clear h hr
  go_enter Tryd.func82, Tryd.ntmps82
  go_wp2
  go_loopg [6, 11] l.length (fun kq v6 v11 w' => ∃ k : Nat, v11 = .int .i64 k ∧ k ≤ l.length ∧ Aside0 (l.length - k ≤ kq) ∧ Aside0 (∀ j, j < k → 0 ≤ l.getD j 0 ∧ l.getD j 0 < n) ∧ w = w')
  case atStart => exact ⟨0, rfl, by omega, ⟨by omega⟩, ⟨fun j hj => by omega⟩, rfl⟩
  case round =>
    obtain ⟨k, rfl, hk, HQ, HA, rfl⟩ := hrel
    by_cases hlt : k < l.length
    · obtain ⟨ad, e, hx⟩ := Kd.at_int HR.out (k : Int) (by omega) (by omega)
      cases e
      rw [Int.toNat_natCast, show rd l (k : Int) = l.getD k 0 from rfl] at hx
      by_cases hg : 0 ≤ l.getD k 0 ∧ l.getD k 0 < n
      · have HN : Aside0 (∀ j, j < k + 1 → 0 ≤ l.getD j 0 ∧ l.getD j 0 < n) := ⟨fun j hj => by
          by_cases e : j = k
          · subst e; exact hg
          · exact HA.out j (by omega)⟩
        generalize l.getD k 0 = x at *
        have g1 : decide (x < 0) = false := decide_eq_false (by omega)
        have g2 : decide ((n : Int) ≤ x) = false := decide_eq_false (by omega)
        have g3 : ¬ x < 0 := by omega
        have g4 : ¬ (n : Int) ≤ x := by omega
        obtain ⟨gk, rfl⟩ : ∃ m, gk = m + 1 := ⟨gk - 1, by have := HQ.out; omega⟩
        clear hg
        go_wp2
        go_roundg gk
        case measure => omega
        case rel => exact ⟨k + 1, by go_num, by omega, ⟨by have := HQ.out; omega⟩, HN, rfl⟩
      · have HE : Aside0 (lookE n l = 10) := ⟨by
          unfold lookE
          rw [if_neg]
          intro hall
          rw [List.all_eq_true] at hall
          have hm := hall (l.getD k 0) (by rw [List.getD_eq_getElem?_getD, List.getElem?_eq_getElem hlt]; exact List.getElem_mem hlt)
          exact hg (of_decide_eq_true hm)⟩
        generalize l.getD k 0 = x at *
        by_cases h0 : x < 0
        · clear hg
          go_wp2
          go_ret
          exact ⟨by rw [HE.out]; rfl, rfl⟩
        · have g2 : (n : Int) ≤ x := by omega
          clear hg
          go_wp2
          go_ret
          exact ⟨by rw [HE.out]; rfl, rfl⟩
    · have HE : Aside0 (lookE n l = 0) := ⟨by
        unfold lookE
        rw [if_pos]
        rw [List.all_eq_true]
        intro x hx
        obtain ⟨j, hj, rfl⟩ := List.mem_iff_getElem.1 hx
        have := HA.out j (by omega)
        rw [List.getD_eq_getElem?_getD, List.getElem?_eq_getElem hj] at this
        exact decide_eq_true this⟩
      go_wp2
      go_ret
      exact ⟨by rw [HE.out]; rfl, rfl⟩
end
end Go.Proofs.YtofkkdjbilklcaaDoor.HS
/- Walks of the arrays with gaps: put, taken, moved. -/
namespace Go.Proofs.YtofkkdjbilklcaaDoor.HS
open Go.RowKit Go.Shelf Go.Proofs.YtofkkdjbilklcaaDoorW.PrintWords Go.Proofs.YtofkkdjbilklcaaDoorW.PrintLast Go.Proofs.YtofkkdjbilklcaaDoorW.PrintMore G1 G0 Q1 G2 G3 G4 G5 G6 G7 G8 G9 G10
set_option linter.unusedVariables false
set_option linter.unusedSimpArgs false

section
variable {tx : Int → ByteArray} {w : World} {p sb ob wb n : Nat} {f : Nat → Bool} {xs : List Int} {vs : List Nat}
theorem look_one (h : SlAt tx w p sb ob wb n f xs vs) (i : Int) : Calls Tryd.prog 82 #[.pointer (some ⟨p, 0, none⟩), .slice (some ⟨w.heap.size, 0, none⟩) 1 1] (w.alloc (.cells #[.int .i64 i] 3)) fun e w' => e = .returned (.int .i64 (if 0 ≤ i ∧ i < n then 0 else 10)) ∧ w.alloc (.cells #[.int .i64 i] 3) = w' := by
  have hb := below_alloc (Below.refl w.heap.size w) (.cells #[.int .i64 i] 3)
  have H := look_any (h.below hb) (c := 1) (lit_reads w [i] (by simp)) (by simp)
  have e : lookE n [i] = if 0 ≤ i ∧ i < n then 0 else 10 := by simp [lookE]
  rw [e] at H
  exact H
theorem look_two (h : SlAt tx w p sb ob wb n f xs vs) (i j : Int) : Calls Tryd.prog 82 #[.pointer (some ⟨p, 0, none⟩), .slice (some ⟨w.heap.size, 0, none⟩) 2 2] (w.alloc (.cells #[.int .i64 i, .int .i64 j] 3)) fun e w' => e = .returned (.int .i64 (if (0 ≤ i ∧ i < n) ∧ 0 ≤ j ∧ j < n then 0 else 10)) ∧ w.alloc (.cells #[.int .i64 i, .int .i64 j] 3) = w' := by
  have hb := below_alloc (Below.refl w.heap.size w) (.cells #[.int .i64 i, .int .i64 j] 3)
  have H := look_any (h.below hb) (c := 2) (lit_reads w [i, j] (by simp)) (by simp)
  have e : lookE n [i, j] = if (0 ≤ i ∧ i < n) ∧ 0 ≤ j ∧ j < n then 0 else 10 := by simp [lookE]
  rw [e] at H
  exact H
theorem put_out (h : SlAt tx w p sb ob wb n f xs vs) {i : Int} (hi : ¬ (0 ≤ i ∧ i < n)) (x : Int) : Calls Tryd.prog 38 #[.pointer (some ⟨p, 0, none⟩), .int .i64 i, .string (tx x)] w fun e w' => e = .returned (.int .i64 10) ∧ Below w.heap.size w w' := by
  have L := look_one h i
  rw [if_neg hi] at L
  have HL := Aside0.mk L
  have HB := Aside0.mk (below_alloc (Below.refl w.heap.size w) (.cells #[.int .i64 i] 3))
  clear h L hi
  go_enter Tryd.func38, Tryd.ntmps38
  go_wp2_with fail
  refine HL.out.mono ?_
  rintro e w1 ⟨rfl, rfl⟩
  go_wp2
  go_ret
  exact ⟨rfl, HB.out⟩
theorem put_there (h : SlAt tx w p sb ob wb n f xs vs) {i : Nat} (hi : i < n) (hf : f i = true) (x : Int) : Calls Tryd.prog 38 #[.pointer (some ⟨p, 0, none⟩), .int .i64 i, .string (tx x)] w fun e w' => e = .returned (.int .i64 15) ∧ Below w.heap.size w w' := by
  have L := look_one h i
  rw [if_pos (by omega)] at L
  have HL := Aside0.mk L
  have hb := below_alloc (Below.refl w.heap.size w) (.cells #[.int .i64 i] 3)
  have HB := Aside0.mk hb
  have h2 := h.below hb
  have c1 := h2.c1
  have H := has_in h2.bits hi
  rw [hf] at H
  have HH := Aside0.mk H
  clear h L hf h2 hb H
  go_enter Tryd.func38, Tryd.ntmps38
  go_wp2_with fail
  refine HL.out.mono ?_
  rintro e w1 ⟨rfl, rfl⟩
  go_wp2_with fail
  refine HH.out.mono ?_
  rintro e w1 ⟨rfl, rfl⟩
  go_wp2
  go_ret
  exact ⟨rfl, HB.out⟩
theorem put_yes (h : SlAt tx w p sb ob wb n f xs vs) {i : Nat} (hi : i < n) (hf : f i = false) (x : Int) : Calls Tryd.prog 38 #[.pointer (some ⟨p, 0, none⟩), .int .i64 i, .string (tx x)] w fun e w' => e = .returned (.int .i64 0) ∧ ∃ vs', SlAt tx w' p sb ob wb n (upd f i true) (xs.set i x) vs' ∧ Only (Mine sb wb) w w' := by
  have L := look_one h i
  rw [if_pos (by omega)] at L
  have HL := Aside0.mk L
  have hb := below_alloc (Below.refl w.heap.size w) (.cells #[.int .i64 i] 3)
  have HB := Aside0.mk hb
  have h2 := h.below hb
  have c0 := h2.c0
  have c1 := h2.c1
  have c2 := h2.cell hi
  have f2 := blk_frozen h2.hs i
  have H := has_in h2.bits hi
  rw [hf] at H
  have HH := Aside0.mk H
  have h3 := h2.store (i := i) x
  have H3 := Aside0.mk h3
  have d1 := h3.c1
  have HA := Aside0.mk h2.apart
  have HS := Aside0.mk (set_any h3.bits hi true)
  clear h L hf h2 hb H h3
  generalize xs.getD i 0 = x0 at c2
  go_enter Tryd.func38, Tryd.ntmps38
  go_wp2_with fail
  refine HL.out.mono ?_
  rintro e w1 ⟨rfl, rfl⟩
  go_wp2_with fail
  refine HH.out.mono ?_
  rintro e w1 ⟨rfl, rfl⟩
  go_wp2_with fail
  refine HS.out.mono ?_
  rintro e w2 ⟨rfl, vs', hb', ho⟩
  have HF := Aside0.mk (And.intro hb' ho)
  clear hb' ho
  go_wp2
  go_ret
  obtain ⟨a1, a2, a3, a4, a5, a6⟩ := HA.out
  have ho := HF.out.2
  refine ⟨rfl, vs', ⟨H3.out.z, ho.blk H3.out.hp (fun e => a3 e), ho.blk H3.out.hs (fun e => a5 e), H3.out.len, HF.out.1⟩, ?_⟩
  exact ((Only.of_below HB.out).then_ (Only.set (Mine sb wb) _ (p := ⟨sb, i, none⟩) (.inl rfl) _) (fun _ h => .inl h)).then_ ho (fun k hk => .inl (.inr hk))
theorem take_out (h : SlAt tx w p sb ob wb n f xs vs) {i : Int} (hi : ¬ (0 ≤ i ∧ i < n)) : Calls Tryd.prog 138 #[.pointer (some ⟨p, 0, none⟩), .int .i64 i] w fun e w' => e = .returned (.tuple #[.string ⟨#[]⟩, .int .i64 10]) ∧ Below w.heap.size w w' := by
  have L := look_one h i
  rw [if_neg hi] at L
  have HL := Aside0.mk L
  have HB := Aside0.mk (below_alloc (Below.refl w.heap.size w) (.cells #[.int .i64 i] 3))
  clear h L hi
  go_enter Tryd.func138, Tryd.ntmps138
  go_wp2_with fail
  refine HL.out.mono ?_
  rintro e w1 ⟨rfl, rfl⟩
  go_wp2
  go_ret2
  exact ⟨rfl, HB.out⟩
theorem take_none (h : SlAt tx w p sb ob wb n f xs vs) {i : Nat} (hi : i < n) (hf : f i = false) : Calls Tryd.prog 138 #[.pointer (some ⟨p, 0, none⟩), .int .i64 i] w fun e w' => e = .returned (.tuple #[.string ⟨#[]⟩, .int .i64 14]) ∧ Below w.heap.size w w' := by
  have L := look_one h i
  rw [if_pos (by omega)] at L
  have HL := Aside0.mk L
  have hb := below_alloc (Below.refl w.heap.size w) (.cells #[.int .i64 i] 3)
  have HB := Aside0.mk hb
  have h2 := h.below hb
  have c1 := h2.c1
  have H := has_in h2.bits hi
  rw [hf] at H
  have HH := Aside0.mk H
  clear h L hf h2 hb H
  go_enter Tryd.func138, Tryd.ntmps138
  go_wp2_with fail
  refine HL.out.mono ?_
  rintro e w1 ⟨rfl, rfl⟩
  go_wp2_with fail
  refine HH.out.mono ?_
  rintro e w1 ⟨rfl, rfl⟩
  go_wp2
  go_ret2
  exact ⟨rfl, HB.out⟩
theorem take_yes (h : SlAt tx w p sb ob wb n f xs vs) {i : Nat} (hi : i < n) (hf : f i = true) : Calls Tryd.prog 138 #[.pointer (some ⟨p, 0, none⟩), .int .i64 i] w fun e w' => e = .returned (.tuple #[.string (tx (xs.getD i 0)), .int .i64 0]) ∧ ∃ vs', SlAt tx w' p sb ob wb n (upd f i false) (xs.set i 0) vs' ∧ Only (Mine sb wb) w w' := by
  have L := look_one h i
  rw [if_pos (by omega)] at L
  have HL := Aside0.mk L
  have hb := below_alloc (Below.refl w.heap.size w) (.cells #[.int .i64 i] 3)
  have HB := Aside0.mk hb
  have h2 := h.below hb
  have c0 := h2.c0
  have c1 := h2.c1
  have c2 := h2.cell hi
  have f2 := blk_frozen h2.hs i
  have H := has_in h2.bits hi
  rw [hf] at H
  have HH := Aside0.mk H
  have h3 := h2.store (i := i) 0
  rw [h2.z] at h3
  have H3 := Aside0.mk h3
  have d1 := h3.c1
  have HA := Aside0.mk h2.apart
  have HS := Aside0.mk (set_any h3.bits hi false)
  clear h L hf h2 hb H h3
  generalize xs.getD i 0 = x0 at *
  go_enter Tryd.func138, Tryd.ntmps138
  go_wp2_with fail
  refine HL.out.mono ?_
  rintro e w1 ⟨rfl, rfl⟩
  go_wp2_with fail
  refine HH.out.mono ?_
  rintro e w1 ⟨rfl, rfl⟩
  go_wp2_with fail
  refine HS.out.mono ?_
  rintro e w2 ⟨rfl, vs', hb', ho⟩
  have HF := Aside0.mk (And.intro hb' ho)
  clear hb' ho
  go_wp2
  go_ret2
  obtain ⟨a1, a2, a3, a4, a5, a6⟩ := HA.out
  have ho := HF.out.2
  refine ⟨rfl, vs', ⟨H3.out.z, ho.blk H3.out.hp (fun e => a3 e), ho.blk H3.out.hs (fun e => a5 e), H3.out.len, HF.out.1⟩, ?_⟩
  exact ((Only.of_below HB.out).then_ (Only.set (Mine sb wb) _ (p := ⟨sb, i, none⟩) (.inl rfl) _) (fun _ h => .inl h)).then_ ho (fun k hk => .inl (.inr hk))
end
end Go.Proofs.YtofkkdjbilklcaaDoor.HS
/- Walks of the arrays with gaps: an element moved. -/
namespace Go.Proofs.YtofkkdjbilklcaaDoor.HS
open Go.RowKit Go.Shelf Go.Proofs.YtofkkdjbilklcaaDoorW.PrintWords Go.Proofs.YtofkkdjbilklcaaDoorW.PrintLast Go.Proofs.YtofkkdjbilklcaaDoorW.PrintMore G1 G0 Q1 G2 G3 G4 G5 G6 G7 G8 G9 G10
set_option linter.unusedVariables false
set_option linter.unusedSimpArgs false
section
variable {tx : Int → ByteArray} {w : World} {p sb ob wb n : Nat} {f : Nat → Bool} {xs : List Int} {vs : List Nat}
theorem move_out (h : SlAt tx w p sb ob wb n f xs vs) {i j : Int} (hi : ¬ ((0 ≤ i ∧ i < n) ∧ 0 ≤ j ∧ j < n)) : Calls Tryd.prog 118 #[.pointer (some ⟨p, 0, none⟩), .int .i64 i, .int .i64 j] w fun e w' => e = .returned (.int .i64 10) ∧ Below w.heap.size w w' := by
  have L := look_two h i j
  rw [if_neg hi] at L
  have HL := Aside0.mk L
  have HB := Aside0.mk (below_alloc (Below.refl w.heap.size w) (.cells #[.int .i64 i, .int .i64 j] 3))
  clear h L hi
  go_enter Tryd.func118, Tryd.ntmps118
  go_wp2_with fail
  refine HL.out.mono ?_
  rintro e w1 ⟨rfl, rfl⟩
  go_wp2
  go_ret
  exact ⟨rfl, HB.out⟩
theorem move_none (h : SlAt tx w p sb ob wb n f xs vs) {i j : Nat} (hi : i < n) (hj : j < n) (hf : f i = false) : Calls Tryd.prog 118 #[.pointer (some ⟨p, 0, none⟩), .int .i64 i, .int .i64 j] w fun e w' => e = .returned (.int .i64 14) ∧ Below w.heap.size w w' := by
  have L := look_two h i j
  rw [if_pos (by omega)] at L
  have HL := Aside0.mk L
  have hb := below_alloc (Below.refl w.heap.size w) (.cells #[.int .i64 i, .int .i64 j] 3)
  have HB := Aside0.mk hb
  have h2 := h.below hb
  have c1 := h2.c1
  have H := has_in h2.bits hi
  rw [hf] at H
  have HH := Aside0.mk H
  clear h L hf h2 hb H
  go_enter Tryd.func118, Tryd.ntmps118
  go_wp2_with fail
  refine HL.out.mono ?_
  rintro e w1 ⟨rfl, rfl⟩
  go_wp2_with fail
  refine HH.out.mono ?_
  rintro e w1 ⟨rfl, rfl⟩
  go_wp2
  go_ret
  exact ⟨rfl, HB.out⟩
theorem move_there (h : SlAt tx w p sb ob wb n f xs vs) {i j : Nat} (hi : i < n) (hj : j < n) (hf : f i = true) (hf2 : f j = true) : Calls Tryd.prog 118 #[.pointer (some ⟨p, 0, none⟩), .int .i64 i, .int .i64 j] w fun e w' => e = .returned (.int .i64 15) ∧ Below w.heap.size w w' := by
  have L := look_two h i j
  rw [if_pos (by omega)] at L
  have HL := Aside0.mk L
  have hb := below_alloc (Below.refl w.heap.size w) (.cells #[.int .i64 i, .int .i64 j] 3)
  have HB := Aside0.mk hb
  have h2 := h.below hb
  have c1 := h2.c1
  have H := has_in h2.bits hi
  rw [hf] at H
  have HH := Aside0.mk H
  have G := has_in h2.bits hj
  rw [hf2] at G
  have HG := Aside0.mk G
  clear h L hf hf2 h2 hb H G
  go_enter Tryd.func118, Tryd.ntmps118
  go_wp2_with fail
  refine HL.out.mono ?_
  rintro e w1 ⟨rfl, rfl⟩
  go_wp2_with fail
  refine HH.out.mono ?_
  rintro e w1 ⟨rfl, rfl⟩
  go_wp2_with fail
  refine HG.out.mono ?_
  rintro e w1 ⟨rfl, rfl⟩
  go_wp2
  go_ret
  exact ⟨rfl, HB.out⟩
theorem move_yes (h : SlAt tx w p sb ob wb n f xs vs) {i j : Nat} (hi : i < n) (hj : j < n) (hf : f i = true) (hf2 : f j = false) : Calls Tryd.prog 118 #[.pointer (some ⟨p, 0, none⟩), .int .i64 i, .int .i64 j] w fun e w' => e = .returned (.int .i64 0) ∧ ∃ vs', SlAt tx w' p sb ob wb n (upd (upd f i false) j true) ((xs.set i 0).set j (xs.getD i 0)) vs' ∧ Only (Mine sb wb) w w' := by
  have L := look_two h i j
  rw [if_pos (by omega)] at L
  have HL := Aside0.mk L
  have hb := below_alloc (Below.refl w.heap.size w) (.cells #[.int .i64 i, .int .i64 j] 3)
  have HB := Aside0.mk hb
  have h2 := h.below hb
  have c1 := h2.c1
  have H := has_in h2.bits hi
  rw [hf] at H
  have HH := Aside0.mk H
  have G := has_in h2.bits hj
  rw [hf2] at G
  have HG := Aside0.mk G
  have HT := Aside0.mk (take_yes h2 hi hf)
  have hne : j ≠ i := fun e => by rw [e, hf] at hf2; cases hf2
  have hu : upd f i false j = false := by unfold upd; rw [if_neg hne]; exact hf2
  have HU := Aside0.mk hu
  obtain ⟨x, hx⟩ : ∃ x, xs.getD i 0 = x := ⟨_, rfl⟩
  rw [hx] at HT
  clear h L hf hf2 h2 hb H G hne hu
  rw [hx]
  clear hx
  go_enter Tryd.func118, Tryd.ntmps118
  go_wp2_with fail
  refine HL.out.mono ?_
  rintro e w1 ⟨rfl, rfl⟩
  go_wp2_with fail
  refine HH.out.mono ?_
  rintro e w1 ⟨rfl, rfl⟩
  go_wp2_with fail
  refine HG.out.mono ?_
  rintro e w1 ⟨rfl, rfl⟩
  go_wp2_with fail
  refine HT.out.mono ?_
  rintro e w2 ⟨rfl, vs1, h3, o1⟩
  have H3 := Aside0.mk (And.intro h3 o1)
  clear h3 o1
  go_wp2_with fail
  refine (put_yes H3.out.1 hj HU.out x).mono ?_
  rintro e w3 ⟨rfl, vs2, h4, o2⟩
  have H4 := Aside0.mk (And.intro h4 o2)
  clear h4 o2
  go_wp2
  go_ret
  exact ⟨rfl, vs2, H4.out.1, ((Only.of_below HB.out).then_ H3.out.2 (fun _ h => .inl h)).trans H4.out.2⟩
end
end Go.Proofs.YtofkkdjbilklcaaDoor.HS
/- Walks of the arrays with gaps: all that is occupied, gone through. -/
namespace Go.Proofs.YtofkkdjbilklcaaDoor.HS
open Go.RowKit Go.Shelf Go.Proofs.YtofkkdjbilklcaaDoorW.PrintWords Go.Proofs.YtofkkdjbilklcaaDoorW.PrintLast Go.Proofs.YtofkkdjbilklcaaDoorW.PrintMore G1 G0 Q1 G2 G3 G4 G5 G6 G7 G8 G9 G10
set_option linter.unusedVariables false
set_option linter.unusedSimpArgs false
attribute [local go_sem] Oper.semAt_some

theorem SlAt.stay {tx : Int → ByteArray} {w w' : World} {p sb ob wb n : Nat} {f : Nat → Bool} {xs : List Int} {vs : List Nat} (h : SlAt tx w p sb ob wb n f xs vs) {K : List Nat} (hs : Stay K w w') (h1 : p ∈ K) (h2 : sb ∈ K) (h3 : ob ∈ K) (h4 : wb ∈ K) : SlAt tx w' p sb ob wb n f xs vs :=
  ⟨h.z, (hs p h1).trans h.hp, (hs sb h2).trans h.hs, h.len, ⟨h.bits.low, h.bits.high, (hs ob h3).trans h.bits.ho, (hs wb h4).trans h.bits.hw, h.bits.len, h.bits.small, h.bits.bit, h.bits.out⟩⟩
set_option maxRecDepth 100000 in
set_option maxHeartbeats 2000000 in
/-- **All's function, for every body that keeps the array's blocks.** -/
theorem all1_in {tx : Int → ByteArray} (m : Nat) (hm : 1 ≤ m) (l Bn : Nat) {p sb ob wb n : Nat} {f : Nat → Bool} {xs : List Int} {vs : List Nat} (K : List Nat) (hK : Bn ∈ K ∧ p ∈ K ∧ sb ∈ K ∧ ob ∈ K ∧ wb ∈ K ∧ 1 ∈ K) (J Jx : List (Nat × Int) → World → Prop)
    (hJ : ∀ pre W W', J pre W → (∃ d, W' = W.drewN d) → J pre W')
    (hY : ∀ pre x W, J pre W → pre.length < cntF f n → YieldAt Fence.wide (m - 1) Tryd.prog l #[.int .i64 (x.1 : Int), .string (tx x.2)] W fun e W' =>
      (e = .returned (.bool true) ∧ J (pre ++ [x]) W' ∧ Stay K W W') ∨ (e = .returned (.bool false) ∧ Jx (pre ++ [x]) W'))
    (W : World) (hB : W.heap[Bn]? = some (.cells #[.pointer (some ⟨p, 0, none⟩)] 56 (0, 0))) (hS : SlAt tx W p sb ob wb n f xs vs) (hT : Tb W) (h0 : J [] W) :
    CallsIn Fence.wide m Tryd.prog 120 #[.func (.yield l) #[] #[], .pointer (some ⟨Bn, 0, none⟩)] W fun e W' => (∃ v, e = .returned v) ∧
      ((∃ ys, ys = ons f xs n ∧ J ys W') ∨ (∃ pre, (∃ k, k ≤ n ∧ pre = ons f xs k) ∧ Jx pre W')) := by
  have HS := Aside0.mk hS
  have HT := Aside0.mk hT
  have HB := Aside0.mk hB
  have HJ0 := Aside0.mk h0
  have HJ := Aside0.mk hJ
  have HY := Aside0.mk hY
  have HK := Aside0.mk hK
  have hn := hS.bits.high
  have c0 : W.cell? ⟨Bn, 0, none⟩ = some (.pointer (some ⟨p, 0, none⟩)) := (blk_cell hB 0).trans rfl
  have N0 := Aside0.mk (snext_any hS hT 0)
  clear hS hT hB h0 hJ hY hK
  refine callsIn_of_wp Tryd.func120 rfl trivial ?_ rfl
  simp only [Tryd.ntmps120, List.size_toArray, List.length_cons, List.length_nil, Nat.reduceAdd, Nat.reduceSub, Array.replicate_succ, Array.replicate_zero, List.push_toArray, List.append_toArray, List.nil_append, List.cons_append]
  gi_wp2_with (refine ⟨trivial, ?_⟩; gi_at_call 119; refine (callsIn_wide.2 N0.out).mono ?_; rintro e w1 ⟨rfl, hw⟩; have HW := Aside0.mk hw; clear hw)
  have HJ1 := Aside0.mk (HJ.out _ _ _ HJ0.out HW.out.out)
  have HS1 := Aside0.mk (HS.out.below HW.out.below)
  have HT1 := Aside0.mk (Kd.C_below HT.out HW.out.below)
  have HB1 := Aside0.mk (blk_below HB.out HW.out.below)
  clear c0 N0 HJ0 HS HT HB
  gi_loopw [3] (fun i wr => ∃ j : Nat, j ≤ n ∧ i = .int .i64 (nextI f n (j : Int)) ∧ Aside0 (J (ons f xs j) wr) ∧ Aside0 (SlAt tx wr p sb ob wb n f xs vs) ∧ Aside0 (Tb wr) ∧ Aside0 (wr.heap[Bn]? = some (.cells #[.pointer (some ⟨p, 0, none⟩)] 56 (0, 0))))
    (fun i _ => leftM n i)
  case atStart => exact ⟨0, by omega, rfl, by rw [ons_zero]; exact HJ1, HS1, HT1, HB1⟩
  case round =>
    clear HJ1 HS1 HT1 HB1 HW
    obtain ⟨j, hj, rfl, HJ1, HS, HT, HB⟩ := hrel
    have c0 : (_ : Option Value) = some (.pointer (some ⟨p, 0, none⟩)) := (blk_cell HB.out 0).trans rfl
    rcases next_cases f n j hj with ⟨e1, h2⟩ | ⟨t, e1, h2, h3, h4, h5⟩
    · rw [e1]
      have HE := Aside0.mk (ons_skip (xs := xs) hj h2)
      clear e1 h2
      gi_wp2
      go_end0
      exact ⟨⟨_, rfl⟩, .inl ⟨_, rfl, by rw [HE.out]; exact HJ1.out⟩⟩
    · rw [e1]
      have HE := Aside0.mk (ons_skip (xs := xs) h2 h5)
      have c1 := HS.out.c0
      have c2 := HS.out.cell h3
      have HH4 := Aside0.mk h4
      have HE1 := Aside0.mk e1
      clear e1 h5 h4
      obtain ⟨fn, tmps, assign, body, hy, hR⟩ := HY.out _ (t, xs.getD t 0) _ HJ1.out (by rw [ons_length]; exact cntF_lt HH4.out h2 h3)
      dsimp only at hy
      have HR := Aside0.mk hR
      clear hR
      generalize hx : xs.getD t 0 = x at *
      gi_wp2
      have ES : Aside0 (ons f xs (t + 1) = ons f xs j ++ [(t, x)]) := ⟨by rw [ons_succ, HE.out, HH4.out, hx]; rfl⟩
      refine HR.out.mono ?_
      rintro e W3 (⟨rfl, hJ3, hk3⟩ | ⟨rfl, hJx3⟩)
      · have HS3 := Aside0.mk (SlAt.stay HS.out hk3 HK.out.2.1 HK.out.2.2.1 HK.out.2.2.2.1 HK.out.2.2.2.2.1)
        have HT3 := Aside0.mk (Tb_stay HT.out (hk3 1 HK.out.2.2.2.2.2))
        have HB3 := Aside0.mk ((hk3 Bn HK.out.1).trans HB.out)
        have HJ3 := Aside0.mk hJ3
        have d0 : W3.cell? ⟨Bn, 0, none⟩ = some (.pointer (some ⟨p, 0, none⟩)) := (blk_cell HB3.out 0).trans rfl
        have N3 := Aside0.mk (snext_any HS3.out HT3.out ((t : Int) + 1))
        clear hJ3 hk3 c0 c1 c2 HS HT HB HJ1 HR
        gi_wp2_with (refine ⟨trivial, ?_⟩; gi_at_call 119; refine (callsIn_wide.2 N3.out).mono ?_; rintro e w1 ⟨rfl, hw⟩; have HW := Aside0.mk hw; clear hw)
        go_roundw
        case rel => exact ⟨t + 1, by omega, by simp, ⟨by rw [ES.out]; exact HJ.out _ _ _ HJ3.out HW.out.out⟩, ⟨HS3.out.below HW.out.below⟩, ⟨Kd.C_below HT3.out HW.out.below⟩, ⟨blk_below HB3.out HW.out.below⟩⟩
        case measure =>
          rcases next_cases f n (t + 1) (by omega) with ⟨e1, _⟩ | ⟨t2, e1, g2, g3, _, _⟩
          · rw [show ((t : Int) + 1) = ((t + 1 : Nat) : Int) by omega, e1]
            rw [leftM_none, leftM_at]
            omega
          · rw [show ((t : Int) + 1) = ((t + 1 : Nat) : Int) by omega, e1]
            rw [leftM_at, leftM_at]
            omega
      · have HX := Aside0.mk hJx3
        clear hJx3 c0 c1 c2
        gi_wp2
        refine bodyPost_ret (results_none rfl _ _ _) rfl ?_
        exact ⟨⟨_, rfl⟩, .inr ⟨_, ⟨t + 1, by omega, rfl⟩, by rw [ES.out]; exact HX.out⟩⟩
end Go.Proofs.YtofkkdjbilklcaaDoor.HS
/- Walks of the arrays with gaps: their elements, and their places, in rows of their own. -/
namespace Go.Proofs.YtofkkdjbilklcaaDoor.HS
open Go.RowKit Go.Shelf Go.Proofs.YtofkkdjbilklcaaDoorW.PrintWords Go.Proofs.YtofkkdjbilklcaaDoorW.PrintLast Go.Proofs.YtofkkdjbilklcaaDoorW.PrintMore G1 G0 Q1 G2 G3 G4 G5 G6 G7 G8 G9 G10
set_option linter.unusedVariables false
set_option linter.unusedSimpArgs false
attribute [local go_sem] Oper.semAt_some

theorem all_any (p : Option Addr) (w : World) : Calls Tryd.prog 84 #[.pointer p] w fun e w' => e = .returned (.func (.func 120) #[] #[.pointer (some ⟨w.heap.size, 0, none⟩)]) ∧ w.alloc (.cells #[.pointer p] 56) = w' := by
  go_enter Tryd.func84, Tryd.ntmps84
  go_wp2
  go_ret
  exact ⟨rfl, rfl⟩
theorem all_stops {tx : Int → ByteArray} (m : Nat) (hm : 1 ≤ m) (Bn : Nat) {p sb ob wb n : Nat} {f : Nat → Bool} {xs : List Int} {vs : List Nat} {w : World} (hB : w.heap[Bn]? = some (.cells #[.pointer (some ⟨p, 0, none⟩)] 56 (0, 0))) (hS : SlAt tx w p sb ob wb n f xs vs) (hT : Tb w) :
    SeqStopsK Fence.wide m Tryd.prog 120 #[.pointer (some ⟨Bn, 0, none⟩)] (fun x : Nat × Int => #[.int .i64 (x.1 : Int), .string (tx x.2)]) (Stay [Bn, p, sb, ob, wb, 1]) (fun ys => ys = ons f xs n) (fun pre => ∃ k, k ≤ n ∧ pre = ons f xs k) n w := fun l J Jx W hW hJ hJx hY h0 =>
  all1_in m hm l Bn [Bn, p, sb, ob, wb, 1] (by simp) J Jx (fun pre W W' h ⟨d, hd⟩ => by rw [hd]; exact hJ _ _ _ none h (grown_drewN W d) (fun r e => by cases e)) (fun pre x W h hl => hY pre x W h (Nat.lt_of_lt_of_le hl (cntF_le f n))) W (blk_below hB hW) (hS.below hW) (Kd.C_below hT hW) h0
/-- The same, and no more are told than there are. -/
theorem all_stopsN {tx : Int → ByteArray} (m : Nat) (hm : 1 ≤ m) (Bn : Nat) {p sb ob wb n : Nat} {f : Nat → Bool} {xs : List Int} {vs : List Nat} {w : World} (hB : w.heap[Bn]? = some (.cells #[.pointer (some ⟨p, 0, none⟩)] 56 (0, 0))) (hS : SlAt tx w p sb ob wb n f xs vs) (hT : Tb w) :
    SeqStopsK Fence.wide m Tryd.prog 120 #[.pointer (some ⟨Bn, 0, none⟩)] (fun x : Nat × Int => #[.int .i64 (x.1 : Int), .string (tx x.2)]) (Stay [Bn, p, sb, ob, wb, 1]) (fun ys => ys = ons f xs n) (fun pre => ∃ k, k ≤ n ∧ pre = ons f xs k) (cntF f n) w := fun l J Jx W hW hJ hJx hY h0 =>
  all1_in m hm l Bn [Bn, p, sb, ob, wb, 1] (by simp) J Jx (fun pre W W' h ⟨d, hd⟩ => by rw [hd]; exact hJ _ _ _ none h (grown_drewN W d) (fun r e => by cases e)) hY W (blk_below hB hW) (hS.below hW) (Kd.C_below hT hW) h0
/-- A row of one's own is a slice. -/
theorem own_shapeS {w : World} {base e n : Nat} {v : Value} {xs : List Value} (h : w.ownsRow base e 1 v n xs) : ∃ A c, v = .slice A n c := by
  rcases h.2 with ⟨h1, h2⟩ | ⟨g, cap, cur, h1, _⟩
  · exact ⟨none, 0, by rw [h1, h2]⟩
  · exact ⟨_, _, h1⟩
set_option maxRecDepth 100000 in
set_option maxHeartbeats 4000000 in
theorem items_in {tx : Int → ByteArray} (m : Nat) (hm : 3 ≤ m) {p sb ob wb n : Nat} {f : Nat → Bool} {xs : List Int} {vs : List Nat} (w : World) (hS : SlAt tx w p sb ob wb n f xs vs) (hT : Tb w) :
    CallsIn Fence.wide m Tryd.prog 39 #[.pointer (some ⟨p, 0, none⟩)] w fun e W' => ∃ v, e = .returned v ∧ W'.ownsRow w.heap.size 9 1 v (ons f xs n).length (strs tx (vals (ons f xs n))) ∧ Below w.heap.size w W' := by
  have h1 : 1 ≤ m := by omega
  have hn := hS.bits.high
  have hz0 : 1 < w.heap.size := by
    obtain ⟨ad, e, hx⟩ := Kd.at_int hT 0 (by omega) (by omega)
    cases e
    exact World.block_lt_of_cell? w _ hx
  have q1 := blk_lt hS.hp
  have q2 := blk_lt hS.hs
  have q3 := blk_lt hS.bits.ho
  have q4 := blk_lt hS.bits.hw
  have hS0 := Aside0.mk hS
  have hT0 := Aside0.mk hT
  clear hS hT
  obtain ⟨i0, hi, hz0', hz1, hz2⟩ := info_parts info_str
  refine callsIn_of_wp_marks Tryd.func39 rfl trivial ?_ rfl
  simp only [Tryd.ntmps39, List.size_toArray, List.length_cons, List.length_nil, Nat.reduceAdd, Nat.reduceSub, Array.replicate_succ, Array.replicate_zero, List.push_toArray, List.append_toArray, List.nil_append, List.cons_append]
  gi_wp2_with (refine ⟨trivial, ?_⟩; gi_at_call 84; refine (callsIn_wide.2 (all_any _ _)).mono ?_; rintro e w' ⟨rfl, rfl⟩)
  have hB0 : Below w.heap.size w ((w.alloc (.cells #[.slice none 0 0] 55)).alloc (.cells #[.pointer (some ⟨p, 0, none⟩)] 56)) := ((Below.refl _ w).alloc (Nat.le_refl _) _).alloc (by simp) _
  have bO := Boxed.new w 55 (.slice none 0 0)
  have bN := blk_new (w.alloc (.cells #[.slice none 0 0] 55)) (.cells #[.pointer (some ⟨p, 0, none⟩)] 56)
  rw [World.size_alloc] at bN
  have hS1 := hS0.out.below hB0
  have hT1 := Kd.C_below hT0.out hB0
  refine wpIn_rangeFunc_ownG rfl h1 (gf := 120) (lb := #[.pointer (some ⟨w.heap.size + 1, 0, none⟩)]) rfl trivial (enters_of Tryd.func120 (by kernel_rfl) rfl)
    (all_stops (m - 1) (by omega) (w.heap.size + 1) bN hS1 hT1) Stay.trans (fun W l o o' a b _ _ => stay_putObj (by simp; omega) W l o o' a b) (Below.refl _ _) (fun _ => rfl)
    (fun pre W => (∃ v, Boxed W w.heap.size 55 v ∧ W.ownsRow (w.heap.size + 2) 9 1 v pre.length (strs tx (vals pre)) ∧ True) ∧ Below w.heap.size w W ∧ w.heap.size + 2 ≤ W.heap.size)
    (fun _ _ _ => False)
    (OwnFrom.and (Own.from (holdsRow_own (w.heap.size + 2) w.heap.size 55 9 1 (fun pre : List (Nat × Int) => pre.length) (fun pre => strs tx (vals pre)) (fun pre v => True)) _) (OwnFrom.and (ownFrom_below (Nat.le_refl _) (by simp; omega)) (fun s W W' row h hg hr => Nat.le_trans h hg.size)))
    (fun _ _ _ _ _ hs _ _ => hs)
    ⟨⟨_, bO.alloc _, World.ownsRow_nil _ _ _ _, trivial⟩, hB0, by simp⟩
    (fun x => { tmps := #[.pointer (some ⟨p, 0, none⟩), undef, .slice none 0 0, .pointer (some ⟨w.heap.size, 0, none⟩), undef, .string (tx x.2), .pointer (some ⟨p, 0, none⟩), .func (.func 120) #[] #[.pointer (some ⟨w.heap.size + 1, 0, none⟩)], .int .i64 (x.1 : Int), .string (tx x.2), undef, undef, undef, undef, undef], defers := [] }) ?assign ?body ?done ?stop
  case assign =>
    intro l x W K hK
    gi_wp2
    exact hK
  case body =>
    rintro l pre x W ⟨⟨v, hv, hrow, _⟩, hB, hsz⟩ hlt
    have hc := hv.cell
    have hlow := own_low hrow (show w.heap.size ≤ w.heap.size + 2 by omega)
    have EV : Aside0 (strs tx (vals (pre ++ [x])) = strs tx (vals pre) ++ [.string (tx x.2)]) := ⟨by simp [vals, strs]⟩
    gi_wp2_with (gi_at_builtin; refine wpListIn_append_own _ rfl _ _ 55 rfl (w.heap.size + 2) 9 i0 (.string ⟨#[]⟩) 1 16 Tryd.underlying55 hi hz0' hz1 hz2 rfl (by decide) _ _ _ rfl (hrow.alloc _) ⟨W.heap.size, 0, none⟩ 1 1 [.string (tx x.2)] rfl rfl (cell_one_new _ _ _) (by simp [Value.oneCell']) (by unfold maxLen; omega) (by omega) (by simp; omega) ?_; intro v' w1 hown' hgrow _; obtain ⟨g', cap', rfl⟩ := ownsRow_succ hown'; obtain ⟨hv1, hv2, hr2, hk2, hb2⟩ := hv.appended (by decide) hlow hB.size (Nat.le_refl _) (own_low hown' (show w.heap.size ≤ w.heap.size + 2 by omega)) hgrow; have hc1 := hv1.cell; have hf1 := hv1.frozen)
    have hst : Stay [w.heap.size + 1, p, sb, ob, wb, 1] W (w1.setCell ⟨w.heap.size, 0, none⟩ (.slice (some ⟨g', 0, none⟩) (pre.length + 1) cap')) := by
      intro k hk
      have hk2 : k < w.heap.size + 2 ∧ k ≠ w.heap.size := by
        simp only [List.mem_cons, List.not_mem_nil, or_false] at hk
        omega
      rw [Below.heap_setCell _ _ _ _ hk2.2, hgrow.block k (by simp; omega) (fun e => by have := own_base hrow k e.symm; omega)]
      exact Below.heap_alloc W _ k (by omega)
    refine ⟨hk2.from _, hst, ⟨_, hv2, ?_, trivial⟩, hB.trans hb2, Nat.le_trans hsz hb2.size⟩
    rw [List.length_append, EV.out]
    exact hown'.kept (grownBy_setCell' w1 _ _) (.inr (hv1.not_row (by decide) hown').symm)
  case done =>
    rintro D ys W hD rfl ⟨⟨v, hv, hrow, _⟩, hB, hsz⟩ hK
    have hc := hv.cell
    gi_wp2
    refine ⟨by simp, .inl ⟨_, _, rfl, run_takeDeferred hK, ?_⟩⟩
    exact ⟨_, results_tmp rfl _ _ _, v, rfl, own_low (ownsRow_putObj hrow _ hK rfl) (by omega), hB.trans (belowK_b (w := w) (Nat.le_refl _) W D _ _ (by simp at hD; omega) hK rfl rfl)⟩
  case stop =>
    rintro D c pre W _ _ h _
    exact h.elim
theorem items_any {tx : Int → ByteArray} {p sb ob wb n : Nat} {f : Nat → Bool} {xs : List Int} {vs : List Nat} {w : World} (hS : SlAt tx w p sb ob wb n f xs vs) (hT : Tb w) :
    Calls Tryd.prog 39 #[.pointer (some ⟨p, 0, none⟩)] w fun e w' => ∃ A c, e = .returned (.slice A (cntF f n) c) ∧ w'.ownsRow w.heap.size 9 1 (.slice A (cntF f n) c) (cntF f n) (strs tx (vals (ons f xs n))) ∧ Below w.heap.size w w' := by
  refine (callsIn_wide.1 (items_in 3 (by omega) w hS hT)).mono ?_
  rintro e w' ⟨v, rfl, hrow, hb⟩
  rw [ons_length] at hrow
  obtain ⟨A, c, rfl⟩ := own_shapeS hrow
  exact ⟨A, c, rfl, hrow, hb⟩
set_option maxRecDepth 100000 in
set_option maxHeartbeats 4000000 in
theorem places_in {tx : Int → ByteArray} (m : Nat) (hm : 3 ≤ m) {p sb ob wb n : Nat} {f : Nat → Bool} {xs : List Int} {vs : List Nat} (w : World) (hS : SlAt tx w p sb ob wb n f xs vs) (hT : Tb w) :
    CallsIn Fence.wide m Tryd.prog 41 #[.pointer (some ⟨p, 0, none⟩)] w fun e W' => ∃ v, e = .returned v ∧ W'.ownsRow w.heap.size 3 1 v (ons f xs n).length (nums .i64 (keys (ons f xs n))) ∧ Below w.heap.size w W' := by
  have h1 : 1 ≤ m := by omega
  have hn := hS.bits.high
  have hz0 : 1 < w.heap.size := by
    obtain ⟨ad, e, hx⟩ := Kd.at_int hT 0 (by omega) (by omega)
    cases e
    exact World.block_lt_of_cell? w _ hx
  have q1 := blk_lt hS.hp
  have q2 := blk_lt hS.hs
  have q3 := blk_lt hS.bits.ho
  have q4 := blk_lt hS.bits.hw
  have hS0 := Aside0.mk hS
  have hT0 := Aside0.mk hT
  clear hS hT
  obtain ⟨i0, hi, hz0', hz1, hz2⟩ := info_parts G9.info3
  refine callsIn_of_wp_marks Tryd.func41 rfl trivial ?_ rfl
  simp only [Tryd.ntmps41, List.size_toArray, List.length_cons, List.length_nil, Nat.reduceAdd, Nat.reduceSub, Array.replicate_succ, Array.replicate_zero, List.push_toArray, List.append_toArray, List.nil_append, List.cons_append]
  gi_wp2_with (refine ⟨trivial, ?_⟩; gi_at_call 84; refine (callsIn_wide.2 (all_any _ _)).mono ?_; rintro e w' ⟨rfl, rfl⟩)
  have hB0 : Below w.heap.size w ((w.alloc (.cells #[.slice none 0 0] 22)).alloc (.cells #[.pointer (some ⟨p, 0, none⟩)] 56)) := ((Below.refl _ w).alloc (Nat.le_refl _) _).alloc (by simp) _
  have bO := Boxed.new w 22 (.slice none 0 0)
  have bN := blk_new (w.alloc (.cells #[.slice none 0 0] 22)) (.cells #[.pointer (some ⟨p, 0, none⟩)] 56)
  rw [World.size_alloc] at bN
  have hS1 := hS0.out.below hB0
  have hT1 := Kd.C_below hT0.out hB0
  refine wpIn_rangeFunc_ownG rfl h1 (gf := 120) (lb := #[.pointer (some ⟨w.heap.size + 1, 0, none⟩)]) rfl trivial (enters_of Tryd.func120 (by kernel_rfl) rfl)
    (all_stops (m - 1) (by omega) (w.heap.size + 1) bN hS1 hT1) Stay.trans (fun W l o o' a b _ _ => stay_putObj (by simp; omega) W l o o' a b) (Below.refl _ _) (fun _ => rfl)
    (fun pre W => (∃ v, Boxed W w.heap.size 22 v ∧ W.ownsRow (w.heap.size + 2) 3 1 v pre.length (nums .i64 (keys pre)) ∧ True) ∧ Below w.heap.size w W ∧ w.heap.size + 2 ≤ W.heap.size)
    (fun _ _ _ => False)
    (OwnFrom.and (Own.from (holdsRow_own (w.heap.size + 2) w.heap.size 22 3 1 (fun pre : List (Nat × Int) => pre.length) (fun pre => nums .i64 (keys pre)) (fun pre v => True)) _) (OwnFrom.and (ownFrom_below (Nat.le_refl _) (by simp; omega)) (fun s W W' row h hg hr => Nat.le_trans h hg.size)))
    (fun _ _ _ _ _ hs _ _ => hs)
    ⟨⟨_, bO.alloc _, World.ownsRow_nil _ _ _ _, trivial⟩, hB0, by simp⟩
    (fun x => { tmps := #[.pointer (some ⟨p, 0, none⟩), undef, .slice none 0 0, .pointer (some ⟨w.heap.size, 0, none⟩), .int .i64 (x.1 : Int), .pointer (some ⟨p, 0, none⟩), .func (.func 120) #[] #[.pointer (some ⟨w.heap.size + 1, 0, none⟩)], .int .i64 (x.1 : Int), .string (tx x.2), undef, undef, undef, undef, undef], defers := [] }) ?assign ?body ?done ?stop
  case assign =>
    intro l x W K hK
    gi_wp2
    exact hK
  case body =>
    rintro l pre x W ⟨⟨v, hv, hrow, _⟩, hB, hsz⟩ hlt
    have hc := hv.cell
    have hlow := own_low hrow (show w.heap.size ≤ w.heap.size + 2 by omega)
    have EV : Aside0 (nums .i64 (keys (pre ++ [x])) = nums .i64 (keys pre) ++ [.int .i64 (x.1 : Int)]) := ⟨by simp [keys, nums]⟩
    gi_wp2_with (gi_at_builtin; refine wpListIn_append_own _ rfl _ _ 22 rfl (w.heap.size + 2) 3 i0 (.int .i64 0) 1 8 Tryd.underlying22 hi hz0' hz1 hz2 rfl (by decide) _ _ _ rfl (hrow.alloc _) ⟨W.heap.size, 0, none⟩ 1 1 [.int .i64 (x.1 : Int)] rfl rfl (cell_one_new _ _ _) (by simp [Value.oneCell']) (by unfold maxLen; omega) (by omega) (by simp; omega) ?_; intro v' w1 hown' hgrow _; obtain ⟨g', cap', rfl⟩ := ownsRow_succ hown'; obtain ⟨hv1, hv2, hr2, hk2, hb2⟩ := hv.appended (by decide) hlow hB.size (Nat.le_refl _) (own_low hown' (show w.heap.size ≤ w.heap.size + 2 by omega)) hgrow; have hc1 := hv1.cell; have hf1 := hv1.frozen)
    have hst : Stay [w.heap.size + 1, p, sb, ob, wb, 1] W (w1.setCell ⟨w.heap.size, 0, none⟩ (.slice (some ⟨g', 0, none⟩) (pre.length + 1) cap')) := by
      intro k hk
      have hk2 : k < w.heap.size + 2 ∧ k ≠ w.heap.size := by
        simp only [List.mem_cons, List.not_mem_nil, or_false] at hk
        omega
      rw [Below.heap_setCell _ _ _ _ hk2.2, hgrow.block k (by simp; omega) (fun e => by have := own_base hrow k e.symm; omega)]
      exact Below.heap_alloc W _ k (by omega)
    refine ⟨hk2.from _, hst, ⟨_, hv2, ?_, trivial⟩, hB.trans hb2, Nat.le_trans hsz hb2.size⟩
    rw [List.length_append, EV.out]
    exact hown'.kept (grownBy_setCell' w1 _ _) (.inr (hv1.not_row (by decide) hown').symm)
  case done =>
    rintro D ys W hD rfl ⟨⟨v, hv, hrow, _⟩, hB, hsz⟩ hK
    have hc := hv.cell
    gi_wp2
    refine ⟨by simp, .inl ⟨_, _, rfl, run_takeDeferred hK, ?_⟩⟩
    exact ⟨_, results_tmp rfl _ _ _, v, rfl, own_low (ownsRow_putObj hrow _ hK rfl) (by omega), hB.trans (belowK_b (w := w) (Nat.le_refl _) W D _ _ (by simp at hD; omega) hK rfl rfl)⟩
  case stop =>
    rintro D c pre W _ _ h _
    exact h.elim
theorem places_any {tx : Int → ByteArray} {p sb ob wb n : Nat} {f : Nat → Bool} {xs : List Int} {vs : List Nat} {w : World} (hS : SlAt tx w p sb ob wb n f xs vs) (hT : Tb w) :
    Calls Tryd.prog 41 #[.pointer (some ⟨p, 0, none⟩)] w fun e w' => ∃ A c, e = .returned (.slice A (cntF f n) c) ∧ cntF f n ≤ c ∧ Kd.C (Kd.int .i64) w' A (cntF f n) (keys (ons f xs n)) ∧ w'.ownsRow w.heap.size 3 1 (.slice A (cntF f n) c) (cntF f n) (nums .i64 (keys (ons f xs n))) ∧ Below w.heap.size w w' := by
  refine (callsIn_wide.1 (places_in 3 (by omega) w hS hT)).mono ?_
  rintro e w' ⟨v, rfl, hrow, hb⟩
  rw [ons_length] at hrow
  obtain ⟨A, c, rfl, h1, h2⟩ := own_C hrow
  exact ⟨A, c, rfl, h1, h2, hrow, hb⟩
end Go.Proofs.YtofkkdjbilklcaaDoor.HS
/- What calls do to an array of texts with gaps; such an array, and a row of texts, among other objects. -/
namespace Go.Proofs.YtofkkdjbilklcaaDoor.HS
open Go.RowKit Go.Shelf Go.Proofs.YtofkkdjbilklcaaDoorW.PrintWords Go.Proofs.YtofkkdjbilklcaaDoorW.PrintLast Go.Proofs.YtofkkdjbilklcaaDoorW.PrintMore G1 G0 Q1 G2 G3 G4 G5 G6 G7 G8 G9 G10
set_option linter.unusedVariables false
set_option linter.unusedSimpArgs false

/-- The array stands so. -/
abbrev Is (tx : Int → ByteArray) (w : World) (p sb ob wb n : Nat) (s : Gap) : Prop := ∃ vs, SlAt tx w p sb ob wb n s.on s.xs vs
section
variable {tx : Int → ByteArray} {w : World} {p sb ob wb n : Nat} {s : Gap}
theorem Is.below {w' : World} (h : Is tx w p sb ob wb n s) (hb : Below w.heap.size w w') : Is tx w' p sb ob wb n s := by
  obtain ⟨vs, h⟩ := h
  exact ⟨vs, h.below hb⟩
theorem Is.only {w' : World} {S : Nat → Prop} (h : Is tx w p sb ob wb n s) (hb : Only S w w') (h1 : ¬ S p) (h2 : ¬ S sb) (h3 : ¬ S ob) (h4 : ¬ S wb) : Is tx w' p sb ob wb n s := by
  obtain ⟨vs, h⟩ := h
  exact ⟨vs, h.only hb h1 h2 h3 h4⟩
theorem put_any (h : Is tx w p sb ob wb n s) (i x : Int) : Calls Tryd.prog 38 #[.pointer (some ⟨p, 0, none⟩), .int .i64 i, .string (tx x)] w fun e w' => e = .returned (.int .i64 (putR n s i)) ∧ Is tx w' p sb ob wb n (putS n s i x) ∧ Only (Mine sb wb) w w' := by
  obtain ⟨vs, h⟩ := h
  unfold putS putR inR
  by_cases hi : 0 ≤ i ∧ i < n
  · rw [decide_eq_true hi]
    obtain ⟨k, rfl⟩ := Int.eq_ofNat_of_zero_le hi.1
    have hk : k < n := by omega
    rw [if_pos rfl, Int.toNat_natCast]
    cases hf : s.on k with
    | true =>
      rw [if_pos rfl, if_neg (by decide)]
      exact (put_there h hk hf x).mono fun e w' ⟨h1, h2⟩ => ⟨h1, ⟨vs, h.below h2⟩, Only.of_below h2⟩
    | false =>
      rw [if_neg (by decide), if_pos rfl]
      exact (put_yes h hk hf x).mono fun e w' ⟨h1, vs', h2, h3⟩ => ⟨h1, ⟨vs', h2⟩, h3⟩
  · rw [decide_eq_false hi, if_neg (by decide), if_neg (by decide)]
    exact (put_out h hi x).mono fun e w' ⟨h1, h2⟩ => ⟨h1, ⟨vs, h.below h2⟩, Only.of_below h2⟩
theorem move_any (h : Is tx w p sb ob wb n s) (i j : Int) : Calls Tryd.prog 118 #[.pointer (some ⟨p, 0, none⟩), .int .i64 i, .int .i64 j] w fun e w' => e = .returned (.int .i64 (moveR n s i j)) ∧ Is tx w' p sb ob wb n (moveS n s i j) ∧ Only (Mine sb wb) w w' := by
  obtain ⟨vs, h⟩ := h
  unfold moveS moveR inR
  by_cases hi : (0 ≤ i ∧ i < n) ∧ 0 ≤ j ∧ j < n
  · rw [decide_eq_true hi.1, decide_eq_true hi.2]
    obtain ⟨k, rfl⟩ := Int.eq_ofNat_of_zero_le hi.1.1
    obtain ⟨m, rfl⟩ := Int.eq_ofNat_of_zero_le hi.2.1
    have hk : k < n := by omega
    have hm : m < n := by omega
    rw [Bool.and_self, if_pos rfl, Int.toNat_natCast, Int.toNat_natCast]
    cases hf : s.on k with
    | false =>
      rw [if_neg (by decide), if_neg (by decide)]
      exact (move_none h hk hm hf).mono fun e w' ⟨h1, h2⟩ => ⟨h1, ⟨vs, h.below h2⟩, Only.of_below h2⟩
    | true =>
      rw [if_pos rfl]
      cases hf2 : s.on m with
      | true =>
        rw [if_pos rfl, if_neg (by decide)]
        exact (move_there h hk hm hf hf2).mono fun e w' ⟨h1, h2⟩ => ⟨h1, ⟨vs, h.below h2⟩, Only.of_below h2⟩
      | false =>
        rw [if_neg (by decide), if_pos rfl]
        exact (move_yes h hk hm hf hf2).mono fun e w' ⟨h1, vs', h2, h3⟩ => ⟨h1, ⟨vs', h2⟩, h3⟩
  · have e : (decide (0 ≤ i ∧ i < (n : Int)) && decide (0 ≤ j ∧ j < (n : Int))) = false := by
      rw [← Bool.decide_and, decide_eq_false hi]
    rw [e, if_neg (by decide), if_neg (by decide)]
    exact (move_out h hi).mono fun e w' ⟨h1, h2⟩ => ⟨h1, ⟨vs, h.below h2⟩, Only.of_below h2⟩
theorem is_lt (h : Is tx w p sb ob wb n s) : ∀ k ∈ [p, sb, ob, wb], k < w.heap.size := by
  obtain ⟨vs, h⟩ := h
  intro k hk
  simp only [List.mem_cons, List.not_mem_nil, or_false] at hk
  rcases hk with rfl | rfl | rfl | rfl
  · exact blk_lt h.hp
  · exact blk_lt h.hs
  · exact blk_lt h.bits.ho
  · exact blk_lt h.bits.hw
end
/-- An array of texts with gaps. -/
def ArrS (tx : Int → ByteArray) (p sb ob wb n : Nat) (s : Gap) : S1.Ob where
  F := [p, sb, ob, wb]
  P := fun w => Is tx w p sb ob wb n s
  st := fun hs ⟨vs, h⟩ => ⟨vs, SlAt.stay (K := [p, sb, ob, wb]) h hs (by simp) (by simp) (by simp) (by simp)⟩
section
variable {tx : Int → ByteArray} {w0 w w' : World} {l A B : List S1.Ob} {p sb ob wb n : Nat} {s s' : Gap}
theorem sep_arr (h : S1.Sep w0 w l) (i : Nat) (e : l[i]? = some (ArrS tx p sb ob wb n s)) : Is tx w p sb ob wb n s := h.get i e
theorem sep_new (h : S1.Sep w0 w l) (hb : Below w.heap.size w w') (hs : Is tx w' p sb ob wb n s) (h4 : w.heap.size ≤ p ∧ w.heap.size ≤ sb ∧ w.heap.size ≤ ob ∧ w.heap.size ≤ wb) : S1.Sep w0 w' (l ++ [ArrS tx p sb ob wb n s]) :=
  h.push hb _ hs fun k hk => ⟨by
    have hk' := hk
    simp only [ArrS, List.mem_cons, List.not_mem_nil, or_false] at hk'
    omega, is_lt hs k hk⟩
theorem sep_turn (h : S1.Sep w0 w l) (i : Nat) (e : l[i]? = some (ArrS tx p sb ob wb n s)) (ho : Only (Mine sb wb) w w') (hs : Is tx w' p sb ob wb n s') : S1.Sep w0 w' (l.set i (ArrS tx p sb ob wb n s')) :=
  h.turn i e ho (fun k hk => by rcases hk with rfl | rfl <;> simp [ArrS]) _ hs (fun k hk => .inl hk)
theorem sep_turnR (h : S1.Sep w0 w (A ++ B)) (i : Nat) (e : B[i]? = some (ArrS tx p sb ob wb n s)) (ho : Only (Mine sb wb) w w') (hs : Is tx w' p sb ob wb n s') : S1.Sep w0 w' (A ++ B.set i (ArrS tx p sb ob wb n s')) := by
  have h1 := sep_turn h (A.length + i) ((S1.right_at e)) ho hs
  rwa [S1.right_set] at h1
end
/-- A row of texts of a function's own. -/
def OwnS (tx : Int → ByteArray) (v : Value) (xs : List Int) : S1.Ob where
  F := v.ownBlock.toList
  P := fun w => w.ownsRow 0 9 1 v xs.length (strs tx xs)
  st := fun hs h => own_move h fun k hk => hs k (by rw [hk]; simp)
theorem sep_ownS {tx : Int → ByteArray} {w0 w w' : World} {l : List S1.Ob} (h : S1.Sep w0 w l) (hb : Below w.heap.size w w') {v : Value} {xs : List Int} (hr : w'.ownsRow w.heap.size 9 1 v xs.length (strs tx xs)) : S1.Sep w0 w' (l ++ [OwnS tx v xs]) :=
  h.push hb _ (own_low hr (Nat.zero_le _)) fun k hk => by
    have hk' : v.ownBlock = some k := by simpa [OwnS] using hk
    exact ⟨own_base hr k hk', own_lt hr k hk'⟩
/-- A text of a row. -/
theorem own_cellS {tx : Int → ByteArray} {w0 w : World} {l : List S1.Ob} (h : S1.Sep w0 w l) (i : Nat) {A : Option Addr} {m c : Nat} {xs : List Int} (e : l[i]? = some (OwnS tx (.slice A m c) xs)) {j : Nat} (hj : j < xs.length) : ∃ b, A = some ⟨b, 0, none⟩ ∧ w.cell? ⟨b, j, none⟩ = some (.string (tx (xs.getD j 0))) := by
  have h0 : w.ownsRow 0 9 1 (.slice A m c) xs.length (strs tx xs) := h.get i e
  rcases h0.2 with ⟨_, h2⟩ | ⟨b, cap, cur, h1, _⟩
  · omega
  · have hA : A = some ⟨b, 0, none⟩ := by simpa using (Value.slice.inj h1).1
    subst hA
    refine ⟨b, rfl, ?_⟩
    have := h0.cells (g := b) rfl j (.string (tx (xs.getD j 0))) (by simp [strs, List.getElem?_eq_getElem hj, List.getD_eq_getElem?_getD])
    rwa [add_plain] at this
theorem own_lenS {tx : Int → ByteArray} {w0 w : World} {l : List S1.Ob} (h : S1.Sep w0 w l) (i : Nat) {A : Option Addr} {m c : Nat} {xs : List Int} (e : l[i]? = some (OwnS tx (.slice A m c) xs)) : m = xs.length := by
  have h0 : w.ownsRow 0 9 1 (.slice A m c) xs.length (strs tx xs) := h.get i e
  obtain ⟨A', c', e'⟩ := own_shapeS h0
  exact (Value.slice.inj e').2.1
end Go.Proofs.YtofkkdjbilklcaaDoor.HS

/- Walks of the arrays with gaps: made, looked at, put, taken, moved. -/
import Derived.Test.YtbjkncgpoengaaaDoorG4
import Derived.Laws.EntriesVeiled
namespace Go.Proofs.YtbjkncgpoengaaaDoor.G5
open Go.RowKit Go.Proofs.YtbjkncgpoengaaaDoorW.PrintWords Go.Proofs.YtbjkncgpoengaaaDoorW.PrintLast Go.Proofs.YtbjkncgpoengaaaDoorW.PrintMore G1 G0 Q1 G2 G3 G4
set_option linter.unusedVariables false
set_option linter.unusedSimpArgs false

theorem prev_none_ {w : World} {ob wb n : Nat} {f : Nat → Bool} {vs : List Nat} (h : BitsAt w ob wb n f vs) {a : Int} (ha : a < 0) : Calls Tryd.prog 70 #[.pointer (some ⟨ob, 0, none⟩), .int .i64 a] w fun e w' => e = .returned (.int .i64 (-1)) ∧ Drawn0 w w' := by
  have HH := Aside0.mk h
  have hl := h.low
  have hn := h.high
  clear h
  have g1 : ¬ (n : Int) - 1 < a := by omega
  go_enter Tryd.func70, Tryd.ntmps70
  go_wp2_with fail
  refine (len_any HH.out).mono ?_
  rintro e w1 ⟨rfl, rfl⟩
  go_wp2
  go_ret
  exact ⟨rfl, Drawn0.refl _⟩
theorem prev_any {w : World} {ob wb n : Nat} {f : Nat → Bool} {vs : List Nat} (h : BitsAt w ob wb n f vs) (a : Int) : Calls Tryd.prog 70 #[.pointer (some ⟨ob, 0, none⟩), .int .i64 a] w fun e w' => e = .returned (.int .i64 (prevI f n a)) ∧ Drawn0 w w' := by
  have hl := h.low
  by_cases h1 : a < 0
  · have e : prevI f n a = -1 := by unfold prevI; rw [show (min (a + 1) (n : Int)).toNat = 0 by omega]; rfl
    rw [e]
    exact prev_none_ h h1
  · obtain ⟨i, rfl⟩ := Int.eq_ofNat_of_zero_le (show 0 ≤ a by omega)
    by_cases h2 : i < n
    · have e : prevI f n i = lastF f (i + 1) := by unfold prevI; rw [show (min ((i : Int) + 1) (n : Int)).toNat = i + 1 by omega]
      rw [e]
      exact prev_in h h2 rfl
    · have e : prevI f n i = lastF f (n - 1 + 1) := by unfold prevI; rw [show (min ((i : Int) + 1) (n : Int)).toNat = n - 1 + 1 by omega]
      rw [e]
      exact prev_far h (show n - 1 < n by omega) (by omega) (by omega)
/-- An array with gaps: its blocks, which slots are on, what they hold. -/
structure SlAt (w : World) (p sb ob wb n : Nat) (f : Nat → Bool) (xs : List Int) (vs : List Nat) : Prop where
  hp : w.heap[p]? = some (.cells #[.slice (some ⟨sb, 0, none⟩) n xs.length, .pointer (some ⟨ob, 0, none⟩)] 91 (0, 0))
  hs : w.heap[sb]? = some (.cells (nums .i64 xs).toArray 3 (0, 0))
  len : n ≤ xs.length
  bits : BitsAt w ob wb n f vs
theorem SlAt.below {w w' : World} {p sb ob wb n : Nat} {f : Nat → Bool} {xs : List Int} {vs : List Nat} (h : SlAt w p sb ob wb n f xs vs) (hb : Below w.heap.size w w') : SlAt w' p sb ob wb n f xs vs :=
  ⟨blk_below h.hp hb, blk_below h.hs hb, h.len, h.bits.below hb⟩
theorem SlAt.only {S : Nat → Prop} {w w' : World} {p sb ob wb n : Nat} {f : Nat → Bool} {xs : List Int} {vs : List Nat} (h : SlAt w p sb ob wb n f xs vs) (hb : Only S w w') (h1 : ¬ S p) (h2 : ¬ S sb) (h3 : ¬ S ob) (h4 : ¬ S wb) : SlAt w' p sb ob wb n f xs vs :=
  ⟨hb.blk h.hp h1, hb.blk h.hs h2, h.len, h.bits.only hb h3 h4⟩
theorem SlAt.apart {w : World} {p sb ob wb n : Nat} {f : Nat → Bool} {xs : List Int} {vs : List Nat} (h : SlAt w p sb ob wb n f xs vs) : p ≠ sb ∧ p ≠ ob ∧ p ≠ wb ∧ sb ≠ ob ∧ sb ≠ wb ∧ ob ≠ wb :=
  ⟨blk_ne h.hp h.hs (by decide), blk_ne h.hp h.bits.ho (by decide), blk_ne h.hp h.bits.hw (by decide), blk_ne h.hs h.bits.ho (by decide), blk_ne h.hs h.bits.hw (by decide), h.bits.ne⟩
theorem SlAt.c0 {w : World} {p sb ob wb n : Nat} {f : Nat → Bool} {xs : List Int} {vs : List Nat} (h : SlAt w p sb ob wb n f xs vs) : w.cell? ⟨p, 0, none⟩ = some (.slice (some ⟨sb, 0, none⟩) n xs.length) := (blk_cell h.hp 0).trans rfl
theorem SlAt.c1 {w : World} {p sb ob wb n : Nat} {f : Nat → Bool} {xs : List Int} {vs : List Nat} (h : SlAt w p sb ob wb n f xs vs) : w.cell? ⟨p, 1, none⟩ = some (.pointer (some ⟨ob, 0, none⟩)) := (blk_cell h.hp 1).trans rfl
theorem SlAt.cell {w : World} {p sb ob wb n : Nat} {f : Nat → Bool} {xs : List Int} {vs : List Nat} (h : SlAt w p sb ob wb n f xs vs) {i : Nat} (hi : i < n) : w.cell? ⟨sb, i, none⟩ = some (.int .i64 (xs.getD i 0)) := by
  rw [blk_cell h.hs i]
  have : i < xs.length := Nat.lt_of_lt_of_le hi h.len
  simp [nums, List.getD_eq_getElem?_getD, this]
/-- An element is put, or taken: its cell. -/
theorem SlAt.store {w : World} {p sb ob wb n : Nat} {f : Nat → Bool} {xs : List Int} {vs : List Nat} (h : SlAt w p sb ob wb n f xs vs) {i : Nat} (x : Int) : SlAt (w.setCell ⟨sb, i, none⟩ (.int .i64 x)) p sb ob wb n f (xs.set i x) vs := by
  obtain ⟨a1, a2, a3, a4, a5, a6⟩ := h.apart
  have ho : Only (· = sb) w (w.setCell ⟨sb, i, none⟩ (.int .i64 x)) := Only.set (· = sb) w (p := ⟨sb, i, none⟩) rfl _
  refine ⟨by rw [List.length_set]; exact ho.blk h.hp a1, ?_, by rw [List.length_set]; exact h.len, h.bits.only ho (fun e => a4 e.symm) (fun e => a5 e.symm)⟩
  rw [blk_set h.hs i (.int .i64 x)]
  congr 2
  simp [nums, List.map_set]

theorem gnew_no (n : Int) (w : World) (h : n < 1 ∨ 65536 < n) : Calls Tryd.prog 28 #[.int .i64 n] w fun e w' => e = .returned (.tuple #[.pointer none, .int .i64 10]) ∧ w = w' := by
  have H := Aside0.mk (new_no n w h)
  clear h
  go_enter Tryd.func28, Tryd.ntmps28
  go_wp2_with fail
  refine H.out.mono ?_
  rintro e w1 ⟨rfl, rfl⟩
  go_wp2
  go_ret2
  exact ⟨rfl, rfl⟩
theorem info_int : (Tryd.prog.info? 3).map (fun i => (i.zero, i.size, i.bytes)) = some (some (.int .i64 0), 1, 8) := by kernel_rfl
theorem made_nums (n : Nat) : madeCells #[.int .i64 0] n = (nums .i64 (List.replicate n 0)).toArray := by
  apply Array.ext
  · simp [size_madeCells, nums]
  · intro i h1 h2
    simp [madeCells, nums, Nat.mod_one]
theorem gnew_yes (n : Nat) (w : World) (h1 : 1 ≤ n) (h2 : n ≤ 65536) : Calls Tryd.prog 28 #[.int .i64 n] w fun e w' => ∃ p sb ob wb, e = .returned (.tuple #[.pointer (some ⟨p, 0, none⟩), .int .i64 0]) ∧ (w.heap.size ≤ p ∧ w.heap.size ≤ sb ∧ w.heap.size ≤ ob ∧ w.heap.size ≤ wb) ∧ SlAt w' p sb ob wb n (fun _ => false) (List.replicate n 0) (List.replicate ((n + 63) / 64) 0) ∧ Below w.heap.size w w' := by
  have H := Aside0.mk (new_yes n w h1 h2)
  have hmk := print_make_int (P := Tryd.prog) 41 3 (.int .i64 0) 8 Tryd.underlying41 info_int rfl (by decide) (n : Int) (by omega) (by omega)
  rw [Int.toNat_natCast] at hmk
  go_enter Tryd.func28, Tryd.ntmps28
  go_wp2_with fail
  refine H.out.mono ?_
  rintro e w1 ⟨ob, wb, rfl, a1, a2, hb, hB⟩
  have HH := Aside0.mk (And.intro a1 (And.intro a2 (And.intro hb hB)))
  clear a1 a2 hb hB H
  go_wp2
  go_ret2
  have k1 := blk_new w1 (.cells (madeCells #[.int .i64 0] n) 3)
  have k2 := blk_new (w1.alloc (.cells (madeCells #[.int .i64 0] n) 3)) (.cells #[.slice (some ⟨w1.heap.size, 0, none⟩) n n, .pointer (some ⟨ob, 0, none⟩)] 91)
  simp only [World.size_alloc] at k2
  have B2 := below_alloc (below_alloc (Below.refl w1.heap.size w1) (.cells (madeCells #[.int .i64 0] n) 3)) (.cells #[.slice (some ⟨w1.heap.size, 0, none⟩) n n, .pointer (some ⟨ob, 0, none⟩)] 91)
  have hsz := HH.out.2.2.2.size
  refine ⟨w1.heap.size + 1, w1.heap.size, ob, wb, rfl, ⟨by omega, by omega, HH.out.1, HH.out.2.1⟩, ⟨by rw [List.length_replicate]; exact k2, ?_, by simp, HH.out.2.2.1.below B2⟩, below_step HH.out.2.2.2 B2⟩
  rw [← made_nums]
  exact blk_alloc k1 _
section
variable {w : World} {p sb ob wb n : Nat} {f : Nat → Bool} {xs : List Int} {vs : List Nat}
theorem cap_any (h : SlAt w p sb ob wb n f xs vs) : Calls Tryd.prog 29 #[.pointer (some ⟨p, 0, none⟩)] w fun e w' => e = .returned (.int .i64 n) ∧ w = w' := by
  have c0 := h.c0
  clear h
  go_enter Tryd.func29, Tryd.ntmps29
  go_wp2
  go_ret
  exact ⟨rfl, rfl⟩
theorem slen_any (h : SlAt w p sb ob wb n f xs vs) : Calls Tryd.prog 26 #[.pointer (some ⟨p, 0, none⟩)] w fun e w' => e = .returned (.int .i64 (cntF f n)) ∧ Drawn0 w w' := by
  have c1 := h.c1
  have H := Aside0.mk h.bits
  clear h
  go_enter Tryd.func26, Tryd.ntmps26
  go_wp2_with fail
  refine (count_any H.out).mono ?_
  rintro e w1 ⟨rfl, hw⟩
  go_wp2
  go_ret
  exact ⟨rfl, hw⟩
theorem snext_any (h : SlAt w p sb ob wb n f xs vs) (hT : Tb w) (i : Int) : Calls Tryd.prog 46 #[.pointer (some ⟨p, 0, none⟩), .int .i64 i] w fun e w' => e = .returned (.int .i64 (nextI f n i)) ∧ Drawn0 w w' := by
  have c1 := h.c1
  have H := Aside0.mk (next_any h.bits hT i)
  clear h hT
  go_enter Tryd.func46, Tryd.ntmps46
  go_wp2_with fail
  refine H.out.mono ?_
  rintro e w1 ⟨rfl, hw⟩
  go_wp2
  go_ret
  exact ⟨rfl, hw⟩
theorem sprev_any (h : SlAt w p sb ob wb n f xs vs) (i : Int) : Calls Tryd.prog 47 #[.pointer (some ⟨p, 0, none⟩), .int .i64 i] w fun e w' => e = .returned (.int .i64 (prevI f n i)) ∧ Drawn0 w w' := by
  have c1 := h.c1
  have H := Aside0.mk (prev_any h.bits i)
  clear h
  go_enter Tryd.func47, Tryd.ntmps47
  go_wp2_with fail
  refine H.out.mono ?_
  rintro e w1 ⟨rfl, hw⟩
  go_wp2
  go_ret
  exact ⟨rfl, hw⟩
theorem scount_in (h : SlAt w p sb ob wb n f xs vs) {a b : Nat} (h1 : a ≤ b) (h2 : b ≤ n) : Calls Tryd.prog 43 #[.pointer (some ⟨p, 0, none⟩), .int .i64 a, .int .i64 b] w fun e w' => e = .returned (.tuple #[.int .i64 (cntF f b - cntF f a : Nat), .int .i64 0]) ∧ Drawn0 w w' := by
  have c1 := h.c1
  have H := Aside0.mk (range_in h.bits h1 h2)
  clear h
  go_enter Tryd.func43, Tryd.ntmps43
  go_wp2_with fail
  refine H.out.mono ?_
  rintro e w1 ⟨rfl, hw⟩
  go_wp2
  go_ret2
  exact ⟨rfl, hw⟩
theorem scount_out (h : SlAt w p sb ob wb n f xs vs) {a b : Int} (h1 : a < 0 ∨ b < a ∨ (n : Int) < b) : Calls Tryd.prog 43 #[.pointer (some ⟨p, 0, none⟩), .int .i64 a, .int .i64 b] w fun e w' => e = .returned (.tuple #[.int .i64 0, .int .i64 10]) ∧ w = w' := by
  have c1 := h.c1
  have H := Aside0.mk (range_out h.bits h1)
  clear h h1
  go_enter Tryd.func43, Tryd.ntmps43
  go_wp2_with fail
  refine H.out.mono ?_
  rintro e w1 ⟨rfl, rfl⟩
  go_wp2
  go_ret2
  exact ⟨rfl, rfl⟩
theorem at_on (h : SlAt w p sb ob wb n f xs vs) {i : Nat} (hi : i < n) (hf : f i = true) : Calls Tryd.prog 27 #[.pointer (some ⟨p, 0, none⟩), .int .i64 i] w fun e w' => e = .returned (.tuple #[.int .i64 (xs.getD i 0), .bool true]) ∧ w = w' := by
  have c0 := h.c0
  have c1 := h.c1
  have c2 := h.cell hi
  have H := has_in h.bits hi
  rw [hf] at H
  have HH := Aside0.mk H
  clear h H hf
  generalize xs.getD i 0 = x at *
  go_enter Tryd.func27, Tryd.ntmps27
  go_wp2_with fail
  refine HH.out.mono ?_
  rintro e w1 ⟨rfl, rfl⟩
  go_wp2
  go_ret2
  exact ⟨rfl, rfl⟩
theorem at_off (h : SlAt w p sb ob wb n f xs vs) {i : Int} (hi : i < 0 ∨ (n : Int) ≤ i ∨ f i.toNat = false) : Calls Tryd.prog 27 #[.pointer (some ⟨p, 0, none⟩), .int .i64 i] w fun e w' => e = .returned (.tuple #[.int .i64 0, .bool false]) ∧ w = w' := by
  have c1 := h.c1
  have H : Calls Tryd.prog 54 #[.pointer (some ⟨ob, 0, none⟩), .int .i64 i] w fun e w' => e = .returned (.bool false) ∧ w = w' := by
    by_cases h1 : i < 0
    · exact has_out h.bits (.inl h1)
    · by_cases h2 : (n : Int) ≤ i
      · exact has_out h.bits (.inr h2)
      · obtain ⟨k, rfl⟩ := Int.eq_ofNat_of_zero_le (show 0 ≤ i by omega)
        have h3 : f k = false := by
          rcases hi with h | h | h
          · omega
          · omega
          · exact h
        have := has_in h.bits (show k < n by omega)
        rw [h3] at this
        exact this
  have HH := Aside0.mk H
  clear h H hi
  go_enter Tryd.func27, Tryd.ntmps27
  go_wp2_with fail
  refine HH.out.mono ?_
  rintro e w1 ⟨rfl, rfl⟩
  go_wp2
  go_ret2
  exact ⟨rfl, rfl⟩

/-- What is wrong with slots. -/
def lookE (n : Nat) (l : List Int) : Int := if l.all (fun i => decide (0 ≤ i ∧ i < n)) then 0 else 10
theorem look_any (h : SlAt w p sb ob wb n f xs vs) {A : Option Addr} {c : Nat} {l : List Int} (hr : Kd.C (Kd.int .i64) w A l.length l) (hl : l.length ≤ 100) : Calls Tryd.prog 67 #[.pointer (some ⟨p, 0, none⟩), .slice A l.length c] w fun e w' => e = .returned (.int .i64 (lookE n l)) ∧ w = w' := by
  have c0 := h.c0
  have HR := Aside0.mk hr
  have hn := h.bits.high
  clear h hr
  go_enter Tryd.func67, Tryd.ntmps67
  go_wp2
  go_loopg [6, 11] l.length (fun kq v6 v11 w' => ∃ k : Nat, v11 = .int .i64 k ∧ k ≤ l.length ∧ Aside0 (l.length - k ≤ kq) ∧ Aside0 (∀ j, j < k → 0 ≤ l.getD j 0 ∧ l.getD j 0 < n) ∧ w = w')
  case atStart => exact ⟨0, rfl, by omega, ⟨by omega⟩, ⟨fun j hj => by omega⟩, rfl⟩
  case round =>
    obtain ⟨k, rfl, hk, HQ, HA, rfl⟩ := hrel
    by_cases hlt : k < l.length
    · obtain ⟨ad, e, hx⟩ := Kd.at_int HR.out (k : Int) (by omega) (by omega)
      cases e
      rw [Int.toNat_natCast, show rd l (k : Int) = l.getD k 0 from rfl] at hx
      by_cases hg : 0 ≤ l.getD k 0 ∧ l.getD k 0 < n
      · have HN : Aside0 (∀ j, j < k + 1 → 0 ≤ l.getD j 0 ∧ l.getD j 0 < n) := ⟨fun j hj => by
          by_cases e : j = k
          · subst e; exact hg
          · exact HA.out j (by omega)⟩
        generalize l.getD k 0 = x at *
        have g1 : decide (x < 0) = false := decide_eq_false (by omega)
        have g2 : decide ((n : Int) ≤ x) = false := decide_eq_false (by omega)
        have g3 : ¬ x < 0 := by omega
        have g4 : ¬ (n : Int) ≤ x := by omega
        obtain ⟨gk, rfl⟩ : ∃ m, gk = m + 1 := ⟨gk - 1, by have := HQ.out; omega⟩
        clear hg
        go_wp2
        go_roundg gk
        case measure => omega
        case rel => exact ⟨k + 1, by go_num, by omega, ⟨by have := HQ.out; omega⟩, HN, rfl⟩
      · have HE : Aside0 (lookE n l = 10) := ⟨by
          unfold lookE
          rw [if_neg]
          intro hall
          rw [List.all_eq_true] at hall
          have hm := hall (l.getD k 0) (by rw [List.getD_eq_getElem?_getD, List.getElem?_eq_getElem hlt]; exact List.getElem_mem hlt)
          exact hg (of_decide_eq_true hm)⟩
        generalize l.getD k 0 = x at *
        by_cases h0 : x < 0
        · clear hg
          go_wp2
          go_ret
          exact ⟨by rw [HE.out]; rfl, rfl⟩
        · have g2 : (n : Int) ≤ x := by omega
          clear hg
          go_wp2
          go_ret
          exact ⟨by rw [HE.out]; rfl, rfl⟩
    · have HE : Aside0 (lookE n l = 0) := ⟨by
        unfold lookE
        rw [if_pos]
        rw [List.all_eq_true]
        intro x hx
        obtain ⟨j, hj, rfl⟩ := List.mem_iff_getElem.1 hx
        have := HA.out j (by omega)
        rw [List.getD_eq_getElem?_getD, List.getElem?_eq_getElem hj] at this
        exact decide_eq_true this⟩
      go_wp2
      go_ret
      exact ⟨by rw [HE.out]; rfl, rfl⟩
end
end Go.Proofs.YtbjkncgpoengaaaDoor.G5

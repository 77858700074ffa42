/- Walks of the rows of bits: made, asked, turned. -/
import Derived.Test.YtbjkncgpoengaaaDoorG0


import Derived.Lib.Hide
import Derived.Laws.BitsAllLaws
namespace Go.Proofs.YtbjkncgpoengaaaDoor.G2
open Go.RowKit Go.Proofs.YtbjkncgpoengaaaDoorW.PrintWords Go.Proofs.YtbjkncgpoengaaaDoorW.PrintLast Go.Proofs.YtbjkncgpoengaaaDoorW.PrintMore G1 G0 Q1
set_option linter.unusedVariables false
set_option linter.unusedSimpArgs false

/-- Nothing turned but blocks of which S holds, and what is new. -/
structure Only (S : Nat → Prop) (w w' : World) : Prop where
  os : w'.os = w.os
  tape : w'.tape = w.tape
  output : w'.output = w.output
  size : w.heap.size ≤ w'.heap.size
  block : ∀ k, k < w.heap.size → ¬ S k → w'.heap[k]? = w.heap[k]?
section
variable {S S' : Nat → Prop} {w w1 w2 : World}
theorem Only.refl (S : Nat → Prop) (w : World) : Only S w w := ⟨rfl, rfl, rfl, Nat.le_refl _, fun _ _ _ => rfl⟩
theorem Only.then_ (h : Only S w w1) (k : Only S' w1 w2) (hs : ∀ k, S' k → S k ∨ w.heap.size ≤ k) : Only S w w2 :=
  ⟨k.os.trans h.os, k.tape.trans h.tape, k.output.trans h.output, Nat.le_trans h.size k.size, fun i hi hn => (k.block i (Nat.lt_of_lt_of_le hi h.size) (fun hc => by rcases hs i hc with h1 | h1; exact hn h1; omega)).trans (h.block i hi hn)⟩
theorem Only.trans (h : Only S w w1) (k : Only S w1 w2) : Only S w w2 := h.then_ k fun _ h => .inl h
theorem Only.mono (h : Only S w w1) (hs : ∀ k, S k → S' k) : Only S' w w1 := ⟨h.os, h.tape, h.output, h.size, fun i hi hn => h.block i hi fun hc => hn (hs i hc)⟩
theorem Only.of_below (h : Below w.heap.size w w1) : Only S w w1 := ⟨h.os, h.tape, h.output, h.size, fun i hi _ => h.block i hi⟩
theorem Only.below {B : Nat} {w0 : World} (h : Only S w w1) (k : Below B w0 w) (hB : B ≤ w.heap.size) (hs : ∀ k, S k → B ≤ k) : Below B w0 w1 :=
  ⟨h.os.trans k.os, h.tape.trans k.tape, h.output.trans k.output, Nat.le_trans k.size h.size, fun i hi => (h.block i (by omega) fun hc => by have := hs i hc; omega).trans (k.block i hi)⟩
theorem Only.set (S : Nat → Prop) (w : World) {p : Addr} (hp : S p.block) (v : Value) : Only S w (w.setCell p v) :=
  ⟨rfl, rfl, rfl, by simp [World.setCell], fun i hi hn => Below.heap_setCell _ _ _ _ fun e => hn (by rw [e]; exact hp)⟩
theorem Only.blk (h : Only S w w1) {g : Nat} {o : Obj} (hg : w.heap[g]? = some o) (hn : ¬ S g) : w1.heap[g]? = some o := (h.block g (blk_lt hg) hn).trans hg
end

/-- A row of bits in words: which ones are on. -/
structure BitsAt (w : World) (ob wb n : Nat) (f : Nat → Bool) (vs : List Nat) : Prop where
  low : 1 ≤ n
  high : n ≤ 65536
  ho : w.heap[ob]? = some (.cells #[.int .i64 n, .slice (some ⟨wb, 0, none⟩) ((n + 63) / 64) vs.length] 100 (0, 0))
  hw : w.heap[wb]? = some (.cells (nums .u64 (vs.map Int.ofNat)).toArray 101 (0, 0))
  len : (n + 63) / 64 ≤ vs.length
  small : ∀ k, vs.getD k 0 < 18446744073709551616
  bit : ∀ i, i / 64 < vs.length → (vs.getD (i / 64) 0).testBit (i % 64) = f i
  out : ∀ i, n ≤ i → f i = false
theorem BitsAt.ne {w : World} {ob wb n : Nat} {f : Nat → Bool} {vs : List Nat} (h : BitsAt w ob wb n f vs) : ob ≠ wb := blk_ne h.ho h.hw (by decide)
theorem BitsAt.below {w w' : World} {ob wb n : Nat} {f : Nat → Bool} {vs : List Nat} (h : BitsAt w ob wb n f vs) (hb : Below w.heap.size w w') : BitsAt w' ob wb n f vs :=
  ⟨h.low, h.high, blk_below h.ho hb, blk_below h.hw hb, h.len, h.small, h.bit, h.out⟩
theorem BitsAt.only {S : Nat → Prop} {w w' : World} {ob wb n : Nat} {f : Nat → Bool} {vs : List Nat} (h : BitsAt w ob wb n f vs) (hb : Only S w w') (h1 : ¬ S ob) (h2 : ¬ S wb) : BitsAt w' ob wb n f vs :=
  ⟨h.low, h.high, hb.blk h.ho h1, hb.blk h.hw h2, h.len, h.small, h.bit, h.out⟩
theorem BitsAt.cell {w : World} {ob wb n : Nat} {f : Nat → Bool} {vs : List Nat} (h : BitsAt w ob wb n f vs) {k : Nat} (hk : k < (n + 63) / 64) : w.cell? ⟨wb, k, none⟩ = some (.int .u64 (vs.getD k 0 : Nat)) := by
  rw [blk_cell h.hw k]
  have : k < vs.length := Nat.lt_of_lt_of_le hk h.len
  simp [nums, List.getD_eq_getElem?_getD, this]

theorem new_no (n : Int) (w : World) (h : n < 1 ∨ 65536 < n) : Calls Tryd.prog 52 #[.int .i64 n] w fun e w' => e = .returned (.tuple #[.pointer none, .int .i64 10]) ∧ w = w' := by
  rcases h with h | h
  · go_enter Tryd.func52, Tryd.ntmps52
    go_wp2
    go_ret2
    exact ⟨rfl, rfl⟩
  · have h1 : ¬ n < 1 := by omega
    go_enter Tryd.func52, Tryd.ntmps52
    go_wp2
    go_ret2
    exact ⟨rfl, rfl⟩
theorem info_u64 : (Tryd.prog.info? 101).map (fun i => (i.zero, i.size, i.bytes)) = some (some (.int .u64 0), 1, 8) := by kernel_rfl
theorem made_u64 (n : Nat) : madeCells #[.int .u64 0] n = (nums .u64 ((List.replicate n 0).map Int.ofNat)).toArray := by
  apply Array.ext
  · simp [size_madeCells, nums]
  · intro i h1 h2
    simp [madeCells, nums, Nat.mod_one]
set_option maxRecDepth 100000 in
theorem new_yes (n : Nat) (w : World) (h1 : 1 ≤ n) (h2 : n ≤ 65536) : Calls Tryd.prog 52 #[.int .i64 n] w fun e w' => ∃ ob wb, e = .returned (.tuple #[.pointer (some ⟨ob, 0, none⟩), .int .i64 0]) ∧ w.heap.size ≤ ob ∧ w.heap.size ≤ wb ∧ BitsAt w' ob wb n (fun _ => false) (List.replicate ((n + 63) / 64) 0) ∧ Below w.heap.size w w' := by
  have q1 : ¬ n < 1 := by omega
  have q2 : ¬ 65536 < n := by omega
  have hmk := print_make_int (P := Tryd.prog) 98 101 (.int .u64 0) 8 Tryd.underlying98 info_u64 rfl (by decide) ((((n + 63) / 64 : Nat)) : Int) (by omega) (by omega)
  rw [Int.toNat_natCast] at hmk
  have hq : (((n + 63) / 64 : Nat) : Int) = ((n : Int) + 64 - 1) / 64 := by omega
  rw [hq] at hmk
  clear hq
  have k1 := blk_new w (.cells (madeCells #[.int .u64 0] ((n + 63) / 64)) 101)
  have k2 := blk_new (w.alloc (.cells (madeCells #[.int .u64 0] ((n + 63) / 64)) 101)) (.cells #[.int .i64 n, .slice (some ⟨w.heap.size, 0, none⟩) ((n + 63) / 64) ((n + 63) / 64)] 100)
  have B := below_alloc (below_alloc (Below.refl w.heap.size w) (.cells (madeCells #[.int .u64 0] ((n + 63) / 64)) 101)) (.cells #[.int .i64 n, .slice (some ⟨w.heap.size, 0, none⟩) ((n + 63) / 64) ((n + 63) / 64)] 100)
  simp only [World.size_alloc] at k2
  have HK := Aside0.mk (And.intro (blk_alloc k1 (.cells #[.int .i64 n, .slice (some ⟨w.heap.size, 0, none⟩) ((n + 63) / 64) ((n + 63) / 64)] 100)) (And.intro k2 B))
  clear k1 k2 B
  go_enter Tryd.func52, Tryd.ntmps52
  go_wp2
  go_ret2
  refine ⟨w.heap.size + 1, w.heap.size, rfl, by omega, by omega, ⟨h1, h2, by rw [List.length_replicate]; exact HK.out.2.1, ?_, by rw [List.length_replicate]; exact Nat.le_refl _, fun k => ?_, fun i hi => ?_, fun i _ => rfl⟩, HK.out.2.2⟩
  · rw [← made_u64]
    exact HK.out.1
  · simp [List.getD_eq_getElem?_getD, List.getElem?_replicate]
    split <;> simp
  · simp [List.getD_eq_getElem?_getD, List.getElem?_replicate]
    split <;> simp
theorem len_any {w : World} {ob wb n : Nat} {f : Nat → Bool} {vs : List Nat} (h : BitsAt w ob wb n f vs) : Calls Tryd.prog 73 #[.pointer (some ⟨ob, 0, none⟩)] w fun e w' => e = .returned (.int .i64 n) ∧ w = w' := by
  have c0 : w.cell? ⟨ob, 0, none⟩ = some (.int .i64 n) := (blk_cell h.ho 0).trans rfl
  clear h
  go_enter Tryd.func73, Tryd.ntmps73
  go_wp2
  go_ret
  exact ⟨rfl, rfl⟩
theorem has_bit (v i : Nat) (h : v < 18446744073709551616) : Ending.returned (.bool (Go.bits .and .u64 ((v : Int) / 2 ^ i) 1 == 1)) = Ending.returned (.bool (v.testBit i)) := by
  have e : (v : Int) / 2 ^ i = ((v / 2 ^ i : Nat) : Int) := by simp
  have h1 : v / 2 ^ i ≤ v := Nat.div_le_self _ _
  rw [e, show Go.bits .and .u64 ((v / 2 ^ i : Nat) : Int) 1 = ((v / 2 ^ i &&& 1 : Nat) : Int) from bits_and_u64_nat (v / 2 ^ i) 1 (by omega) (by omega), Nat.and_one_is_mod, Nat.testBit_eq_decide_div_mod_eq]
  congr 2
  rw [Bool.eq_iff_iff]
  simp
  omega
theorem has_in {w : World} {ob wb n : Nat} {f : Nat → Bool} {vs : List Nat} (h : BitsAt w ob wb n f vs) {i : Nat} (hi : i < n) : Calls Tryd.prog 54 #[.pointer (some ⟨ob, 0, none⟩), .int .i64 i] w fun e w' => e = .returned (.bool (f i)) ∧ w = w' := by
  have c1 : w.cell? ⟨ob, 1, none⟩ = some (.slice (some ⟨wb, 0, none⟩) ((n + 63) / 64) vs.length) := (blk_cell h.ho 1).trans rfl
  have c2 := h.cell (k := i / 64) (by omega)
  have hb := h.bit i (by have := h.len; omega)
  have hs := h.small (i / 64)
  have hh := h.high
  have H := Aside0.mk h
  clear h
  generalize vs.getD (i / 64) 0 = v at *
  go_enter Tryd.func54, Tryd.ntmps54
  go_wp2_with fail
  refine (len_any H.out).mono ?_
  rintro e w' ⟨rfl, rfl⟩
  go_wp2
  go_ret
  exact ⟨by rw [← hb]; exact has_bit v (i % 64) hs, rfl⟩
theorem has_out {w : World} {ob wb n : Nat} {f : Nat → Bool} {vs : List Nat} (h : BitsAt w ob wb n f vs) {i : Int} (hi : i < 0 ∨ (n : Int) ≤ i) : Calls Tryd.prog 54 #[.pointer (some ⟨ob, 0, none⟩), .int .i64 i] w fun e w' => e = .returned (.bool false) ∧ w = w' := by
  have H := Aside0.mk h
  clear h
  rcases hi with hi | hi
  · have h1 : ¬ 0 ≤ i := by omega
    have h2 : decide (i ≥ 0) = false := decide_eq_false (by omega)
    have h3 : decide (0 ≤ i) = false := decide_eq_false (by omega)
    go_enter Tryd.func54, Tryd.ntmps54
    go_wp2
    go_ret
    exact ⟨rfl, rfl⟩
  · have h1 : 0 ≤ i := by have := H.out.low; omega
    have h2 : decide (i ≥ 0) = true := decide_eq_true (by omega)
    have h3 : decide (0 ≤ i) = true := decide_eq_true (by omega)
    have h4 : decide (i < (n : Int)) = false := decide_eq_false (by omega)
    go_enter Tryd.func54, Tryd.ntmps54
    go_wp2_with fail
    refine (len_any H.out).mono ?_
    rintro e w' ⟨rfl, rfl⟩
    go_wp2
    go_ret
    exact ⟨rfl, rfl⟩
theorem BitsAt.turn {w : World} {ob wb n : Nat} {f : Nat → Bool} {vs : List Nat} (h : BitsAt w ob wb n f vs) {i : Nat} (hi : i < n) (on : Bool) {x : Nat} (hx : x < 18446744073709551616) (hb : ∀ j, j < 64 → x.testBit j = if j = i % 64 then on else (vs.getD (i / 64) 0).testBit j) :
    BitsAt (w.setCell ⟨wb, i / 64, none⟩ (.int .u64 (x : Nat))) ob wb n (fun j => if j = i then on else f j) (vs.set (i / 64) x) := by
  have hl := h.len
  have hlt : i / 64 < vs.length := by omega
  refine ⟨h.low, h.high, by rw [List.length_set]; exact blk_far h.ho h.ne _, ?_, by rw [List.length_set]; exact hl, fun k => ?_, fun j hj => ?_, fun j hj => ?_⟩
  · rw [blk_set h.hw (i / 64) (.int .u64 (x : Nat))]
    congr 2
    simp [nums, List.map_set]
  · by_cases e : k = i / 64
    · subst e
      rw [List.getD_eq_getElem?_getD, List.getElem?_set_self hlt]
      exact hx
    · rw [List.getD_eq_getElem?_getD, List.getElem?_set_ne (by omega), ← List.getD_eq_getElem?_getD]
      exact h.small k
  · rw [List.length_set] at hj
    by_cases e : j / 64 = i / 64
    · rw [e, List.getD_eq_getElem?_getD, List.getElem?_set_self hlt, Option.getD_some, hb _ (Nat.mod_lt _ (by omega))]
      by_cases e2 : j = i
      · subst e2; simp
      · rw [if_neg (by omega), if_neg e2, ← e]
        exact h.bit j hj
    · rw [List.getD_eq_getElem?_getD, List.getElem?_set_ne (by omega), ← List.getD_eq_getElem?_getD, if_neg (by rintro rfl; exact e rfl)]
      exact h.bit j hj
  · rw [if_neg (by omega)]
    exact h.out j hj
theorem shl_one (i : Nat) (hi : i < 64) : IntKind.u64.wrap (2 ^ i) = ((2 ^ i : Nat) : Int) := by
  have : ∀ i, i < 64 → IntKind.u64.wrap (2 ^ i) = ((2 ^ i : Nat) : Int) := by decide +kernel
  exact this i hi
theorem pow_small (i : Nat) (hi : i < 64) : 2 ^ i < 18446744073709551616 := by
  have : 2 ^ i < 2 ^ 64 := Nat.pow_lt_pow_right (by omega) hi
  omega
theorem turn_on (v i : Nat) (h : v < 18446744073709551616) (hi : i < 64) : Go.bits .or .u64 (v : Int) (IntKind.u64.wrap (2 ^ i)) = ((v ||| 2 ^ i : Nat) : Int) ∧ v ||| 2 ^ i < 18446744073709551616 ∧ ∀ j, j < 64 → (v ||| 2 ^ i).testBit j = if j = i then true else v.testBit j := by
  have hp := pow_small i hi
  refine ⟨by rw [shl_one i hi]; exact bits_or_u64_nat v (2 ^ i) h hp, Nat.or_lt_two_pow (n := 64) h hp, fun j hj => ?_⟩
  rw [Nat.testBit_or, Nat.testBit_two_pow]
  by_cases e : j = i
  · subst e; simp
  · rw [if_neg e, decide_eq_false (by omega), Bool.or_false]
theorem turn_off (v i : Nat) (h : v < 18446744073709551616) (hi : i < 64) : Go.bits .andNot .u64 (v : Int) (IntKind.u64.wrap (2 ^ i)) = ((v &&& (18446744073709551615 - 2 ^ i) : Nat) : Int) ∧ v &&& (18446744073709551615 - 2 ^ i) < 18446744073709551616 ∧ ∀ j, j < 64 → (v &&& (18446744073709551615 - 2 ^ i)).testBit j = if j = i then false else v.testBit j := by
  have hp := pow_small i hi
  refine ⟨by rw [shl_one i hi]; exact u64_andNot_nat v (2 ^ i) h hp, Nat.lt_of_le_of_lt Nat.and_le_left h, fun j hj => ?_⟩
  rw [Nat.testBit_and, show 18446744073709551615 - 2 ^ i = 2 ^ 64 - (2 ^ i + 1) by omega, Nat.testBit_two_pow_sub_succ hp, Nat.testBit_two_pow, decide_eq_true hj, Bool.true_and]
  by_cases e : j = i
  · subst e; simp
  · rw [if_neg e, decide_eq_false (by omega), Bool.not_false, Bool.and_true]
theorem set_on {w : World} {ob wb n : Nat} {f : Nat → Bool} {vs : List Nat} (h : BitsAt w ob wb n f vs) {i : Nat} (hi : i < n) : Calls Tryd.prog 55 #[.pointer (some ⟨ob, 0, none⟩), .int .i64 i, .bool true] w fun e w' => e = .returned (.int .i64 0) ∧ ∃ vs', BitsAt w' ob wb n (fun j => if j = i then true else f j) vs' ∧ Only (· = wb) w w' := by
  have c0 : w.cell? ⟨ob, 0, none⟩ = some (.int .i64 n) := (blk_cell h.ho 0).trans rfl
  have c1 : w.cell? ⟨ob, 1, none⟩ = some (.slice (some ⟨wb, 0, none⟩) ((n + 63) / 64) vs.length) := (blk_cell h.ho 1).trans rfl
  have c2 := h.cell (k := i / 64) (by omega)
  have f2 := blk_frozen h.hw (i / 64)
  have hh := h.high
  have H := Aside0.mk h
  clear h
  obtain ⟨v, hv⟩ : ∃ v, vs.getD (i / 64) 0 = v := ⟨_, rfl⟩
  rw [hv] at c2
  have HV := Aside0.mk hv
  clear hv
  go_enter Tryd.func55, Tryd.ntmps55
  go_wp2
  go_ret
  have ht := turn_on v (i % 64) (by rw [← HV.out]; exact H.out.small _) (by omega)
  rw [ht.1]
  exact ⟨rfl, _, H.out.turn hi true ht.2.1 (by rw [HV.out]; exact ht.2.2), Only.set (· = wb) w (p := ⟨wb, i / 64, none⟩) rfl _⟩
theorem set_off {w : World} {ob wb n : Nat} {f : Nat → Bool} {vs : List Nat} (h : BitsAt w ob wb n f vs) {i : Nat} (hi : i < n) : Calls Tryd.prog 55 #[.pointer (some ⟨ob, 0, none⟩), .int .i64 i, .bool false] w fun e w' => e = .returned (.int .i64 0) ∧ ∃ vs', BitsAt w' ob wb n (fun j => if j = i then false else f j) vs' ∧ Only (· = wb) w w' := by
  have c0 : w.cell? ⟨ob, 0, none⟩ = some (.int .i64 n) := (blk_cell h.ho 0).trans rfl
  have c1 : w.cell? ⟨ob, 1, none⟩ = some (.slice (some ⟨wb, 0, none⟩) ((n + 63) / 64) vs.length) := (blk_cell h.ho 1).trans rfl
  have c2 := h.cell (k := i / 64) (by omega)
  have f2 := blk_frozen h.hw (i / 64)
  have hh := h.high
  have H := Aside0.mk h
  clear h
  obtain ⟨v, hv⟩ : ∃ v, vs.getD (i / 64) 0 = v := ⟨_, rfl⟩
  rw [hv] at c2
  have HV := Aside0.mk hv
  clear hv
  go_enter Tryd.func55, Tryd.ntmps55
  go_wp2
  go_ret
  have ht := turn_off v (i % 64) (by rw [← HV.out]; exact H.out.small _) (by omega)
  rw [ht.1]
  exact ⟨rfl, _, H.out.turn hi false ht.2.1 (by rw [HV.out]; exact ht.2.2), Only.set (· = wb) w (p := ⟨wb, i / 64, none⟩) rfl _⟩
theorem set_any {w : World} {ob wb n : Nat} {f : Nat → Bool} {vs : List Nat} (h : BitsAt w ob wb n f vs) {i : Nat} (hi : i < n) (on : Bool) : Calls Tryd.prog 55 #[.pointer (some ⟨ob, 0, none⟩), .int .i64 i, .bool on] w fun e w' => e = .returned (.int .i64 0) ∧ ∃ vs', BitsAt w' ob wb n (fun j => if j = i then on else f j) vs' ∧ Only (· = wb) w w' := by
  cases on with
  | false => exact set_off h hi
  | true => exact set_on h hi
end Go.Proofs.YtbjkncgpoengaaaDoor.G2

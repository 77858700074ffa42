/- The law's helper made, walked: an array that is laid, and the document's. -/
import Derived.Test.YtbjkncgpoengaaaDoorF3
namespace Go.Proofs.YtbjkncgpoengaaaDoor.F4
open Go.RowKit Go.Proofs.YtbjkncgpoengaaaDoorW.PrintWords Go.Proofs.YtbjkncgpoengaaaDoorW.PrintLast Go.Proofs.YtbjkncgpoengaaaDoorW.PrintMore G1 G0 Q1 G2 G3 G4 G5 G6 G7 G8 G9 G10 G11 S1
set_option linter.unusedVariables false
set_option linter.unusedSimpArgs false

/-- A key at a slot. -/
structure Ky where
  a : Int
  k : Int
def kKey : Kd Ky := Kd.iso (Kd.pair (Kd.int .i64) (Kd.int .i64)) (fun x : Ky => (x.a, x.k))
theorem kKey_open {w : World} {x : Ky} {cs : List Value} (h : kKey.K w x cs) : cs = [.int .i64 x.a, .int .i64 x.k] := by
  obtain ⟨_, _, rfl, rfl, rfl⟩ := h
  exact rfl
def zKy : Ky := ⟨0, 0⟩
theorem at_key {w : World} {A : Option Addr} {n : Nat} {l : List Ky} (h : Kd.C kKey w A n l) (i : Nat) (h1 : i < n) : ∃ ad, A = some ad ∧ w.cell? (ad.add (i * 2)) = some (.int .i64 (l.getD i zKy).a) ∧ w.cell? ⟨(ad.add (i * 2)).block, (ad.add (i * 2)).off + 1, none⟩ = some (.int .i64 (l.getD i zKy).k) := by
  obtain ⟨ad, c, e, _, hK, hc0⟩ := Kd.C_get h zKy (i : Int) (by omega) (by omega)
  have hc : ∀ j u, c[j]? = some u → w.cell? (ad.add (i * 2 + j)) = some u := hc0
  obtain rfl := kKey_open hK
  exact ⟨ad, e, hc 0 _ rfl, by rw [← add_field _ _ 1 (by omega)]; exact hc 1 _ rfl⟩
/-- Laid. -/
def layS (n : Nat) (l : List Ky) : Gap := l.foldl (fun g k => putS n g k.a k.k) (gap0 n)
theorem layS_snoc (n : Nat) (l : List Ky) (i : Nat) (hi : i < l.length) : layS n (l.take (i + 1)) = putS n (layS n (l.take i)) (l.getD i zKy).a (l.getD i zKy).k := by
  unfold layS
  rw [List.take_succ_eq_append_getElem hi, List.foldl_append]
  simp [List.getD_eq_getElem?_getD, hi]
theorem layS_len (n : Nat) (l : List Ky) : (layS n l).xs.length = n := by
  unfold layS
  have h : ∀ (l : List Ky) (g : Gap), g.xs.length = n → (l.foldl (fun g k => putS n g k.a k.k) g).xs.length = n := by
    intro l
    induction l with
    | nil => intro g h; exact h
    | cons k l ih =>
      intro g h
      refine ih _ ?_
      show (putS n g k.a k.k).xs.length = n
      unfold putS
      split
      · show (g.xs.set _ _).length = n
        rw [List.length_set]; exact h
      · exact h
  exact h l _ (by simp [gap0])
theorem slots_putS {n : Nat} {g : Gap} (hx : g.xs.length = n) (i x : Int) : slots n (putS n g i x) = if putR n g i = 0 then (slots n g).set i.toNat ⟨true, x⟩ else slots n g := by
  unfold putS
  split
  · rename_i h
    have hi : i.toNat < n := by
      unfold putR inR at h
      by_cases c : 0 ≤ i ∧ i < (n : Int)
      · omega
      · rw [decide_eq_false c] at h; simp at h
    rw [slots_put hi hx]
  · rfl
theorem putR_off {n : Nat} {g : Gap} {i : Nat} (hi : i < n) (hf : g.on i = false) : putR n g (i : Int) = 0 := by
  unfold putR inR
  rw [decide_eq_true (by omega), if_pos rfl, Int.toNat_natCast, hf]
  rfl
theorem putR_on {n : Nat} {g : Gap} {i : Nat} (hi : i < n) (hf : g.on i = true) : putR n g (i : Int) = 15 := by
  unfold putR inR
  rw [decide_eq_true (by omega), if_pos rfl, Int.toNat_natCast, hf]
  rfl
theorem putR_out {n : Nat} {g : Gap} {i : Int} (hi : ¬ (0 ≤ i ∧ i < n)) : putR n g i = 10 := by
  unfold putR inR
  rw [decide_eq_false hi]
  rfl
theorem made_no (n : Int) (A : Option Addr) (c : Nat) (l : List Ky) (w : World) (h : n < 1 ∨ 5000 < n ∨ 300 < l.length) :
    Calls Tryd.prog 33 #[.agg #[.int .i64 n, .slice A l.length c]] w fun e w' => e = .returned (.tuple #[.pointer none, .slice none 0 0]) ∧ Below w.heap.size w w' := by
  have HB := Aside0.mk (below_alloc (Below.refl w.heap.size w) (.cells #[.int .i64 n, .slice A l.length c] 63))
  by_cases h1 : n < 1
  · clear h
    go_enter Tryd.func33, Tryd.ntmps33
    go_wp2
    go_ret2
    exact ⟨rfl, HB.out⟩
  · by_cases h2 : 5000 < n
    · clear h
      go_enter Tryd.func33, Tryd.ntmps33
      go_wp2
      go_ret2
      exact ⟨rfl, HB.out⟩
    · have h3 : 300 < l.length := by omega
      clear h
      go_enter Tryd.func33, Tryd.ntmps33
      go_wp2
      go_ret2
      exact ⟨rfl, HB.out⟩
/-- What is made. -/
def Two (w w' : World) (n : Nat) (g : Gap) (L : List S60) (e : Ending) : Prop := ∃ p sb ob wb lb, e = .returned (.tuple #[.pointer (some ⟨p, 0, none⟩), .slice (some ⟨lb, 0, none⟩) n n]) ∧ Sep w w' [Arr p sb ob wb n g, SlB lb L]
set_option maxHeartbeats 1000000 in
theorem made_yes (n : Nat) (A : Option Addr) (c : Nat) (l : List Ky) (w : World) (hr : Kd.C kKey w A l.length l) (h1 : 1 ≤ n) (h2 : n ≤ 5000) (h3 : l.length ≤ 300) :
    Calls Tryd.prog 33 #[.agg #[.int .i64 n, .slice A l.length c]] w fun e w' => Two w w' n (layS n l) (slots n (layS n l)) e := by
  have HS := Aside0.mk ((Sep.nil w).new_blk #[.int .i64 n, .slice A l.length c] 63)
  have HR := Aside0.mk hr
  have hmk := make_slots n (by omega)
  clear hr
  go_enter Tryd.func33, Tryd.ntmps33
  have t0 : (_ : Option Value) = some (.int .i64 n) := (blk_cell (HS.out.blk 0 rfl) 0).trans rfl
  go_wp2_with fail
  refine (gnew_yes n _ h1 (by omega)).mono ?_
  clear t0
  rintro e w1 ⟨p, sb, ob, wb, rfl, hb4, hS, hB⟩
  replace HS := Aside0.mk (HS.out.new_arr (s := gap0 n) hB ⟨_, hS⟩ hb4)
  clear hb4 hS hB
  have t0 : (_ : Option Value) = some (.int .i64 n) := (blk_cell (HS.out.blk 0 rfl) 0).trans rfl
  have t1 : (_ : Option Value) = some (.slice A l.length c) := (blk_cell (HS.out.blk 0 rfl) 1).trans rfl
  go_wp2
  obtain ⟨lb, hlb⟩ : ∃ lb, w1.heap.size = lb := ⟨_, rfl⟩
  have HS : Aside0 (Sep w _ [Blk w.heap.size #[.int .i64 n, .slice A l.length c] 63, Arr p sb ob wb n (layS n (l.take 0)), SlB w1.heap.size (List.replicate n z60)]) := ⟨HS.out.new_blk (slc (List.replicate n z60)).toArray 60⟩
  simp only [hlb] at HS ⊢
  generalize w1.alloc (.cells (slc (List.replicate n z60)).toArray 60) = w2 at *
  rw [← slots_zero] at HS
  clear hlb hmk t0 t1
  go_loopg [7] l.length (fun kq v7 w' => ∃ i : Nat, v7 = .int .i64 i ∧ i ≤ l.length ∧ Aside0 (l.length - i ≤ kq) ∧ Aside0 (Sep w w' [Blk w.heap.size #[.int .i64 n, .slice A l.length c] 63, Arr p sb ob wb n (layS n (l.take i)), SlB lb (slots n (layS n (l.take i)))]))
  case atStart => exact ⟨0, rfl, by omega, ⟨by omega⟩, HS⟩
  case round =>
    clear HS
    obtain ⟨i, rfl, hi, HQ, HS⟩ := hrel
    have t0 : (_ : Option Value) = some (.int .i64 n) := (blk_cell (HS.out.blk 0 rfl) 0).trans rfl
    have t1 : (_ : Option Value) = some (.slice A l.length c) := (blk_cell (HS.out.blk 0 rfl) 1).trans rfl
    by_cases hlt : i < l.length
    · obtain ⟨ad, e, d0, d1⟩ := at_key (Kd.C_below HR.out HS.out.below) i hlt
      cases e
      have HN := Aside0.mk (layS_snoc n l i hlt)
      have hx : (layS n (l.take i)).xs.length = n := layS_len _ _
      have HP := Aside0.mk (slots_putS hx (l.getD i zKy).a (l.getD i zKy).k)
      generalize l.getD i zKy = a at *
      generalize layS n (l.take i) = g at *
      obtain ⟨a, k⟩ := a
      obtain ⟨gk, rfl⟩ : ∃ m, gk = m + 1 := ⟨gk - 1, by have := HQ.out; omega⟩
      replace HS := Aside0.mk (HS.out.new_blk #[.int .i64 a, .int .i64 k] 93)
      go_wp2_with fail
      clear t0 t1 d0 d1
      refine (put_any (HS.out.arr 1 rfl) a k).mono ?_
      rintro e w2 ⟨rfl, hs, ho⟩
      replace HS := Aside0.mk (HS.out.turn_arr 1 rfl ho hs)
      clear hs ho
      have t0 : (_ : Option Value) = some (.int .i64 n) := (blk_cell (HS.out.blk 0 rfl) 0).trans rfl
      have t1 : (_ : Option Value) = some (.slice (some ad) l.length c) := (blk_cell (HS.out.blk 0 rfl) 1).trans rfl
      have d0 : (_ : Option Value) = some (.int .i64 a) := (blk_cell (HS.out.blk 3 rfl) 0).trans rfl
      have d1 : (_ : Option Value) = some (.int .i64 k) := (blk_cell (HS.out.blk 3 rfl) 1).trans rfl
      by_cases ha : 0 ≤ a ∧ a < n
      · obtain ⟨m, rfl⟩ := Int.eq_ofNat_of_zero_le ha.1
        have hm : m < n := by omega
        have hc := slb_cell (HS.out.slb 2 rfl) (i := m) (by rw [slots_length]; exact hm)
        rw [slots_get n g hm] at hc
        have s0 := hc.1
        have s1 := hc.2
        have f0 := blk_frozen (HS.out.slb 2 rfl) (m * 2)
        have f1 := blk_frozen (HS.out.slb 2 rfl) (m * 2 + 1)
        clear hc ha
        cases hf : g.on m
        · rw [hf] at s0
          rw [putR_off hm hf, if_pos rfl, Int.toNat_natCast] at HP
          clear hf
          go_wp2
          go_roundg gk
          case measure => omega
          case rel => exact ⟨i + 1, by go_num, by omega, ⟨by have := HQ.out; omega⟩, ⟨by rw [HN.out, HP.out]; exact (HS.out.slb_turn 2 rfl m true k).take 3⟩⟩
        · rw [hf] at s0
          rw [putR_on hm hf, if_neg (by decide)] at HP
          clear hf
          go_wp2
          go_roundg gk
          case measure => omega
          case rel => exact ⟨i + 1, by go_num, by omega, ⟨by have := HQ.out; omega⟩, ⟨by rw [HN.out, HP.out]; exact HS.out.take 3⟩⟩
      · rw [putR_out ha, if_neg (by decide)] at HP
        by_cases ha0 : 0 ≤ a
        · have ha1 : ¬ a < (n : Int) := fun c => ha ⟨ha0, c⟩
          clear ha
          go_wp2
          go_roundg gk
          case measure => omega
          case rel => exact ⟨i + 1, by go_num, by omega, ⟨by have := HQ.out; omega⟩, ⟨by rw [HN.out, HP.out]; exact HS.out.take 3⟩⟩
        · clear ha
          go_wp2
          go_roundg gk
          case measure => omega
          case rel => exact ⟨i + 1, by go_num, by omega, ⟨by have := HQ.out; omega⟩, ⟨by rw [HN.out, HP.out]; exact HS.out.take 3⟩⟩
    · obtain rfl : l.length = i := by omega
      go_wp2
      go_ret2
      have := HS.out.tail
      rw [List.take_length] at this
      exact ⟨p, sb, ob, wb, lb, rfl, this⟩
end Go.Proofs.YtbjkncgpoengaaaDoor.F4

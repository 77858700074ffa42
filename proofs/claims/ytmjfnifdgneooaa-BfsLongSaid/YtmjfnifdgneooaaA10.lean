/- Walks of bfs.Of: its three answers. -/
import Derived.Test.YtmjfnifdgneooaaA9
namespace Go.Proofs.Ytmjfnifdgneooaa.A10
open Go.RowKit Go.Proofs.YtmjfnifdgneooaaW.PrintWords Go.Proofs.YtmjfnifdgneooaaW.PrintLast Go.Proofs.YtmjfnifdgneooaaW.PrintMore B1 A1 B2 B3 B4 B5 A8 A9
set_option linter.unusedVariables false
set_option linter.unusedSimpArgs false

theorem info_int : (Try.prog.info? 3).map (fun i => (i.zero, i.size, i.bytes)) = some (some (.int .i64 0), 1, 8) := by kernel_rfl
theorem size_lay : (Try.prog.info? 43).map (·.size) = some 1 := by kernel_rfl
theorem made_nums (n : Nat) : madeCells #[.int .i64 0] n = (nums .i64 (List.replicate n 0)).toArray := by
  apply Array.ext
  · simp [size_madeCells, nums]
  · intro i h1 h2
    simp [madeCells, nums, Nat.mod_one]
/-- Of a new layout and an error's number. -/
theorem end_of {w2 : World} {tm : Array Value} (s : Value) (e : Int) (g : Nat) (hp : tm.getD 2 undef = .pointer (some ⟨g, 0, none⟩)) (hg : w2.heap[g]? = some (.cells #[s] 43 (0, 0))) (h3 : tm.getD 3 undef = .int .i64 e) :
    (results Try.f29 tm).run Try.prog w2 = .ok (.tuple #[.agg #[s], .int .i64 e]) w2 := by
  have h := results_ct (P := Try.prog) (fn := Try.f29) (p := 2) (u := 3) (ty := 43) rfl tm w2 g 43 #[s] (0, 0) _ hp hg Try.underlying43 rfl size_lay
  rw [h3] at h
  exact h

set_option maxHeartbeats 400000 in
theorem of_order (A0 : Option Addr) (c0 : Nat) (l : List Int) (w : World) (hr : Kd.C (Kd.int .i64) w A0 l.length l) (hc : l.length ≤ c0) (hlen : l.length ≤ 1000000000000) (h : risingB l = false) :
    Calls Try.prog 29 #[.slice A0 l.length c0] w fun e w' => e = .returned (.tuple #[.agg #[.slice none 0 0], .int .i64 18]) ∧ Below w.heap.size w w' := by
  have HH := Aside0.mk h
  clear h
  have B1 : Below w.heap.size w ((w.alloc (.cells #[.slice A0 l.length c0] 22)).alloc (.cells #[.slice none 0 0] 43)) := ((Below.refl _ _).alloc (Nat.le_refl _) _).alloc (by simp) _
  have HR := Aside0.mk (Kd.C_below hr B1)
  have HB := Aside0.mk B1
  have k1 := blk_alloc (blk_new w (.cells #[.slice A0 l.length c0] 22)) (.cells #[.slice none 0 0] 43)
  have k2 := blk_new (w.alloc (.cells #[.slice A0 l.length c0] 22)) (.cells #[.slice none 0 0] 43)
  simp only [World.size_alloc] at k2
  have K1 := Aside0.mk k1
  have K2 := Aside0.mk k2
  clear hr B1 k1 k2
  go_enter Try.func29, Try.ntmps29
  go_wp2_with fail
  refine (rising_any A0 c0 l false HH.out _ HR.out hc (by omega)).mono ?_
  rintro e w1 ⟨rfl, hw⟩
  replace K1 := Aside0.mk (blk_below K1.out hw.below)
  replace K2 := Aside0.mk (blk_below K2.out hw.below)
  replace HR := Aside0.mk (Kd.C_below HR.out hw.below)
  replace HB := Aside0.mk (below_step HB.out hw.below)
  have c1 : w1.cell? ⟨w.heap.size, 0, none⟩ = some (.slice A0 l.length c0) := (blk_cell K1.out 0).trans rfl
  have c2 : w1.cell? ⟨w.heap.size + 1, 0, none⟩ = some (.slice none 0 0) := (blk_cell K2.out 0).trans rfl
  have f2 := blk_frozen K2.out 0
  clear hw
  go_wp2
  have k3 := blk_set K2.out 0 (.slice none 0 0)
  exact bodyPost_ret (end_of _ _ _ rfl k3 rfl) rfl ⟨rfl, HB.out.setCell (p := ⟨w.heap.size + 1, 0, none⟩) (by simp) _⟩
set_option maxHeartbeats 400000 in
theorem of_long (A0 : Option Addr) (c0 : Nat) (l : List Int) (w : World) (hr : Kd.C (Kd.int .i64) w A0 l.length l) (hc : l.length ≤ c0) (hlen : l.length ≤ 1000000000000) (h : risingB l = true) (hl : 65536 < l.length) :
    Calls Try.prog 29 #[.slice A0 l.length c0] w fun e w' => e = .returned (.tuple #[.agg #[.slice none 0 0], .int .i64 12]) ∧ Below w.heap.size w w' := by
  have HH := Aside0.mk h
  clear h
  have B1 : Below w.heap.size w ((w.alloc (.cells #[.slice A0 l.length c0] 22)).alloc (.cells #[.slice none 0 0] 43)) := ((Below.refl _ _).alloc (Nat.le_refl _) _).alloc (by simp) _
  have HR := Aside0.mk (Kd.C_below hr B1)
  have HB := Aside0.mk B1
  have k1 := blk_alloc (blk_new w (.cells #[.slice A0 l.length c0] 22)) (.cells #[.slice none 0 0] 43)
  have k2 := blk_new (w.alloc (.cells #[.slice A0 l.length c0] 22)) (.cells #[.slice none 0 0] 43)
  simp only [World.size_alloc] at k2
  have K1 := Aside0.mk k1
  have K2 := Aside0.mk k2
  clear hr B1 k1 k2
  go_enter Try.func29, Try.ntmps29
  go_wp2_with fail
  refine (rising_any A0 c0 l true HH.out _ HR.out hc (by omega)).mono ?_
  rintro e w1 ⟨rfl, hw⟩
  replace K1 := Aside0.mk (blk_below K1.out hw.below)
  replace K2 := Aside0.mk (blk_below K2.out hw.below)
  replace HR := Aside0.mk (Kd.C_below HR.out hw.below)
  replace HB := Aside0.mk (below_step HB.out hw.below)
  have c1 : w1.cell? ⟨w.heap.size, 0, none⟩ = some (.slice A0 l.length c0) := (blk_cell K1.out 0).trans rfl
  have c2 : w1.cell? ⟨w.heap.size + 1, 0, none⟩ = some (.slice none 0 0) := (blk_cell K2.out 0).trans rfl
  have f2 := blk_frozen K2.out 0
  clear hw
  go_wp2
  have k3 := blk_set K2.out 0 (.slice none 0 0)
  exact bodyPost_ret (end_of _ _ _ rfl k3 rfl) rfl ⟨rfl, HB.out.setCell (p := ⟨w.heap.size + 1, 0, none⟩) (by simp) _⟩
set_option maxHeartbeats 800000 in
theorem of_yes (A0 : Option Addr) (c0 : Nat) (l : List Int) (w : World) (hr : Kd.C (Kd.int .i64) w A0 l.length l) (hc : l.length ≤ c0) (hlen : l.length ≤ 65536) (h : risingB l = true) :
    Calls Try.prog 29 #[.slice A0 l.length c0] w fun e w' => ∃ g, w.heap.size ≤ g ∧ e = .returned (.tuple #[.agg #[.slice (some ⟨g, 0, none⟩) l.length l.length], .int .i64 0]) ∧
      w'.heap[g]? = some (.cells (nums .i64 (layOf l)).toArray 3 (0, 0)) ∧ Below w.heap.size w w' := by
  have HH := Aside0.mk h
  have HC := Aside0.mk hr
  clear h
  have B1 : Below w.heap.size w ((w.alloc (.cells #[.slice A0 l.length c0] 22)).alloc (.cells #[.slice none 0 0] 43)) := ((Below.refl _ _).alloc (Nat.le_refl _) _).alloc (by simp) _
  have HR := Aside0.mk (Kd.C_below hr B1)
  have HB := Aside0.mk B1
  have k1 := blk_alloc (blk_new w (.cells #[.slice A0 l.length c0] 22)) (.cells #[.slice none 0 0] 43)
  have k2 := blk_new (w.alloc (.cells #[.slice A0 l.length c0] 22)) (.cells #[.slice none 0 0] 43)
  simp only [World.size_alloc] at k2
  have K1 := Aside0.mk k1
  have K2 := Aside0.mk k2
  clear hr B1 k1 k2
  go_enter Try.func29, Try.ntmps29
  go_wp2_with fail
  refine (rising_any A0 c0 l true HH.out _ HR.out hc (by omega)).mono ?_
  rintro e w1 ⟨rfl, hw⟩
  replace K1 := Aside0.mk (blk_below K1.out hw.below)
  replace K2 := Aside0.mk (blk_below K2.out hw.below)
  replace HR := Aside0.mk (Kd.C_below HR.out hw.below)
  replace HB := Aside0.mk (below_step HB.out hw.below)
  have c1 : w1.cell? ⟨w.heap.size, 0, none⟩ = some (.slice A0 l.length c0) := (blk_cell K1.out 0).trans rfl
  have c2 : w1.cell? ⟨w.heap.size + 1, 0, none⟩ = some (.slice none 0 0) := (blk_cell K2.out 0).trans rfl
  have f2 := blk_frozen K2.out 0
  clear hw
  have hs1 : w.heap.size + 1 < w1.heap.size := blk_lt K2.out
  have hs0 : w.heap.size < w1.heap.size := by omega
  have hmk := print_make_int (P := Try.prog) 22 3 (.int .i64 0) 8 Try.underlying22 info_int rfl (by decide) (l.length : Int) (by omega) (by omega)
  simp only [Int.toNat_natCast] at hmk
  have c1x : (((w1.alloc (.cells (madeCells #[.int .i64 0] l.length) 3)).alloc (.cells #[.slice (some ⟨w1.heap.size, 0, none⟩) l.length l.length] 43)).alloc (.cells #[.int .i64 0] 3)).cell? ⟨w.heap.size, 0, none⟩ = some (.slice A0 l.length c0) := (blk_cell (blk_alloc (blk_alloc (blk_alloc K1.out _) _) _) 0).trans rfl
  go_wp2_with fail
  have k4 := blk_new w1 (.cells (madeCells #[.int .i64 0] l.length) 3)
  have k5 := blk_new (w1.alloc (.cells (madeCells #[.int .i64 0] l.length) 3)) (.cells #[.slice (some ⟨w1.heap.size, 0, none⟩) l.length l.length] 43)
  have k6 := blk_new ((w1.alloc (.cells (madeCells #[.int .i64 0] l.length) 3)).alloc (.cells #[.slice (some ⟨w1.heap.size, 0, none⟩) l.length l.length] 43)) (.cells #[.int .i64 0] 3)
  simp only [World.size_alloc] at k5 k6
  have I0 : OfI w A0 c0 l w.heap.size (w1.heap.size + 1 + 1) (w1.heap.size + 1) w1.heap.size (w.heap.size + 1) (.cells #[.slice none 0 0] 43) [] (((w1.alloc (.cells (madeCells #[.int .i64 0] l.length) 3)).alloc (.cells #[.slice (some ⟨w1.heap.size, 0, none⟩) l.length l.length] 43)).alloc (.cells #[.int .i64 0] 3)) :=
    ⟨below_alloc (below_alloc (below_alloc HB.out _) _) _, blk_alloc (blk_alloc (blk_alloc K1.out _) _) _, k6, blk_alloc k5 _, by simp only [fill]; rw [← made_nums]; exact blk_alloc (blk_alloc k4 _) _, blk_alloc (blk_alloc (blk_alloc K2.out _) _) _⟩
  have II := Aside0.mk I0
  clear k4 k5 k6 I0 hmk c1 c2 f2 c1x
  generalize hW : (((w1.alloc (.cells (madeCells #[.int .i64 0] l.length) 3)).alloc (.cells #[.slice (some ⟨w1.heap.size, 0, none⟩) l.length l.length] 43)).alloc (.cells #[.int .i64 0] 3)) = WX at II ⊢
  have hWs : WX.heap.size = w1.heap.size + 3 := by rw [← hW]; simp
  clear hW
  have HW := Aside0.mk hWs
  clear hWs
  refine (order_any39 w.heap.size (w1.heap.size + 1 + 1) (w1.heap.size + 1) l.length (by omega) (OfI w A0 c0 l w.heap.size (w1.heap.size + 1 + 1) (w1.heap.size + 1) w1.heap.size (w.heap.size + 1) (.cells #[.slice none 0 0] 43)) WX ?hT II.out ?hA ?hS).mono ?_
  case hT => exact fun pre p post W h1 h2 h3 => ofTell_any w A0 c0 l _ _ _ _ _ _ HC.out (by omega) (by omega) (by omega) (by omega) (by omega) (by omega) (by omega) (by omega) (by omega) (by omega) WX.heap.size (by rw [HW.out]; omega) (by rw [HW.out]; omega) pre p post W h1 h2 h3
  case hA => exact fun pre W o h => ⟨below_alloc h.below _, blk_alloc h.k1 _, blk_alloc h.k2 _, blk_alloc h.k3 _, blk_alloc h.k4 _, blk_alloc h.k5 _⟩
  case hS =>
    intro pre W a v h ha
    rw [HW.out] at ha
    exact ⟨h.below.setCell (by omega) v, blk_far h.k1 (by omega) v, blk_far h.k2 (by omega) v, blk_far h.k3 (by omega) v, blk_far h.k4 (by omega) v, blk_far h.k5 (by omega) v⟩
  rintro e w2 ⟨rfl, i2, u2⟩
  have I2 := Aside0.mk i2
  have d3 : w2.cell? ⟨w1.heap.size + 1, 0, none⟩ = some (.slice (some ⟨w1.heap.size, 0, none⟩) l.length l.length) := (blk_cell i2.k3 0).trans rfl
  have d5 : w2.cell? ⟨w.heap.size + 1, 0, none⟩ = some (.slice none 0 0) := (blk_cell i2.k5 0).trans rfl
  have f5 := blk_frozen i2.k5 0
  clear i2 u2
  go_wp2
  have k9 := blk_set I2.out.k5 0 (.slice (some ⟨w1.heap.size, 0, none⟩) l.length l.length)
  refine bodyPost_ret (end_of _ _ _ rfl k9 rfl) rfl ⟨w1.heap.size, by omega, rfl, ?_, I2.out.below.setCell (p := ⟨w.heap.size + 1, 0, none⟩) (by simp) _⟩
  exact blk_far I2.out.k4 (by simp; omega) _
end Go.Proofs.Ytmjfnifdgneooaa.A10

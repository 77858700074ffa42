/- Clones: of a row, of a row of bits, of an array with gaps; the row's padding is zeros. -/
import Derived.Test.YtofkkdjbilklcaaDoorSN
import Derived.Laws.Append
import Derived.Deep.RegionHeld3
namespace Go.Proofs.YtofkkdjbilklcaaDoor.CL
open Go.RowKit Go.Shelf Go.Proofs.YtofkkdjbilklcaaDoorW.PrintWords Go.Proofs.YtofkkdjbilklcaaDoorW.PrintLast Go.Proofs.YtofkkdjbilklcaaDoorW.PrintMore G1 G0 Q1 G2 G3 G4 G5 G6 G7 G8 G9 G10 S1
set_option linter.unusedVariables false
set_option linter.unusedSimpArgs false
theorem zero_cells (k : IntKind) (d : Nat) : Builtin.zeroCells #[.int k 0] d = (nums k (List.replicate d 0)).toArray := by
  apply Array.ext
  · simp [Builtin.zeroCells, nums]
  · intro i h1 h2
    simp [Builtin.zeroCells, nums, Nat.mod_one]
/-- append(nothing, ys...): a new row, with zeros behind. -/
theorem wp_clone {P : Program} {ops : Array Oper} {rest : List Oper} {o : Oper} {a : Act} {Q : Exit → Act → World → Prop} {W : World} (hgd : o.guard = none) (s x : Operand) (t e : TypeId) (k : IntKind) (ho : o.op = .call { callee := .builtin .append, args := #[s, x], argTypes := #[t, t] })
    (ht : P.underlying t = some (.slice e)) (hinfo : (P.info? e).map (fun i => (i.zero, i.size, i.bytes)) = some (some (.int k 0), 1, 8)) {b ad : Addr} {m c : Nat} {ys : List Int} (hs : a.eval s = .slice (some b) 0 0) (hx : a.eval x = .slice (some ad) m c) (hy : ys.length = m) (hm : 0 < m)
    (hc : ∀ j, j < m → W.cell? (ad.add j) = some (.int k (ys.getD j 0))) (hl : m ≤ 1000000)
    (K : ∀ d, wpList P ops Q rest (a.put o.dst (.slice (some ⟨W.heap.size, 0, none⟩) m (m + d))) (W.drew.alloc (.cells (nums k (ys ++ List.replicate d 0)).toArray e))) : wpList P ops Q (o :: rest) a W := by
  obtain ⟨i0, hi, hzz⟩ := Option.map_eq_some_iff.1 hinfo
  simp only [Prod.mk.injEq] at hzz
  obtain ⟨hz0, hz1, hz2⟩ := hzz
  have hg : (0 : Nat) < 0 + m := by omega
  have hr := run_append_grow (P := P) W t o.type e i0 (.int k 0) ht hi hz0 b 0 0 [] (by simp) (fun j v h => by simp at h) ad m c (nums k ys) (by simp [nums, hy, hz1]) (fun j v h => by
      have hj : j < ys.length := by
        rcases Nat.lt_or_ge j ys.length with h1 | h1
        · exact h1
        · simp [nums, List.getElem?_eq_none h1] at h
      rw [hc j (by omega)]
      simp [nums, List.getElem?_eq_getElem hj] at h
      subst h
      simp [List.getD_eq_getElem?_getD, List.getElem?_eq_getElem hj]) hg (by omega) (growslice_fits hg (by rw [hz2]; omega))
  have hge := grownCap_ge W (0 + m) 0 e
  obtain ⟨d, hd⟩ : ∃ d, grownCap W (0 + m) 0 e = m + d := ⟨grownCap W (0 + m) 0 e - m, by omega⟩
  have hcs : (Value.int k 0).cells = #[.int k 0] := rfl
  rw [hd, show m + d - (0 + m) = d by omega, Nat.zero_add, hcs, zero_cells] at hr
  have he : (([] : List Value).toArray ++ (nums k ys).toArray ++ (nums k (List.replicate d 0)).toArray) = (nums k (ys ++ List.replicate d 0)).toArray := by
    apply Array.ext'
    simp [nums]
  rw [he] at hr
  refine wpList_plain hgd fun K' hK' => ?_
  unfold Oper.wp
  simp [execOp, ho, resolve, invoke, builtin, hs, hx, hr, Result.andThen]
  exact hK' _ _ (K d)
theorem info_u64 : (Tryd.prog.info? 131).map (fun i => (i.zero, i.size, i.bytes)) = some (some (.int .u64 0), 1, 8) := by kernel_rfl
theorem add_at (b j : Nat) : (⟨b, 0, none⟩ : Addr).add j = ⟨b, j, none⟩ := by
  simp [Addr.add]
  exact fun h => h.symm
theorem clone_row {w : World} {b c m : Nat} {ys : List Int} (hm : 0 < m) (hy : ys.length = m) (hc : ∀ j, j < m → w.cell? ⟨b, j, none⟩ = some (.int .i64 (ys.getD j 0))) (hl : m ≤ 1000000) :
    Calls Tryd.prog 102 #[.slice (some ⟨b, 0, none⟩) m c] w fun e w' => ∃ b' d, e = .returned (.slice (some ⟨b', 0, none⟩) m (m + d)) ∧ w.heap.size ≤ b' ∧ w'.heap[b']? = some (.cells (nums .i64 (ys ++ List.replicate d 0)).toArray 3 (0, 0)) ∧ Below w.heap.size w w' := by
  have hnil := fun (w : World) => Go.Lib.run_eql_slice_nil (P := Tryd.prog) w 22 3 (some ⟨b, 0, none⟩) m c 0 0 Tryd.underlying22
  have HB := Aside0.mk (below_alloc (Below.refl w.heap.size w) (.cells #[] 3))
  have HC : Aside0 (∀ j, j < m → (w.alloc (.cells #[] 3)).cell? ((⟨b, 0, none⟩ : Addr).add j) = some (.int .i64 (ys.getD j 0))) := ⟨fun j hj => by rw [add_at]; exact pw_cell_below HB.out (hc j hj)⟩
  have HM := Aside0.mk (And.intro hm (And.intro hy hl))
  clear hc hm hy hl
  go_enter Tryd.func102, Tryd.ntmps102
  go_wp2_with ((with_reducible refine gate_builtin (b := .append) (xs := #[.tmp 5, .tmp 6]) rfl ?_); at_builtin; refine wp_clone rfl (.tmp 5) (.tmp 6) 22 3 .i64 rfl Tryd.underlying22 G9.info3 rfl rfl HM.out.2.1 HM.out.1 HC.out HM.out.2.2 ?_; intro d)
  go_ret
  have k := blk_new (w.alloc (.cells #[] 3)) (.cells (nums .i64 (ys ++ List.replicate d 0)).toArray 3)
  simp only [World.size_alloc] at k
  refine ⟨_, d, rfl, by omega, k, ?_⟩
  exact below_drew (below_alloc (below_alloc (Below.refl _ _) _) _)
theorem clonew_row {w : World} {b c m : Nat} {ys : List Int} (hm : 0 < m) (hy : ys.length = m) (hc : ∀ j, j < m → w.cell? ⟨b, j, none⟩ = some (.int .u64 (ys.getD j 0))) (hl : m ≤ 1000000) :
    Calls Tryd.prog 134 #[.slice (some ⟨b, 0, none⟩) m c] w fun e w' => ∃ b' d, e = .returned (.slice (some ⟨b', 0, none⟩) m (m + d)) ∧ w.heap.size ≤ b' ∧ w'.heap[b']? = some (.cells (nums .u64 (ys ++ List.replicate d 0)).toArray 131 (0, 0)) ∧ Below w.heap.size w w' := by
  have hnil := fun (w : World) => Go.Lib.run_eql_slice_nil (P := Tryd.prog) w 132 131 (some ⟨b, 0, none⟩) m c 0 0 Tryd.underlying132
  have HB := Aside0.mk (below_alloc (Below.refl w.heap.size w) (.cells #[] 131))
  have HC : Aside0 (∀ j, j < m → (w.alloc (.cells #[] 131)).cell? ((⟨b, 0, none⟩ : Addr).add j) = some (.int .u64 (ys.getD j 0))) := ⟨fun j hj => by rw [add_at]; exact pw_cell_below HB.out (hc j hj)⟩
  have HM := Aside0.mk (And.intro hm (And.intro hy hl))
  clear hc hm hy hl
  go_enter Tryd.func134, Tryd.ntmps134
  go_wp2_with ((with_reducible refine gate_builtin (b := .append) (xs := #[.tmp 5, .tmp 6]) rfl ?_); at_builtin; refine wp_clone rfl (.tmp 5) (.tmp 6) 132 131 .u64 rfl Tryd.underlying132 info_u64 rfl rfl HM.out.2.1 HM.out.1 HC.out HM.out.2.2 ?_; intro d)
  go_ret
  have k := blk_new (w.alloc (.cells #[] 131)) (.cells (nums .u64 (ys ++ List.replicate d 0)).toArray 131)
  simp only [World.size_alloc] at k
  refine ⟨_, d, rfl, by omega, k, ?_⟩
  exact below_drew (below_alloc (below_alloc (Below.refl _ _) _) _)
theorem get_pad {xs : List Nat} {m d j : Nat} (hm : m ≤ xs.length) : (xs.take m ++ List.replicate d 0).getD j 0 = if j < m then xs.getD j 0 else 0 := by
  simp only [List.getD_eq_getElem?_getD, List.getElem?_append, List.length_take, List.getElem?_take, List.getElem?_replicate]
  by_cases h : j < m
  · rw [if_pos (by omega), if_pos h, if_pos h]
  · rw [if_neg (by omega), if_neg h]
    split <;> rfl
theorem get_padI {xs : List Int} {m d j : Nat} (hm : m ≤ xs.length) : (xs.take m ++ List.replicate d 0).getD j 0 = if j < m then xs.getD j 0 else 0 := by
  simp only [List.getD_eq_getElem?_getD, List.getElem?_append, List.length_take, List.getElem?_take, List.getElem?_replicate]
  by_cases h : j < m
  · rw [if_pos (by omega), if_pos h, if_pos h]
  · rw [if_neg (by omega), if_neg h]
    split <;> rfl
theorem get_take {xs : List Int} {m j : Nat} (h : j < m) : (xs.take m).getD j 0 = xs.getD j 0 := by
  simp only [List.getD_eq_getElem?_getD, List.getElem?_take, if_pos h]
/-- The same array, of another row. -/
structure Same (n : Nat) (g g2 : Gap) : Prop where
  on : g2.on = g.on
  xs : ∀ i, i < n → g2.xs.getD i 0 = g.xs.getD i 0
  len : n ≤ g2.xs.length
theorem ons_same {f : Nat → Bool} {xs ys : List Int} : ∀ n, (∀ i, i < n → ys.getD i 0 = xs.getD i 0) → ons f ys n = ons f xs n
  | 0, _ => rfl
  | n + 1, h => by rw [ons_succ, ons_succ, ons_same n fun i hi => h i (by omega), h n (by omega)]
theorem Same.ons {n : Nat} {g g2 : Gap} (h : Same n g g2) : G8.ons g2.on g2.xs n = G8.ons g.on g.xs n := by rw [h.on]; exact ons_same n h.xs
/-- A clone of a row of bits. -/
theorem bclone_any {w : World} {ob wb n : Nat} {f : Nat → Bool} {vs : List Nat} (h : BitsAt w ob wb n f vs) : Calls Tryd.prog 103 #[.pointer (some ⟨ob, 0, none⟩)] w fun e w' => ∃ ob' wb' vs', e = .returned (.pointer (some ⟨ob', 0, none⟩)) ∧ w.heap.size ≤ ob' ∧ w.heap.size ≤ wb' ∧ BitsAt w' ob' wb' n f vs' ∧ Below w.heap.size w w' := by
  have hl := h.low
  have hh := h.high
  obtain ⟨m, hm⟩ : ∃ m, (n + 63) / 64 = m := ⟨_, rfl⟩
  have hlen := h.len
  have c0 : (_ : Option Value) = some (.int .i64 (n : Int)) := (blk_cell h.ho 0).trans rfl
  have c1 : (_ : Option Value) = some (.slice (some ⟨wb, 0, none⟩) ((n + 63) / 64) vs.length) := (blk_cell h.ho 1).trans rfl
  rw [hm] at c1 hlen
  have CW := Aside0.mk (fun (W : World) (hb : Below w.heap.size w W) => clonew_row (w := W) (b := wb) (c := vs.length) (m := m) (ys := (vs.map Int.ofNat).take m) (by omega) (by simp; omega) (fun j hj => by
    rw [get_take hj]
    have := (h.below hb).cell (k := j) (by omega)
    rw [this]
    have e : (vs.map Int.ofNat).getD j 0 = ((vs.getD j 0 : Nat) : Int) := by
      simp [List.getD_eq_getElem?_getD, List.getElem?_map]
      cases vs[j]? <;> rfl
    rw [e]) (by omega))
  have HH := Aside0.mk h
  have HM := Aside0.mk (And.intro hm hlen)
  generalize vs.length = cc at c1 CW
  clear h hl hh hm hlen
  go_enter Tryd.func103, Tryd.ntmps103
  go_wp2
  go_region_held3 (fun W => W.cell? ⟨ob, 0, none⟩ = some (.int .i64 (n : Int)) ∧ W.cell? ⟨ob, 1, none⟩ = some (.slice (some ⟨wb, 0, none⟩) m cc)) (first | exact ⟨pw_cell_below (below_alloc (Below.refl _ _) _) z1, pw_cell_below (below_alloc (Below.refl _ _) _) z2⟩ | exact ⟨z1, z2⟩ | exact ⟨c0, c1⟩) (first
    | (go_at_call 134; refine (CW.out _ (below_drew (Below.refl _ _))).mono ?_; rintro e w3 ⟨b', d, rfl, h1, h2, hb⟩; have HF := Aside0.mk (And.intro h1 (And.intro h2 hb)); have z1 := pw_cell_below hb c0; have z2 := pw_cell_below hb c1; clear h1 h2 hb))
  go_wp2
  go_ret
  obtain ⟨h1, h2, hb⟩ := HF.out
  obtain ⟨hm, hlen⟩ := HM.out
  have B2 := below_alloc (Below.refl w3.heap.size w3) (.cells #[.int .i64 (n : Int), .slice (some ⟨b', 0, none⟩) m (m + d)] 134)
  have hlv : (vs.take m ++ List.replicate d 0).length = m + d := by simp; omega
  have hsz := hb.size
  refine ⟨w3.heap.size, b', vs.take m ++ List.replicate d 0, rfl, hsz, h1, ⟨HH.out.low, HH.out.high, by rw [hm, hlv]; exact blk_new _ _, ?_, by rw [hm, hlv]; omega, fun k => ?_, fun i hi => ?_, HH.out.out⟩, below_step (below_step (below_drew (Below.refl w.heap.size w)) hb) B2⟩
  · have e : List.map Int.ofNat (List.take m vs ++ List.replicate d (0 : Nat)) = List.take m (List.map Int.ofNat vs) ++ List.replicate d (0 : Int) := by simp [List.map_take]
    rw [e]
    exact blk_below h2 B2
  · rw [get_pad hlen]
    split
    · exact HH.out.small k
    · decide
  · rw [get_pad hlen]
    split
    · rename_i h
      exact HH.out.bit i (by omega)
    · rename_i h
      rw [HH.out.out i (by omega), Nat.zero_testBit]
/-- A clone of an array with gaps. -/
theorem sclone_any {w : World} {p sb ob wb n : Nat} {g : Gap} (hI : Is w p sb ob wb n g) : Calls Tryd.prog 60 #[.pointer (some ⟨p, 0, none⟩)] w fun e w' => ∃ p' sb' ob' wb' g2, e = .returned (.pointer (some ⟨p', 0, none⟩)) ∧ S1.Sep w w' [S1.Arr p' sb' ob' wb' n g2] ∧ Same n g g2 := by
  obtain ⟨vs, h⟩ := hI
  have hl := h.bits.low
  have hh := h.bits.high
  have hlen := h.len
  have c0 := h.c0
  have c1 := h.c1
  have CR := Aside0.mk (fun (W : World) (hb : Below w.heap.size w W) => clone_row (w := W) (b := sb) (c := g.xs.length) (m := n) (ys := g.xs.take n) (by omega) (by simp; omega) (fun j hj => by
    rw [get_take hj]
    exact (h.below hb).cell hj) (by omega))
  have CB := Aside0.mk (fun (W : World) (hb : Below w.heap.size w W) => bclone_any (h.bits.below hb))
  have HH := Aside0.mk h
  have HL := Aside0.mk hlen
  generalize g.xs.length = cc at c0 CR
  clear h hl hh hlen
  go_enter Tryd.func60, Tryd.ntmps60
  go_wp2
  go_region_held3 (fun W => W.cell? ⟨p, 0, none⟩ = some (.slice (some ⟨sb, 0, none⟩) n cc) ∧ W.cell? ⟨p, 1, none⟩ = some (.pointer (some ⟨ob, 0, none⟩))) (first | exact ⟨pw_cell_below (below_alloc (Below.refl _ _) _) z3, pw_cell_below (below_alloc (Below.refl _ _) _) z4⟩ | exact ⟨z3, z4⟩ | exact ⟨z1, z2⟩ | exact ⟨c0, c1⟩) (first
    | (go_at_call 103; refine (CB.out _ HB1.out).mono ?_; rintro e w4 ⟨ob', wb', vs', rfl, h1, h2, h3, hb⟩; have HG := Aside0.mk (And.intro h1 (And.intro h2 (And.intro h3 hb))); have z3 := pw_cell_below hb z1; have z4 := pw_cell_below hb z2; clear h1 h2 h3 hb)
    | (go_at_call 102; refine (CR.out _ (below_drew (Below.refl _ _))).mono ?_; rintro e w3 ⟨b', d, rfl, h1, h2, hb⟩; have HF := Aside0.mk (And.intro h1 (And.intro h2 hb)); have HB1 := Aside0.mk (below_step (below_drew (Below.refl w.heap.size w)) hb); have z1 := pw_cell_below hb c0; have z2 := pw_cell_below hb c1; clear h1 h2 hb))
  go_wp2
  go_ret
  obtain ⟨h1, h2, hb⟩ := HF.out
  obtain ⟨k1, k2, k3, hb2⟩ := HG.out
  have B2 := below_alloc (Below.refl w4.heap.size w4) (.cells #[.slice (some ⟨b', 0, none⟩) n (n + d), .pointer (some ⟨ob', 0, none⟩)] 99)
  have hlv : (g.xs.take n ++ List.replicate d 0).length = n + d := by simp; have := HL.out; omega
  have s1 : w.heap.size ≤ w3.heap.size := hb.size
  have s2 := hb2.size
  have h1' : w.heap.size ≤ b' := h1
  refine ⟨w4.heap.size, b', ob', wb', ⟨g.on, g.xs.take n ++ List.replicate d 0⟩, rfl, (S1.Sep.nil w).new_arr (below_step (below_step HB1.out hb2) B2) ⟨vs', by rw [hlv]; exact blk_new _ _, blk_below (blk_below h2 hb2) B2, by rw [hlv]; omega, k3.below B2⟩ ⟨by omega, by omega, by omega, by omega⟩, rfl, fun i hi => ?_, by rw [hlv]; omega⟩
  show (g.xs.take n ++ List.replicate d 0).getD i 0 = _
  rw [get_padI HL.out, if_pos hi]
end Go.Proofs.YtofkkdjbilklcaaDoor.CL

/- The laws LevelNests and LevelTurns in closed facts. -/
import Derived.Test.YtlaegahdignphaaDoorL3
namespace Go.Proofs.YtlaegahdignphaaDoor.L5
open Go.RowKit Go.Proofs.YtlaegahdignphaaDoorW.PrintWords Go.Proofs.YtlaegahdignphaaDoorW.PrintLast Go.Proofs.YtlaegahdignphaaDoorW.PrintMore Q1 L1 L3
set_option linter.unusedVariables false
set_option linter.unusedSimpArgs false

set_option synthInstance.maxSize 4000 in
set_option synthInstance.maxHeartbeats 400000 in
theorem nests_up {l h : Int} (hm : mayB l h = true) : wrap64 (2 ^ l.toNat) = 2 ^ l.toNat ∧ IntKind.i64.wrap (7 * 2 ^ l.toNat) = 7 * 2 ^ l.toNat ∧ upN l h ≤ 7 * 2 ^ l.toNat ∧ 0 ≤ loN l h ∧ (h ≤ 2 ∨ 2 ^ l.toNat ≤ loN l h) ∧ loN l h ≤ upN l h :=
  dom (p := fun l h => wrap64 (2 ^ l.toNat) = 2 ^ l.toNat ∧ IntKind.i64.wrap (7 * 2 ^ l.toNat) = 7 * 2 ^ l.toNat ∧ upN l h ≤ 7 * 2 ^ l.toNat ∧ 0 ≤ loN l h ∧ (h ≤ 2 ∨ 2 ^ l.toNat ≤ loN l h) ∧ loN l h ≤ upN l h) (by decide +kernel) hm
set_option synthInstance.maxSize 4000 in
set_option synthInstance.maxHeartbeats 400000 in
theorem nests_next {l h : Int} (hm : mayB l h = true) : l < h → mayB (l + 1) h = true ∧ IntKind.i64.wrap (2 * upN l h) = 2 * upN l h ∧ IntKind.i64.wrap (2 * upN l h + 1) = 2 * upN l h + 1 ∧ upN (l + 1) h ≤ 2 * upN l h + 1 ∧ IntKind.i64.wrap (2 * loN l h) = 2 * loN l h ∧ IntKind.i64.wrap (2 * loN l h - 1) = 2 * loN l h - 1 ∧ 2 * loN l h - 1 ≤ loN (l + 1) h :=
  dom (p := fun l h => l < h → mayB (l + 1) h = true ∧ IntKind.i64.wrap (2 * upN l h) = 2 * upN l h ∧ IntKind.i64.wrap (2 * upN l h + 1) = 2 * upN l h + 1 ∧ upN (l + 1) h ≤ 2 * upN l h + 1 ∧ IntKind.i64.wrap (2 * loN l h) = 2 * loN l h ∧ IntKind.i64.wrap (2 * loN l h - 1) = 2 * loN l h - 1 ∧ 2 * loN l h - 1 ≤ loN (l + 1) h) (by decide +kernel) hm
set_option maxRecDepth 100000 in
theorem nests_win {s l : Int} (hw : winB s l = true) : wFirst s l ≤ s ∧ s < wFirst s l + wMany l ∧ IntKind.i64.wrap (wFirst s l + wMany l) = wFirst s l + wMany l ∧ wrap64 (2 ^ l.toNat) = wMany l ∧ wMany (l + 1) = 2 * wMany l ∧ IntKind.i64.wrap (2 * wMany l) = 2 * wMany l :=
  win_dom (p := fun s l => wFirst s l ≤ s ∧ s < wFirst s l + wMany l ∧ IntKind.i64.wrap (wFirst s l + wMany l) = wFirst s l + wMany l ∧ wrap64 (2 ^ l.toNat) = wMany l ∧ wMany (l + 1) = 2 * wMany l ∧ IntKind.i64.wrap (2 * wMany l) = 2 * wMany l) (by decide +kernel) hw
set_option maxRecDepth 100000 in
theorem nests_half {s l : Int} (hw : winB s l = true) : l < 9 → wFirst s (l + 1) = wFirst s l ∨ (wFirst s (l + 1) ≠ wFirst s l ∧ wFirst s (l + 1) + wMany l = wFirst s l ∧ IntKind.i64.wrap (wFirst s (l + 1) + wMany l) = wFirst s l) :=
  win_dom (p := fun s l => l < 9 → wFirst s (l + 1) = wFirst s l ∨ (wFirst s (l + 1) ≠ wFirst s l ∧ wFirst s (l + 1) + wMany l = wFirst s l ∧ IntKind.i64.wrap (wFirst s (l + 1) + wMany l) = wFirst s l)) (by decide +kernel) hw

/-- Of the root: what is too many for a height, what too few. -/
theorem turns_root : ∀ h : Nat, h < 10 → 2 ≤ h → (withN (upN h h) h h = 0 ∧ withN (upN h h + 1) h h = 1 ∧ 0 ≤ upN h h ∧ IntKind.i64.wrap (upN h h + 1) = upN h h + 1 ∧ mayB h h = true) := by decide +kernel
theorem turns_next : ∀ h : Nat, h < 9 → 2 ≤ h → (withN (upN h h + 1) (h + 1) (h + 1) = 0 ∧ mayB (h + 1) (h + 1) = true ∧ IntKind.i64.wrap ((h : Int) + 1) = h + 1) := by decide +kernel
theorem turns_half : ∀ h : Nat, h < 10 → 3 ≤ h → (withN (loN h h) h h = 0 ∧ withN (loN h h - 1) h h = -1 ∧ withN (loN h h - 1) (h - 1) (h - 1) = 0 ∧ mayB (h - 1) (h - 1) = true) := by decide +kernel
theorem turns_half2 : ∀ h : Nat, h < 10 → 3 ≤ h → (1 ≤ loN h h ∧ IntKind.i64.wrap (loN h h - 1) = loN h h - 1 ∧ IntKind.i64.wrap ((h : Int) - 1) = h - 1) := by decide +kernel
theorem turns_for : ∀ n : Nat, n < 2561 → capB (forR n 7 0) = true ∧ withN n (hgt (forR n 7 0)) (hgt (forR n 7 0)) ≤ 0 ∧ mayB (hgt (forR n 7 0)) (hgt (forR n 7 0)) = true := by decide +kernel
theorem turns_for2 : ∀ n : Nat, n < 2561 → forR n 7 0 ≤ 32 ∨ (withN n (hgt (forR n 7 0) - 1) (hgt (forR n 7 0) - 1) = 1 ∧ mayB (hgt (forR n 7 0) - 1) (hgt (forR n 7 0) - 1) = true ∧ IntKind.i64.wrap (hgt (forR n 7 0) - 1) = hgt (forR n 7 0) - 1) := by decide +kernel
end Go.Proofs.YtlaegahdignphaaDoor.L5

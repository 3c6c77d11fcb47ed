/-
  The walk of towncrierlaw15's awake.
-/
import Derived.Test.YtidekbamlnpglaaK15
import Derived.Test.YtidekbamlnpglaaXi
import Derived.Test.YtidekbamlnpglaaXd
import Derived.Test.YtidekbamlnpglaaSh
namespace Go.Proofs.Ytidekbamlnpglaa.K15
open Go.RowKit Tc

theorem steps_laid (w : World) (l : List Sp) (g n : Nat) (cs : Array Value) (hn : n = l.length) (hg : g = w.heap.size) (hcs : cs = (psCells l).toArray) (h2 : l.length ≤ 1000) : StepsAt (w.alloc (.cells cs 70)) (.slice (some ⟨g, 0, none⟩) n n) l := by
  subst hg hcs hn
  refine ⟨_, _, rfl, Nat.le_refl _, by unfold maxLen; omega, (by intro h; cases h), (by intro a h _; cases h; rfl), ?_⟩
  intro b off hb i hi j hj
  simp only [Option.some.injEq, Addr.mk.injEq, and_true] at hb
  obtain ⟨rfl, rfl⟩ := hb
  rw [← psCells_get l i j hi hj, Nat.zero_add, World.cell?_alloc_at _ _ _ _ rfl]
  simp
theorem ints_laid (w : World) (l : List Int) (g n : Nat) (cs : Array Value) (hn : n = l.length) (hg : g = w.heap.size) (hcs : cs = (ints l).toArray) (h2 : l.length ≤ 1000) : IntsAt (w.alloc (.cells cs 3)) (.slice (some ⟨g, 0, none⟩) n n) l := by
  subst hg hcs hn
  refine ⟨_, _, rfl, Nat.le_refl _, by unfold maxLen; omega, (by intro h; cases h), (by intro a h _; cases h; rfl), ?_⟩
  intro b off hb j hj
  simp only [Option.some.injEq, Addr.mk.injEq, and_true] at hb
  obtain ⟨rfl, rfl⟩ := hb
  rw [World.cell?_alloc_at _ _ _ _ rfl]
  simp [List.getD, hj]
def aw15 : List Sp := [⟨3, 3, 0, false, false⟩, ⟨2, 0, 0, false, false⟩, ⟨1, 0, 0, false, false⟩]
theorem aw_from : fromL aw15 2 = [3, 2, 1] := by kernel_rfl

set_option maxRecDepth 100000 in
set_option maxHeartbeats 1600000 in
theorem awake_calls (w : World) : Calls Try.prog 72 #[] w fun e w' => e = .returned (.bool true) ∧ Below w.heap.size w w' := by
  go_enter Try.func72, Try.ntmps72
  go_wp2_with fail
  (with_reducible refine (from_calls (P := aw15) (steps_laid w aw15 _ 3 _ rfl ?_ ?_ ?_) ?_ ?_ 2).mono ?_)
  · rfl
  · rfl
  · simp [aw15]
  · simp [aw15]
  · intro k hk
    simp only [sliceBlock, Option.some.injEq] at hk
    subst hk
    simp
  rw [aw_from]
  rintro e w1 ⟨v1, rfl, hown, hb1⟩
  have HO := Lib.hid hown
  have HB1 := Lib.hid (Below.step (below1 w _) hb1)
  clear hown hb1
  go_wp2_with fail
  (with_reducible refine (rints_calls (m := [3, 2, 1]) (HO.out.ints.below (below1 _ _)) (ints_laid w1 [3, 2, 1] _ 3 _ rfl ?_ ?_ ?_)).mono ?_)
  · rfl
  · rfl
  · simp
  rw [decide_eq_true rfl]
  rintro e w4 ⟨rfl, hb4⟩
  have HB4 := Lib.hid hb4
  clear hb4
  go_wp2
  go_ret
  exact ⟨rfl, Below.step (Below.step HB1.out (below1 _ _)) HB4.out⟩
end Go.Proofs.Ytidekbamlnpglaa.K15

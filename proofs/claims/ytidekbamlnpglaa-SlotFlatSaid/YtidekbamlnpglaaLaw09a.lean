/-
  The walk of towncrierlaw09's awake.
-/
import Derived.Test.YtidekbamlnpglaaK09
import Derived.Test.YtidekbamlnpglaaSh
import Derived.Test.YtidekbamlnpglaaSg
namespace Go.Proofs.Ytidekbamlnpglaa.K09
open Go.RowKit Tc

def el : Nd := { kind := 2 }
def one (g : Nat) : Value := .slice (some ⟨g, 0, none⟩) 1 1
def awActs (g1 g2 : Nat) : List (Tc.Act × Value) :=
  [({ n := el }, .slice none 0 0), ({ n := el }, .slice none 0 0), ({ n := { kind := 3, mode := 1 } }, .slice none 0 0), ({ n := { kind := 2, slot := true } }, .slice none 0 0),
   ({ kind := 1, a := 1, l := [2] }, one g1), ({ kind := 2, a := 1, b := 3 }, .slice none 0 0), ({ kind := 1, a := 3, l := [4] }, one g2)]
def aw0 : Fo := mades ((awActs 0 0).map Prod.fst)
theorem aw_fst (g1 g2 : Nat) : (awActs g1 g2).map Prod.fst = (awActs 0 0).map Prod.fst := rfl
theorem awFew : fewB ((awActs 0 0).map Prod.fst) = true := by kernel_rfl
theorem aw0_wf : WF aw0 := WF.mades _
theorem aw_of : slotOf aw0 2 = 4 := by kernel_rfl
theorem aw_assigned : assigned aw0 4 = [2] := by kernel_rfl

theorem awAt {w : World} {g g1 g2 : Nat} {cs : Array Value} (hg : g = w.heap.size) (hcs : cs = (actsCells (awActs g1 g2)).toArray) (h1 : IntsAt w (one g1) [2]) (h2 : IntsAt w (one g2) [4]) : ActsAt (w.alloc (.cells cs 75)) (.slice (some ⟨g, 0, none⟩) 7 7) ((awActs 0 0).map Prod.fst) := by
  subst hg hcs
  rw [← aw_fst g1 g2]
  refine acts_laid w (awActs g1 g2) 75 ?_ (by simp [awActs])
  intro p hp
  simp only [awActs, List.mem_cons, List.not_mem_nil, or_false] at hp
  rcases hp with rfl | rfl | rfl | rfl | rfl | rfl | rfl
  · exact ⟨rfl, IntsAt.nil _⟩
  · exact ⟨rfl, IntsAt.nil _⟩
  · exact ⟨rfl, IntsAt.nil _⟩
  · exact ⟨rfl, IntsAt.nil _⟩
  · exact ⟨rfl, h1.below (below1 _ _)⟩
  · exact ⟨rfl, IntsAt.nil _⟩
  · exact ⟨rfl, h2.below (below1 _ _)⟩

set_option maxRecDepth 100000 in
set_option maxHeartbeats 1600000 in
theorem awake_calls (w : World) : Calls Try.prog 34 #[] w fun e w' => e = .returned (.bool true) ∧ Below w.heap.size w w' := by
  go_enter Try.func34, Try.ntmps34
  go_wp2_with fail
  (with_reducible refine (made_calls (awAt (g1 := w.heap.size + 1) (g2 := w.heap.size + 2) ?_ ?_ ?_ ?_) awFew).mono ?_)
  · simp
  · rfl
  · exact (IntsAt.one' (by simp)).below (below1 _ _)
  · exact IntsAt.one' (by simp)
  rintro e w1 ⟨hb, rfl, hfo, hb1⟩
  have hfo : FoAt w1 hb _ aw0 := hfo
  have HF := Lib.hid (hfo.mono (T := fun k => w.heap.size ≤ k) (fun k _ h => Nat.le_trans (by simp <;> omega) h))
  have HB := Lib.hid (Below.step (Below.step (Below.step (Below.step (below1 w _) (below1 _ _)) (below1 _ _)) (below1 _ _)) hb1)
  clear hfo hb1
  go_wp2_with fail
  refine (of_calls HF.out aw0_wf 2).mono ?_
  rw [aw_of]
  rintro e w2 ⟨rfl, hb2⟩
  have HB2 := Lib.hid hb2
  clear hb2
  go_wp2_with fail
  refine (assigned_calls (HF.out.below HB2.out) aw0_wf 4).mono ?_
  rw [aw_assigned]
  rintro e w3 ⟨v3, rfl, ho, hb3⟩
  have HO := Lib.hid ho
  have HB3 := Lib.hid hb3
  clear ho hb3
  go_wp2_with fail
  refine (rints_calls (m := [2]) (HO.out.ints.below (below1 _ _)) (IntsAt.one' rfl)).mono ?_
  rw [decide_eq_true rfl]
  rintro e w4 ⟨rfl, hb4⟩
  have HB4 := Lib.hid hb4
  clear hb4
  go_wp2
  go_ret
  refine ⟨rfl, Below.step (Below.step (Below.step (Below.step HB.out HB2.out) HB3.out) (below1 _ _)) HB4.out⟩
end Go.Proofs.Ytidekbamlnpglaa.K09

/-
  The walk of towncrierlaw14's awake.
-/
import Derived.Test.YtidekbamlnpglaaK14
import Derived.Test.YtidekbamlnpglaaXd
import Derived.Test.YtidekbamlnpglaaPw
namespace Go.Proofs.Ytidekbamlnpglaa.K14
open Go.RowKit Tc

def el : Nd := { kind := 2 }
def one (g : Nat) : Value := .slice (some ⟨g, 0, none⟩) 1 1
def awActs (g1 g2 : Nat) : List (Tc.Act × Value) :=
  [({ n := el }, .slice none 0 0), ({ n := el }, .slice none 0 0), ({ n := { kind := 3, mode := 1 } }, .slice none 0 0), ({ n := el }, .slice none 0 0),
   ({ kind := 1, a := 1, l := [2] }, one g1), ({ kind := 2, a := 2, b := 3 }, .slice none 0 0), ({ kind := 1, a := 2, l := [4] }, one g2)]
def aw0 : Fo := mades ((awActs 0 0).map Prod.fst)
theorem aw_fst (g1 g2 : Nat) : (awActs g1 g2).map Prod.fst = (awActs 0 0).map Prod.fst := rfl
theorem awFew : fewB ((awActs 0 0).map Prod.fst) = true := by kernel_rfl
theorem aw0_wf : WF aw0 := WF.mades _
def awS (n t : Int) : Sp := ⟨n, t, 0, false, false⟩
theorem aw_path : pathL aw0 4 0 true = [awS 4 4, awS 2 0, awS 1 0] := by kernel_rfl

theorem awAt {w : World} {g g1 g2 : Nat} {cs : Array Value} (hg : g = w.heap.size) (hcs : cs = (actsCells (awActs g1 g2)).toArray) (h1 : IntsAt w (one g1) [2]) (h2 : IntsAt w (one g2) [4]) : ActsAt (w.alloc (.cells cs 75)) (.slice (some ⟨g, 0, none⟩) 7 7) ((awActs 0 0).map Prod.fst) := by
  subst hg hcs
  rw [← aw_fst g1 g2]
  refine acts_laid w (awActs g1 g2) 75 ?_ (by simp [awActs])
  intro p hp
  simp only [awActs, List.mem_cons, List.not_mem_nil, or_false] at hp
  rcases hp with rfl | rfl | rfl | rfl | rfl | rfl | rfl
  · exact ⟨rfl, IntsAt.nil _⟩
  · exact ⟨rfl, IntsAt.nil _⟩
  · exact ⟨rfl, IntsAt.nil _⟩
  · exact ⟨rfl, IntsAt.nil _⟩
  · exact ⟨rfl, h1.below (below1 _ _)⟩
  · exact ⟨rfl, IntsAt.nil _⟩
  · exact ⟨rfl, h2.below (below1 _ _)⟩

set_option maxRecDepth 100000 in
set_option maxHeartbeats 1600000 in
theorem awake_calls (w : World) : Calls Try.prog 64 #[] w fun e w' => e = .returned (.bool true) ∧ Below w.heap.size w w' := by
  go_enter Try.func64, Try.ntmps64
  go_wp2_with fail
  (with_reducible refine (made_calls (awAt (g1 := w.heap.size + 1) (g2 := w.heap.size + 2) ?_ ?_ ?_ ?_) awFew).mono ?_)
  · simp
  · rfl
  · exact (IntsAt.one' (by simp)).below (below1 _ _)
  · exact IntsAt.one' (by simp)
  rintro e w1 ⟨hb, rfl, hfo, hb1⟩
  have hfo : FoAt w1 hb _ aw0 := hfo
  have HF := Lib.hid (hfo.mono (T := fun k => w.heap.size ≤ k) (fun k _ h => Nat.le_trans (by simp <;> omega) h))
  have HB := Lib.hid (Below.step (Below.step (Below.step (Below.step (below1 w _) (below1 _ _)) (below1 _ _)) (below1 _ _)) hb1)
  clear hfo hb1
  go_wp2_with fail
  (with_reducible refine (pmake_calls HF.out aw0_wf 4 0 true).mono ?_)
  rw [aw_path]
  rintro e w2 ⟨pv, rfl, hown, hb2⟩
  have hst := hown.steps
  obtain ⟨ao, cap, rfl, hc1, hc2, hsl⟩ := hst.open
  obtain ⟨b, off, rfl⟩ := hsl (by simp)
  have s0 := hst.at 0 (by simp)
  have s1 := hst.at 1 (by simp)
  have s2 := hst.at 2 (by simp)
  have c0 : w2.cell? ⟨b, off, none⟩ = some (I 4) := s0.c0
  have c1 : w2.cell? ⟨b, off + 5, none⟩ = some (I 2) := s1.c0
  have c2 : w2.cell? ⟨b, off + 10, none⟩ = some (I 1) := s2.c0
  have HB2 := Lib.hid (Below.step HB.out hb2)
  unfold maxLen at hc2
  simp only [List.length_cons, List.length_nil] at hc1
  clear hst s0 s1 s2 hown hsl hb2
  go_wp2
  go_ret
  exact ⟨rfl, HB2.out⟩
end Go.Proofs.Ytidekbamlnpglaa.K14

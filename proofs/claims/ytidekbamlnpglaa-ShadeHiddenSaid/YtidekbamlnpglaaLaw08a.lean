/-
  The walk of towncrierlaw08's awake.
-/
import Derived.Test.YtidekbamlnpglaaK08
namespace Go.Proofs.Ytidekbamlnpglaa.K08
open Go.RowKit Tc

def el : Nd := { kind := 2 }
def awActs : List (Tc.Act × Value) := [({ n := el }, .slice none 0 0), ({ n := el }, .slice none 0 0)]
def aw0 : Fo := [el, el]
def aw1 : Fo := (attach aw0 1 2).1
def aw2 : Fo := (put aw1 3 [2]).1
theorem aw0_eq : mades (awActs.map Prod.fst) = aw0 := by kernel_rfl
theorem aw1_eq : attach aw0 1 2 = (aw1, 3, 0) := by kernel_rfl
theorem aw2_eq : put aw1 3 [2] = (aw2, 0) := by kernel_rfl
theorem aw2_h1 : hidden aw2 2 1 = true := by kernel_rfl
theorem aw2_h2 : hidden aw2 1 2 = false := by kernel_rfl
theorem awFew : fewB (awActs.map Prod.fst) = true := by kernel_rfl
theorem aw0_wf : WF aw0 := by rw [← aw0_eq]; exact WF.mades _
theorem aw1_wf : WF aw1 := aw0_wf.attach 1 2
theorem aw2_wf : WF aw2 := aw1_wf.put 3 [2]

theorem awAt (w : World) : ActsAt (w.alloc (.cells (actsCells awActs).toArray 75)) (.slice (some ⟨w.heap.size, 0, none⟩) 2 2) (awActs.map Prod.fst) := by
  refine acts_laid w awActs 75 ?_ (by decide)
  intro p hp
  simp only [awActs, List.mem_cons, List.not_mem_nil, or_false] at hp
  rcases hp with rfl | rfl <;> exact ⟨rfl, IntsAt.nil _⟩

set_option maxRecDepth 100000 in
set_option maxHeartbeats 1600000 in
theorem awake_calls (w : World) : Calls Try.prog 19 #[] w fun e w' => e = .returned (.bool true) ∧ Below w.heap.size w w' := by
  go_enter Try.func19, Try.ntmps19
  go_wp2_with fail
  refine (made_calls (awAt w) awFew).mono ?_
  rintro e w1 ⟨hb, rfl, hfo, hb1⟩
  rw [aw0_eq] at hfo
  have hs := hb1.size
  have hbel : Below w.heap.size w w1 := Below.step (below1 w _) hb1
  have HF := Lib.hid (hfo.mono (T := fun k => w.heap.size ≤ k) (fun k _ h => Nat.le_trans (by simp) h))
  have HB := Lib.hid hbel
  clear hfo hb1 hbel hs
  go_wp2_with fail
  refine (attach_calls HF.out aw0_wf 1 2).mono ?_
  rw [aw1_eq]
  rintro e w2 ⟨rfl, hfo, hb1⟩
  have HF2 := Lib.hid hfo
  have HB2 := Lib.hid (HB.out.trans hb1)
  clear hfo hb1 HF HB
  go_wp2_with fail
  refine (put_calls (HF2.out.narrow.below (below1 _ _)) aw1_wf 3 _ [2] (IntsAt.one' (by simp)) (by simp) ?_).mono ?_
  · intro _ k hk hS
    have hk : w2.heap.size = k := by simpa [sliceBlock] using hk
    omega
  rw [aw2_eq]
  rintro e w3 ⟨rfl, ht⟩
  have q := ht.to' (B := w.heap.size) (fun k h => h.1) (by have := HB2.out.size; simp; omega)
  have HQ := Lib.hid q
  clear ht q
  go_wp2_with fail
  refine (hidden_calls HQ.out.1 aw2_wf 2 1).mono ?_
  rw [aw2_h1]
  rintro e w4 ⟨rfl, hb4⟩
  have HB4 := Lib.hid hb4
  clear hb4
  go_wp2_with fail
  refine (hidden_calls (HQ.out.1.below HB4.out) aw2_wf 1 2).mono ?_
  rw [aw2_h2]
  rintro e w5 ⟨rfl, hb5⟩
  have HB5 := Lib.hid hb5
  clear hb5
  go_wp2
  go_ret
  refine ⟨rfl, ?_⟩
  have h1 := HB2.out.size
  have h2 := HQ.out.2
  have h3 : Below w.heap.size w4 w5 := HB5.out.mono (by have := HB4.out.size; have := h2.size; simp at this; omega)
  exact ((((HB2.out.trans ((below1 _ _).mono h1)).trans h2).trans (HB4.out.mono (by have := h2.size; simp at this; omega))).trans h3)

end Go.Proofs.Ytidekbamlnpglaa.K08

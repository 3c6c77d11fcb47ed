/-
  The plain forest: what the law SlotOnce asks.
-/
import Derived.Test.YtidekbamlnpglaaPt
import Derived.Test.YtidekbamlnpglaaPu
namespace Tc

theorem getD_mem' {l : List Int} {k : Nat} (hk : k < l.length) : l.getD k 0 ∈ l := by
  rw [List.getD_eq_getElem?_getD, List.getElem?_eq_getElem hk, Option.getD_some]; exact List.getElem_mem hk
theorem assigned_facts {L : Fo} (h : WF L) {s y : Int} (hy : y ∈ assigned L s) : there L y = true ∧ there L (root L s) = true ∧ (nd L (root L s)).kind = 3 ∧ (nd L y).parent = (nd L (root L s)).host := by
  obtain ⟨a1, a2, a3, a4, a5⟩ := mem_assigned' h hy
  have h0 : hst L (root L s) ≠ 0 := fun e => by rw [e, there_zero] at a2; cases a2
  refine ⟨a1, ?_, h.hst_kind _ h0, a4⟩
  cases ht : there L (root L s) with
  | true => rfl
  | false => exact absurd (by unfold hst; rw [nd_not ht]) h0
theorem assigned_inc {L : Fo} (h : WF L) {s : Int} {p : Nat} (hp : p + 1 < (assigned L s).length) : idxL L ((assigned L s).getD p 0) < idxL L ((assigned L s).getD (p + 1) 0) := by
  have key : ∀ y, y ∈ assigned L s → idxL L y = ((nd L (hst L (root L s))).kids.idxOf y : Int) := fun y hy => by
    obtain ⟨a1, a2, a3, a4, a5⟩ := mem_assigned' h hy
    have h0 : hst L (root L s) ≠ 0 := fun e => by rw [e, there_zero] at a2; cases a2
    unfold idxL
    rw [if_neg, a4]
    rw [a1, a4]; simpa using h0
  rw [key _ (getD_mem' (by omega)), key _ (getD_mem' hp)]
  have e : assigned L s = (nd L (hst L (root L s))).kids.filter fun x => decide (slotOf L x = s) := by
    unfold assigned
    rw [if_neg]
    intro hn
    unfold assigned at hp
    rw [if_pos hn] at hp
    simp at hp
  rw [e] at hp ⊢
  have := idx_inc (h.kids_nodup (hst L (root L s))) (fun x => decide (slotOf L x = s)) (show p < p + 1 by omega) hp
  omega
end Tc

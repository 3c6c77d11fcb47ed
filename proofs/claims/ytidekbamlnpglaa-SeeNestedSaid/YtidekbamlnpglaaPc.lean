/-
  The plain forest: roots, shadow trees around one another, what is hidden.
-/
import Derived.Test.YtidekbamlnpglaaPb
namespace Tc


theorem root_zero {L : Fo} {id : Int} (ht : there L id = false) : root L id = 0 := by unfold root; rw [up_not ht]; rfl
theorem root_step {L : Fo} (h : WF L) {id : Int} (ht : there L id = true) : root L id = if par L id = 0 then id else root L (par L id) := by
  unfold root
  rw [up_cons h.ends ht]
  split
  · rename_i hp; rw [hp, up_not (there_zero L)]; rfl
  · rename_i hp
    rw [up_cons h.ends (h.par_there id hp)]
    simp [List.getLastD]
theorem root_there {L : Fo} (h : WF L) {id : Int} (ht : there L id = true) : there L (root L id) = true ∧ par L (root L id) = 0 ∧ root L id ∈ up L id := by
  revert ht
  refine up_ind h.ends (P := fun id => there L id = true → there L (root L id) = true ∧ par L (root L id) = 0 ∧ root L id ∈ up L id) ?_ ?_ id
  · intro id h0 h1; rw [h0] at h1; cases h1
  · intro id ht ih _
    rw [root_step h ht, up_cons h.ends ht]
    split
    · rename_i hp; exact ⟨ht, hp, List.mem_cons_self⟩
    · rename_i hp
      obtain ⟨a, b, c⟩ := ih (h.par_there id hp)
      exact ⟨a, b, List.mem_cons_of_mem _ c⟩
theorem root_ne {L : Fo} (h : WF L) {id : Int} (ht : there L id = true) : root L id ≠ 0 := fun e => by
  have := (root_there h ht).1; rw [e, there_zero] at this; cases this
theorem root_eq_zero {L : Fo} (h : WF L) {id : Int} : root L id = 0 ↔ there L id = false := by
  constructor
  · intro e
    cases ht : there L id with
    | false => rfl
    | true => exact absurd e (root_ne h ht)
  · exact root_zero
theorem outH_eq {L : Fo} (h : WF L) (id : Int) : outH L id = hst L (root L id) := by
  unfold outH
  split
  · rfl
  · rename_i hk
    exact Classical.byContradiction fun hh => hk (h.hst_kind _ (fun e => hh e.symm))
theorem outH_not {L : Fo} (h : WF L) {id : Int} (ht : there L id = false) : outH L id = 0 := by
  rw [outH_eq h, root_zero ht]
  show (nd L 0).host = 0
  rw [nd_not (there_zero L)]
theorem over_up {L : Fo} (h : WF L) {id : Int} (ht : there L id = true) : over L id = up L id ++ over L (outH L id) := by
  rw [outH_eq h]
  revert ht
  refine up_ind h.ends (P := fun id => there L id = true → over L id = up L id ++ over L (hst L (root L id))) ?_ ?_ id
  · intro id h0 h1; rw [h0] at h1; cases h1
  · intro id ht ih _
    rw [over_cons h.ends ht, up_cons h.ends ht, root_step h ht]
    unfold over1
    split
    · rename_i hp
      rw [hp, up_not (there_zero L)]; rfl
    · rename_i hp
      rw [ih (h.par_there id hp)]; rfl
theorem over_outH_lt {L : Fo} (h : WF L) {id : Int} (ht : there L id = true) : (over L (outH L id)).length < (over L id).length := by
  have := congrArg List.length (over_up h ht)
  rw [up_cons h.ends ht] at this
  simp only [List.length_append, List.length_cons] at this; omega
theorem outH_there {L : Fo} (h : WF L) {id : Int} (ho : outH L id ≠ 0) : there L (outH L id) = true := by
  rw [outH_eq h] at ho ⊢; exact h.hst_there _ ho

/-- The roots of the trees around a node. -/
def roots (L : Fo) (id : Int) : List Int := (over L id).filter fun x => decide (par L x = 0)
theorem roots_not {L : Fo} {id : Int} (ht : there L id = false) : roots L id = [] := by unfold roots; rw [over_not ht]; rfl
theorem up_filter {L : Fo} (h : WF L) {id : Int} (ht : there L id = true) : (up L id).filter (fun x => decide (par L x = 0)) = [root L id] := by
  revert ht
  refine up_ind h.ends (P := fun id => there L id = true → (up L id).filter (fun x => decide (par L x = 0)) = [root L id]) ?_ ?_ id
  · intro id h0 h1; rw [h0] at h1; cases h1
  · intro id ht ih _
    rw [up_cons h.ends ht, root_step h ht, List.filter_cons]
    split
    · rename_i hp
      have hp : par L id = 0 := by simpa using hp
      rw [if_pos hp, hp, up_not (there_zero L)]; rfl
    · rename_i hp
      have hp : par L id ≠ 0 := by simpa using hp
      rw [if_neg hp]; exact ih (h.par_there id hp)
theorem roots_cons {L : Fo} (h : WF L) {id : Int} (ht : there L id = true) : roots L id = root L id :: roots L (outH L id) := by
  unfold roots
  rw [over_up h ht, List.filter_append, up_filter h ht]; rfl
theorem mem_roots {L : Fo} {id r : Int} : r ∈ roots L id ↔ r ∈ over L id ∧ par L r = 0 := by unfold roots; simp

/-- The shadow-including root. -/
def whole (L : Fo) (id : Int) : Int := (over L id).getLastD 0
theorem over_last {L : Fo} (h : WF L) {id : Int} (ht : there L id = true) : there L (whole L id) = true ∧ over1 L (whole L id) = 0 ∧ whole L id ∈ over L id := by
  revert ht
  refine over_ind h.ends (P := fun id => there L id = true → there L (whole L id) = true ∧ over1 L (whole L id) = 0 ∧ whole L id ∈ over L id) ?_ ?_ id
  · intro id h0 h1; rw [h0] at h1; cases h1
  · intro id ht ih _
    unfold whole at ih ⊢
    rw [over_cons h.ends ht]
    by_cases ho : over1 L id = 0
    · rw [ho, over_not (there_zero L)]
      exact ⟨ht, ho, List.mem_cons_self⟩
    · obtain ⟨a, b, c⟩ := ih (h.over_there ho)
      have e : (id :: over L (over1 L id)).getLastD 0 = (over L (over1 L id)).getLastD 0 := by
        rw [over_cons h.ends (h.over_there ho)]; simp [List.getLastD]
      rw [e]
      exact ⟨a, b, List.mem_cons_of_mem _ c⟩
theorem whole_zero {L : Fo} {id : Int} (ht : there L id = false) : whole L id = 0 := by unfold whole; rw [over_not ht]; rfl
theorem whole_roots {L : Fo} (h : WF L) (id : Int) : (roots L id).getLastD 0 = whole L id := by
  refine over_ind h.ends (P := fun id => (roots L id).getLastD 0 = whole L id) ?_ ?_ id
  · intro id ht; rw [roots_not ht, whole_zero ht]; rfl
  · intro id ht ih
    unfold roots whole at *
    rw [over_cons h.ends ht, List.filter_cons]
    by_cases ho : over1 L id = 0
    · have hp : par L id = 0 := Classical.byContradiction fun hp => by unfold over1 at ho; rw [if_neg hp] at ho; exact hp ho
      rw [ho, over_not (there_zero L), if_pos (by simpa using hp)]; rfl
    · have ht2 := h.over_there ho
      have e : (id :: over L (over1 L id)).getLastD 0 = (over L (over1 L id)).getLastD 0 := by
        rw [over_cons h.ends ht2]; simp [List.getLastD]
      rw [e, ← ih]
      split
      · have : roots L (over1 L id) ≠ [] := by rw [roots_cons h ht2]; simp
        unfold roots at this
        obtain ⟨y, l, e2⟩ := List.exists_cons_of_ne_nil this
        rw [e2]; simp [List.getLastD]
      · rfl

/-- Is a node a closed shadow root? -/
def closedB (L : Fo) (r : Int) : Bool := decide ((nd L r).kind = 3) && decide ((nd L r).mode = 2)
/-- The closed roots that hold a node. -/
def closeds (L : Fo) (id : Int) : List Int := (over L id).filter (closedB L)
theorem closedB_root {L : Fo} (h : WF L) {r : Int} (hc : closedB L r = true) : par L r = 0 := by
  unfold closedB at hc
  simp only [Bool.and_eq_true, decide_eq_true_eq] at hc
  exact h.rooted r (Or.inr hc.1)
theorem closeds_roots {L : Fo} (h : WF L) (id : Int) : (roots L id).filter (closedB L) = closeds L id := by
  unfold roots closeds
  rw [List.filter_filter]
  congr 1
  funext x
  cases hc : closedB L x with
  | false => simp
  | true => simp [closedB_root h hc]
/-- Is a node hidden from another one? -/
def hidden (L : Fo) (a b : Int) : Bool := there L b && (closeds L a).any fun r => decide (hst L r ≠ 0) && !decide (r ∈ over L b)
theorem hidden_step {L : Fo} (h : WF L) {a b : Int} (ht : there L a = true) (hb : there L b = true) :
    hidden L a b = if outH L a = 0 ∨ root L a ∈ over L b then false else if (nd L (root L a)).mode = 2 then true else hidden L (outH L a) b := by
  have hroots := roots_cons h ht
  have hclo : closeds L a = (if closedB L (root L a) then [root L a] else []) ++ closeds L (outH L a) := by
    rw [← closeds_roots h, ← closeds_roots h, hroots, List.filter_cons]; split <;> rfl
  unfold hidden
  rw [hclo, hb, Bool.true_and, Bool.true_and, List.any_append]
  by_cases h1 : outH L a = 0
  · rw [if_pos (Or.inl h1)]
    have hh : hst L (root L a) = 0 := by rw [← outH_eq h]; exact h1
    rw [h1]
    have : closeds L 0 = [] := by unfold closeds; rw [over_not (there_zero L)]; rfl
    rw [this]
    split <;> simp [hh]
  · have hh : hst L (root L a) ≠ 0 := by rw [← outH_eq h]; exact h1
    have hk := h.hst_kind _ hh
    by_cases h2 : root L a ∈ over L b
    · rw [if_pos (Or.inr h2)]
      have hrest : (closeds L (outH L a)).any (fun r => decide (hst L r ≠ 0) && !decide (r ∈ over L b)) = false := by
        rw [List.any_eq_false]
        intro r hr
        have hr1 : r ∈ over L (outH L a) := (List.mem_filter.1 hr).1
        have hmem : r ∈ over L (root L a) := by
          rw [over_cons h.ends (root_there h ht).1]
          refine List.mem_cons_of_mem _ ?_
          unfold over1; rw [if_pos (root_there h ht).2.1, ← outH_eq h]; exact hr1
        have := over_trans h.ends hmem h2
        simp [this]
      rw [hrest]
      split <;> simp [h2]
    · rw [if_neg (show ¬ (outH L a = 0 ∨ root L a ∈ over L b) from fun e => e.elim h1 h2)]
      have hcl : closedB L (root L a) = decide ((nd L (root L a)).mode = 2) := by unfold closedB; rw [hk]; simp
      rw [hcl]
      by_cases hm : (nd L (root L a)).mode = 2
      · rw [if_pos hm, if_pos (by simpa using hm)]; simp [hh, h2]
      · rw [if_neg hm, if_neg (by simpa using hm)]; simp
theorem hidden_not {L : Fo} {a b : Int} (ht : there L a = false) : hidden L a b = false := by
  unfold hidden closeds; rw [over_not ht]; simp
theorem holds_there {L : Fo} {a b : Int} (hm : a ∈ over L b) : there L a = true := over_there hm
end Tc

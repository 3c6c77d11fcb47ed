/-
  The plain forest: what the laws of paths ask.
-/
import Derived.Test.YtidekbamlnpglaaPq
namespace Tc

theorem path_first {L : Fo} (h : WF L) {target related : Int} {c : Bool} {s : Sp} (hs : (pathL L target related c)[0]? = some s) : s.node = target ∧ s.target = target ∧ s.cs = false := by
  obtain ⟨_, _, _, _, _, h0, _⟩ := pathL_spec h hs
  obtain ⟨a, b, d⟩ := h0 rfl
  exact ⟨b, a, d⟩
theorem path_next {L : Fo} (h : WF L) {target related : Int} {c : Bool} {i : Nat} {a b : Sp} (ha : (pathL L target related c)[i]? = some a) (hb : (pathL L target related c)[i + 1]? = some b) : parentE L target c a.node = b.node :=
  (way_next h _ _ _ _ (pathL_spec h ha).2.1 (pathL_spec h hb).2.1).1
theorem path_apart {L : Fo} (h : WF L) {target related : Int} {c : Bool} {i k : Nat} {a b : Sp} (ha : (pathL L target related c)[i]? = some a) (hb : (pathL L target related c)[k]? = some b) (hik : i ≠ k) : a.node ≠ b.node := fun e => by
  have h1 := (pathL_spec h ha).2.1
  have h2 := (pathL_spec h hb).2.1
  rw [e] at h1
  exact hik (way_inj h h1 h2)
theorem path_there {L : Fo} (h : WF L) {target related : Int} {c : Bool} {i : Nat} {a : Sp} (ha : (pathL L target related c)[i]? = some a) : there L a.node = true := way_there (List.mem_of_getElem? (pathL_spec h ha).2.1)
theorem path_target {L : Fo} (h : WF L) {target related : Int} {c : Bool} {i : Nat} {a : Sp} (ha : (pathL L target related c)[i]? = some a) : a.target = 0 ∨ a.target = a.node := (pathL_spec h ha).2.2.1

theorem way_root {L : Fo} (h : WF L) {target : Int} : ∀ (i : Nat) (x : Int), (way L target false target)[i]? = some x → root L target ∈ over L x
  | 0, x, hx => by
    cases ht : there L target with
    | false => rw [way_not ht] at hx; simp at hx
    | true =>
      rw [way_cons h ht] at hx
      simp only [List.getElem?_cons_zero, Option.some.injEq] at hx
      rw [← hx]
      exact up_sub_over h.ends _ _ (root_there h ht).2.2
  | i + 1, x, hx => by
    obtain ⟨z, hz⟩ : ∃ z, (way L target false target)[i]? = some z := by
      have h1 := (List.getElem?_eq_some_iff.1 hx).1
      exact ⟨_, List.getElem?_eq_getElem (by omega)⟩
    have ih := way_root h i z hz
    obtain ⟨e, h0⟩ := way_next h _ _ _ _ hz hx
    rcases over_next h e h0 ih with e2 | e2
    · exfalso
      have ht : there L target = true := by
        cases ht : there L target with
        | true => rfl
        | false => rw [way_not ht] at hx; simp at hx
      have hr := root_there h ht
      have hp : parentE L target false z = 0 := by
        rw [e2]
        unfold parentE
        rw [if_neg (by rw [hr.1]; simp)]
        have hs : ¬ slotOf L (root L target) ≠ 0 := fun hs => (slotOf_self h hs).2.1 hr.2.1
        rw [if_neg hs]
        split
        · exact hr.2.1
        · rw [if_pos ⟨rfl, rfl⟩]
      rw [hp] at e
      exact h0 e.symm
    · exact e2
theorem path_root {L : Fo} (h : WF L) {target related : Int} {i : Nat} {a : Sp} (ha : (pathL L target related false)[i]? = some a) : root L target ∈ over L a.node := way_root h i _ (pathL_spec h ha).2.1

/-! ## What is told -/
def toldF (t : Int) (l : List Sp) : Int := l.foldl (fun t s => if s.target ≠ 0 then s.target else t) t
theorem told_steps {L : Fo} (h : WF L) {related : Int} : ∀ (l : List Int) (t fr : Int), there L t = true → (∀ x, x ∈ l → there L x = true) → ∀ (i : Nat) (s : Sp), (steps L related t fr l)[i]? = some s → hidden L (toldF t ((steps L related t fr l).take (i + 1))) s.node = false
  | [], _, _, _, _, i, s, hs => by simp [steps] at hs
  | x :: r, t, fr, ht, hl, i, s, hs => by
    have hx := hl x List.mem_cons_self
    have hx0 : x ≠ 0 := fun e => by rw [e, there_zero] at hx; cases hx
    unfold steps at hs ⊢
    by_cases h1 : root L t ∈ over L x
    · rw [if_pos h1] at hs ⊢
      cases i with
      | zero =>
        simp only [List.getElem?_cons_zero, Option.some.injEq] at hs
        subst hs
        have e : toldF t ((spOf L related 0 fr x :: steps L related t x r).take (0 + 1)) = t := by simp [toldF, spOf]
        rw [e]
        exact hidden_root h ht hx h1
      | succ i =>
        rw [List.getElem?_cons_succ] at hs
        have := told_steps h r t x ht (fun y hy => hl y (List.mem_cons_of_mem _ hy)) i s hs
        have e : toldF t ((spOf L related 0 fr x :: steps L related t x r).take (i + 1 + 1)) = toldF t ((steps L related t x r).take (i + 1)) := by
          rw [List.take_succ_cons]; simp [toldF, spOf]
        rw [e]; exact this
    · rw [if_neg h1] at hs ⊢
      by_cases h2 : x = aim L related x
      · rw [if_pos h2] at hs; simp at hs
      · rw [if_neg h2] at hs ⊢
        cases i with
        | zero =>
          simp only [List.getElem?_cons_zero, Option.some.injEq] at hs
          subst hs
          have e : toldF t ((spOf L related x fr x :: steps L related x x r).take (0 + 1)) = x := by simp [toldF, spOf, hx0]
          rw [e]
          exact hidden_self x
        | succ i =>
          rw [List.getElem?_cons_succ] at hs
          have := told_steps h r x x hx (fun y hy => hl y (List.mem_cons_of_mem _ hy)) i s hs
          have e : toldF t ((spOf L related x fr x :: steps L related x x r).take (i + 1 + 1)) = toldF x ((steps L related x x r).take (i + 1)) := by
            rw [List.take_succ_cons]; simp [toldF, spOf, hx0]
          rw [e]; exact this
theorem path_told {L : Fo} (h : WF L) {target related : Int} {c : Bool} {i : Nat} {s : Sp} (hs : (pathL L target related c)[i]? = some s) : hidden L (toldF 0 ((pathL L target related c).take (i + 1))) s.node = false := by
  have ht := (pathL_spec h hs).1
  have ht0 : target ≠ 0 := fun e => by rw [e, there_zero] at ht; cases ht
  unfold pathL at hs ⊢
  rw [if_neg (by rw [ht]; simp)] at hs ⊢
  split at hs
  · simp at hs
  · rename_i h2
    rw [if_neg h2]
    cases i with
    | zero =>
      simp only [List.getElem?_cons_zero, Option.some.injEq] at hs
      subst hs
      rw [List.take_succ_cons]
      simp only [List.take_zero, toldF, List.foldl_cons, List.foldl_nil]
      rw [if_pos ht0]
      exact hidden_self target
    | succ i =>
      rw [List.getElem?_cons_succ] at hs
      have := told_steps h _ target target ht (fun y hy => way_there hy) i s hs
      rw [List.take_succ_cons]
      simp only [toldF, List.foldl_cons]
      rw [if_pos ht0]
      exact this
theorem path_related {L : Fo} (h : WF L) {target related : Int} {c : Bool} {i : Nat} {s : Sp} (hs : (pathL L target related c)[i]? = some s) : hidden L s.related s.node = false := by
  rw [(pathL_spec h hs).2.2.2.1]
  exact aim_hidden h (path_there h hs) related
theorem toldF_succ {l : List Sp} {i : Nat} {s : Sp} (hs : l[i]? = some s) (t : Int) : toldF t (l.take (i + 1)) = if s.target ≠ 0 then s.target else toldF t (l.take i) := by
  have hi := (List.getElem?_eq_some_iff.1 hs).1
  have e := (List.getElem?_eq_some_iff.1 hs).2
  unfold toldF
  rw [List.take_succ_eq_append_getElem hi, List.foldl_append, e]; rfl

/-! ## Where a path ends -/
def strip (s : Sp) : Sp := { s with related := 0 }
theorem steps_zero {L : Fo} : ∀ (l : List Int) (t fr : Int), (∀ x, x ∈ l → there L x = true) → (steps L 0 t fr l).length = l.length ∧ ∀ s, s ∈ steps L 0 t fr l → s.related = 0
  | [], _, _, _ => by simp [steps]
  | x :: r, t, fr, hl => by
    have hx := hl x List.mem_cons_self
    have ha : aim L 0 x = 0 := aim_not (there_zero L)
    have hx0 : x ≠ 0 := fun e => by rw [e, there_zero] at hx; cases hx
    have i1 := steps_zero r t x (fun y hy => hl y (List.mem_cons_of_mem _ hy))
    have i2 := steps_zero r x x (fun y hy => hl y (List.mem_cons_of_mem _ hy))
    unfold steps
    split
    · refine ⟨by simp [i1.1], fun s hs => ?_⟩
      rcases List.mem_cons.1 hs with rfl | hs
      · exact ha
      · exact i1.2 s hs
    · rw [if_neg (by rw [ha]; exact hx0)]
      refine ⟨by simp [i2.1], fun s hs => ?_⟩
      rcases List.mem_cons.1 hs with rfl | hs
      · exact ha
      · exact i2.2 s hs
theorem steps_prefix {L : Fo} {related : Int} : ∀ (l : List Int) (t fr : Int), (∀ x, x ∈ l → there L x = true) → (steps L related t fr l).map strip <+: steps L 0 t fr l
  | [], _, _, _ => by simp [steps]
  | x :: r, t, fr, hl => by
    have hx := hl x List.mem_cons_self
    have ha : aim L 0 x = 0 := aim_not (there_zero L)
    have hx0 : x ≠ 0 := fun e => by rw [e, there_zero] at hx; cases hx
    have hs : ∀ tg, strip (spOf L related tg fr x) = spOf L 0 tg fr x := fun tg => by unfold strip spOf; rw [ha]
    unfold steps
    by_cases h1 : root L t ∈ over L x
    · rw [if_pos h1, if_pos h1, List.map_cons, hs]
      exact List.prefix_cons_inj _ |>.2 (steps_prefix r t x (fun y hy => hl y (List.mem_cons_of_mem _ hy)))
    · rw [if_neg h1, if_neg h1, if_neg (show ¬ x = aim L 0 x by rw [ha]; exact hx0)]
      by_cases h2 : x = aim L related x
      · rw [if_pos h2]; exact List.nil_prefix
      · rw [if_neg h2, List.map_cons, hs]
        exact List.prefix_cons_inj _ |>.2 (steps_prefix r x x (fun y hy => hl y (List.mem_cons_of_mem _ hy)))
theorem path_zero {L : Fo} (h : WF L) {target : Int} {c : Bool} (ht : there L target = true) : (pathL L target 0 c).length = (way L target c target).length ∧ ∀ s, s ∈ pathL L target 0 c → s.related = 0 := by
  have ht0 : target ≠ 0 := fun e => by rw [e, there_zero] at ht; cases ht
  have ha : aim L 0 target = 0 := aim_not (there_zero L)
  have i1 := steps_zero (way L target c (parentE L target c target)) target target (fun y hy => way_there hy)
  unfold pathL
  rw [if_neg (by rw [ht]; simp), if_neg (fun e => ht0 (e.1.symm.trans ha)), way_cons h ht]
  refine ⟨by simp [i1.1], fun s hs => ?_⟩
  rcases List.mem_cons.1 hs with rfl | hs
  · exact ha
  · exact i1.2 s hs
theorem path_prefix {L : Fo} {target related : Int} {c : Bool} (ht : there L target = true) : (pathL L target related c).map strip <+: pathL L target 0 c := by
  have ht0 : target ≠ 0 := fun e => by rw [e, there_zero] at ht; cases ht
  have ha : aim L 0 target = 0 := aim_not (there_zero L)
  unfold pathL
  rw [if_neg (by rw [ht]; simp), if_neg (c := there L target = false) (by rw [ht]; simp), if_neg (show ¬ (aim L 0 target = target ∧ (0 : Int) ≠ target) from fun e => ht0 (e.1.symm.trans ha))]
  split
  · exact List.nil_prefix
  · rw [List.map_cons]
    have e : strip { node := target, target := target, related := aim L related target, cr := closedB L target, cs := false } = ({ node := target, target := target, related := aim L 0 target, cr := closedB L target, cs := false } : Sp) := by unfold strip; rw [ha]
    rw [e]
    exact List.prefix_cons_inj _ |>.2 (steps_prefix _ target target (fun y hy => way_there hy))
/-- The last entry of a path without a related node has no parent for the event. -/
theorem path_last {L : Fo} (h : WF L) {target : Int} {c : Bool} (ht : there L target = true) {n : Nat} (hn : (pathL L target 0 c).length = n + 1) {s : Sp} (hs : (pathL L target 0 c)[n]? = some s) : parentE L target c s.node = 0 := by
  have h1 := (pathL_spec h hs).2.1
  refine way_last h _ n _ h1 (List.getElem?_eq_none ?_)
  rw [← (path_zero h ht).1, hn]; exact Nat.le_refl _
theorem path_pos {L : Fo} (h : WF L) {target : Int} {c : Bool} (ht : there L target = true) : 0 < (pathL L target 0 c).length := by
  rw [(path_zero h ht).1, way_cons h ht]; simp
theorem path_not {L : Fo} {target related : Int} {c : Bool} (ht : there L target = false) : pathL L target related c = [] := by unfold pathL; rw [if_pos ht]
end Tc

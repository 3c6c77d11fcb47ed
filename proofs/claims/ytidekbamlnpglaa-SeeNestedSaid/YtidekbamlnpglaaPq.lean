/-
  The plain forest: what of a path is seen, and what is hidden.
-/
import Derived.Test.YtidekbamlnpglaaPp
import Derived.Test.YtidekbamlnpglaaPe
namespace Tc

def dcl (L : Fo) (x : Int) : Int := ((closeds L x).length : Int)
def b2 (b : Bool) : Int := if b then 1 else 0

theorem closeds_not {L : Fo} {x : Int} (h : there L x = false) : closeds L x = [] := by unfold closeds; rw [over_not h]; rfl
theorem closeds_cons {L : Fo} (h : WF L) {x : Int} (ht : there L x = true) : closeds L x = (if closedB L x then [x] else []) ++ closeds L (over1 L x) := by
  unfold closeds
  rw [over_cons h.ends ht, List.filter_cons]
  split <;> rfl
theorem closeds_out {L : Fo} (h : WF L) {x : Int} (ht : there L x = true) : closeds L x = (if closedB L (root L x) then [root L x] else []) ++ closeds L (outH L x) := by
  rw [← closeds_roots h, ← closeds_roots h, roots_cons h ht, List.filter_cons]; split <;> rfl
theorem closedB_false {L : Fo} {x : Int} (h : (nd L x).kind ≠ 3) : closedB L x = false := by unfold closedB; simp [h]

/-- One step of the way: a closed tree is entered, or left, or neither. -/
theorem closeds_step {L : Fo} (h : WF L) {first : Int} {c : Bool} {x y : Int} (hy : parentE L first c x = y) (h0 : y ≠ 0) :
    (slotOf L x ≠ 0 ∧ closedB L x = false ∧ closeds L y = (if closedB L (root L y) then [root L y] else []) ++ closeds L x) ∨
    (slotOf L x = 0 ∧ closeds L x = (if closedB L x then [x] else []) ++ closeds L y) := by
  subst hy
  have ht := (parentE_there h h0).1
  rcases parentE_cases h h0 with ⟨h2, e⟩ | ⟨h2, ho, e⟩
  · left
    rw [e]
    obtain ⟨g1, g2, g3⟩ := slotOf_self h h2
    obtain ⟨s1, s2, s3, s4, s5⟩ := slotOf_root h rfl h2
    have hc : closedB L x = false := closedB_false (by omega)
    have ho : over1 L x = par L x := by unfold over1; rw [if_neg g2]
    have e2 := closeds_cons h ht
    rw [hc, ho] at e2
    have e3 := closeds_out h s1
    rw [outH_eq h, s4] at e3
    refine ⟨h2, hc, ?_⟩
    rw [e3, e2]; simp
  · right
    rw [e]
    exact ⟨h2, closeds_cons h ht⟩
theorem dcl_step {L : Fo} (h : WF L) {first : Int} {c : Bool} {x y : Int} (hy : parentE L first c x = y) (h0 : y ≠ 0) :
    dcl L y = dcl L x - b2 (closedB L x) + b2 (decide (slotOf L x ≠ 0) && closedB L (root L y)) ∧ ¬ (closedB L x = true ∧ (decide (slotOf L x ≠ 0) && closedB L (root L y)) = true) := by
  rcases closeds_step h hy h0 with ⟨h1, h2, e⟩ | ⟨h1, e⟩
  · have e := congrArg List.length e
    rw [h2]
    refine ⟨?_, by simp⟩
    unfold dcl b2
    rw [List.length_append] at e
    by_cases hc : closedB L (root L y) = true
    · rw [hc] at e ⊢; simp [h1] at e ⊢; omega
    · have hc : closedB L (root L y) = false := by simpa using hc
      rw [hc] at e ⊢; simp at e ⊢; omega
  · have e := congrArg List.length e
    rw [List.length_append] at e
    have hd : decide (slotOf L x ≠ 0) = false := by simp [h1]
    rw [hd]
    refine ⟨?_, by simp⟩
    unfold dcl b2
    cases hc : closedB L x <;> rw [hc] at e <;> simp at e ⊢ <;> omega
theorem closeds_near {L : Fo} (h : WF L) {first : Int} {c : Bool} {x y : Int} (hy : parentE L first c x = y) (h0 : y ≠ 0) : closeds L x <:+ closeds L y ∨ closeds L y <:+ closeds L x := by
  rcases closeds_step h hy h0 with ⟨_, _, e⟩ | ⟨_, e⟩
  · left; rw [e]; exact List.suffix_append _ _
  · right; rw [e]; exact List.suffix_append _ _

/-- The whole that a node is in stays, along the way. -/
theorem getLastD_append {l m : List Int} (hm : m ≠ []) : (l ++ m).getLastD 0 = m.getLastD 0 := by
  rw [List.getLastD_eq_getLast?, List.getLastD_eq_getLast?, List.getLast?_append]
  cases hl : m.getLast? with
  | none => exact absurd (List.getLast?_eq_none_iff.1 hl) hm
  | some y => rfl
theorem whole_step {L : Fo} (h : WF L) {first : Int} {c : Bool} {x y : Int} (hy : parentE L first c x = y) (h0 : y ≠ 0) : whole L y = whole L x := by
  subst hy
  have ht := (parentE_there h h0).1
  unfold whole
  rcases parentE_cases h h0 with ⟨h2, e⟩ | ⟨h2, ho, e⟩
  · rw [e]
    obtain ⟨g1, g2, g3⟩ := slotOf_self h h2
    have ho : over1 L x = par L x := by unfold over1; rw [if_neg g2]
    have hne : over L (par L x) ≠ [] := by rw [over_cons h.ends (h.par_there x g2)]; simp
    rw [(slotOf_over h h2).1, getLastD_append hne, over_cons h.ends ht, ho, show x :: over L (par L x) = [x] ++ over L (par L x) from rfl, getLastD_append hne]
  · rw [e]
    have hne : over L (over1 L x) ≠ [] := by rw [over_cons h.ends (h.over_there ho)]; simp
    rw [over_cons h.ends ht, show x :: over L (over1 L x) = [x] ++ over L (over1 L x) from rfl, getLastD_append hne]
/-- What holds a node holds the next one too, or is the node. -/
theorem over_next {L : Fo} (h : WF L) {first : Int} {c : Bool} {x y r : Int} (hy : parentE L first c x = y) (h0 : y ≠ 0) (hr : r ∈ over L x) : x = r ∨ r ∈ over L y := by
  subst hy
  have ht := (parentE_there h h0).1
  rw [over_cons h.ends ht] at hr
  rcases List.mem_cons.1 hr with e | hr
  · exact Or.inl e.symm
  · right
    rcases parentE_cases h h0 with ⟨h2, e⟩ | ⟨h2, ho, e⟩
    · rw [e, (slotOf_over h h2).1]
      have g2 := (slotOf_self h h2).2.1
      have ho : over1 L x = par L x := by unfold over1; rw [if_neg g2]
      rw [ho] at hr
      exact List.mem_append_right _ hr
    · rw [e]; exact hr

/-! ## Along the way -/
theorem way_next {L : Fo} (h : WF L) {first : Int} {c : Bool} (x : Int) : ∀ (i : Nat) (a b : Int), (way L first c x)[i]? = some a → (way L first c x)[i + 1]? = some b → parentE L first c a = b ∧ b ≠ 0 := by
  refine way_ind h (first := first) (c := c) (P := fun x => ∀ (i : Nat) (a b : Int), (way L first c x)[i]? = some a → (way L first c x)[i + 1]? = some b → parentE L first c a = b ∧ b ≠ 0) ?_ ?_ x
  · intro x ht i a b ha; rw [way_not ht] at ha; simp at ha
  · intro x ht ih i a b ha hb
    rw [way_cons h ht] at ha hb
    cases i with
    | zero =>
      simp only [List.getElem?_cons_zero, Option.some.injEq] at ha
      subst ha
      rw [List.getElem?_cons_succ] at hb
      cases hp : there L (parentE L first c x) with
      | false => rw [way_not hp] at hb; simp at hb
      | true =>
        rw [way_cons h hp] at hb
        simp only [List.getElem?_cons_zero, Option.some.injEq] at hb
        exact ⟨hb, fun e => by rw [hb, e, there_zero] at hp; cases hp⟩
    | succ i =>
      rw [List.getElem?_cons_succ] at ha hb
      exact ih i a b ha hb
theorem way_last {L : Fo} (h : WF L) {first : Int} {c : Bool} (x : Int) : ∀ (i : Nat) (a : Int), (way L first c x)[i]? = some a → (way L first c x)[i + 1]? = none → parentE L first c a = 0 := by
  refine way_ind h (first := first) (c := c) (P := fun x => ∀ (i : Nat) (a : Int), (way L first c x)[i]? = some a → (way L first c x)[i + 1]? = none → parentE L first c a = 0) ?_ ?_ x
  · intro x ht i a ha; rw [way_not ht] at ha; simp at ha
  · intro x ht ih i a ha hb
    rw [way_cons h ht] at ha hb
    cases i with
    | zero =>
      simp only [List.getElem?_cons_zero, Option.some.injEq] at ha
      subst ha
      rw [List.getElem?_cons_succ] at hb
      refine Classical.byContradiction fun hp => ?_
      rw [way_cons h (parentE_there h hp).2] at hb
      simp at hb
    | succ i =>
      rw [List.getElem?_cons_succ] at ha hb
      exact ih i a ha hb
theorem way_lt {L : Fo} (h : WF L) {first : Int} {c : Bool} {x : Int} {i j : Nat} {a b : Int} (hij : i < j) (ha : (way L first c x)[i]? = some a) (hb : (way L first c x)[j]? = some b) : key L a < key L b := by
  have hp := (way_key h (first := first) (c := c) x).1
  rw [List.pairwise_iff_getElem] at hp
  obtain ⟨h1, e1⟩ := List.getElem?_eq_some_iff.1 ha
  obtain ⟨h2, e2⟩ := List.getElem?_eq_some_iff.1 hb
  have := hp i j h1 h2 hij
  rw [e1, e2] at this; exact this
theorem way_inj {L : Fo} (h : WF L) {first : Int} {c : Bool} {x : Int} {i j : Nat} {a : Int} (ha : (way L first c x)[i]? = some a) (hb : (way L first c x)[j]? = some a) : i = j := by
  rcases Nat.lt_trichotomy i j with hlt | e | hlt
  · have := way_lt h hlt ha hb; omega
  · exact e
  · have := way_lt h hlt hb ha; omega
/-- Between two nodes that something holds, it holds all. -/
theorem way_convex {L : Fo} (h : WF L) {first : Int} {c : Bool} {x r : Int} {i k : Nat} {a b : Int} (ha : (way L first c x)[i]? = some a) (hb : (way L first c x)[k]? = some b) (ra : r ∈ over L a) (rb : r ∈ over L b) :
    ∀ (d : Nat) (y : Int), i + d ≤ k → (way L first c x)[i + d]? = some y → r ∈ over L y
  | 0, y, _, hy => by
    rw [Nat.add_zero, ha] at hy
    cases hy; exact ra
  | d + 1, y, hd, hy => by
    obtain ⟨z, hz⟩ : ∃ z, (way L first c x)[i + d]? = some z := by
      have h1 := (List.getElem?_eq_some_iff.1 hy).1
      exact ⟨_, List.getElem?_eq_getElem (by omega)⟩
    have hr := way_convex h ha hb ra rb d z (by omega) hz
    obtain ⟨e, h0⟩ := way_next h x _ _ _ hz hy
    rcases over_next h e h0 hr with e2 | e2
    · exfalso
      subst e2
      have hlt : key L z < key L b := way_lt h (show i + d < k by omega) hz hb
      rcases key_below h rb with e3 | e3
      · subst e3; omega
      · omega
    · exact e2
theorem way_whole {L : Fo} (h : WF L) {first : Int} {c : Bool} {x : Int} : ∀ (i : Nat) (a : Int), (way L first c x)[i]? = some a → whole L a = whole L x
  | 0, a, ha => by
    cases ht : there L x with
    | false => rw [way_not ht] at ha; simp at ha
    | true =>
      rw [way_cons h ht] at ha
      simp only [List.getElem?_cons_zero, Option.some.injEq] at ha
      rw [ha]
  | i + 1, a, ha => by
    obtain ⟨z, hz⟩ : ∃ z, (way L first c x)[i]? = some z := by
      have h1 := (List.getElem?_eq_some_iff.1 ha).1
      exact ⟨_, List.getElem?_eq_getElem (by omega)⟩
    obtain ⟨e, h0⟩ := way_next h x _ _ _ hz ha
    rw [whole_step h e h0]
    exact way_whole h i z hz

theorem hidden_false_iff {L : Fo} {a b : Int} (hb : there L b = true) : hidden L a b = false ↔ ∀ r, r ∈ closeds L a → hst L r = 0 ∨ r ∈ over L b := by
  unfold hidden
  rw [hb, Bool.true_and, List.any_eq_false]
  constructor
  · intro h r hr
    have := h r hr
    by_cases h1 : hst L r = 0
    · exact Or.inl h1
    · right
      simpa [h1] using this
  · intro h r hr
    rcases h r hr with h1 | h1 <;> simp [h1]
theorem whole_of_root {L : Fo} (h : WF L) {r x : Int} (hr : r ∈ over L x) (h1 : par L r = 0) (h2 : hst L r = 0) : whole L x = r := by
  have hs := over_suffix h.ends hr
  have ht := over_there hr
  have ho : over1 L r = 0 := by unfold over1; rw [if_pos h1, h2]
  rw [over_cons h.ends ht, ho, over_not (there_zero L)] at hs
  obtain ⟨t, e⟩ := hs
  unfold whole
  rw [← e, getLastD_append (by simp)]; rfl
theorem closeds_over {L : Fo} {x r : Int} (h : r ∈ closeds L x) : r ∈ over L x ∧ closedB L r = true := by
  unfold closeds at h; exact List.mem_filter.1 h
theorem mem_closeds {L : Fo} {x r : Int} (h1 : r ∈ over L x) (h2 : closedB L r = true) : r ∈ closeds L x := List.mem_filter.2 ⟨h1, h2⟩

theorem nodup_sub : ∀ {l m : List Int}, l.Nodup → (∀ x, x ∈ l → x ∈ m) → l.length ≤ m.length
  | [], _, _, _ => by simp
  | x :: l, m, hd, hs => by
    rw [List.nodup_cons] at hd
    have hx := hs x List.mem_cons_self
    have h1 := nodup_sub (m := m.erase x) hd.2 (fun y hy => (List.mem_erase_of_ne (fun e => hd.1 (by rw [← e]; exact hy))).2 (hs y (List.mem_cons_of_mem _ hy)))
    have h2 := List.length_erase_of_mem hx
    have h3 := List.length_pos_of_mem hx
    simp only [List.length_cons]; omega
/-- Of two nodes of a way: what isn't hidden, by what stands between. -/
def Btw (i k j : Nat) : Prop := (i ≤ j ∧ j ≤ k) ∨ (k ≤ j ∧ j ≤ i)
theorem way_hidden {L : Fo} (h : WF L) {first : Int} {c : Bool} {x : Int} {i k : Nat} {a b : Int} (ha : (way L first c x)[i]? = some a) (hb : (way L first c x)[k]? = some b) :
    hidden L b a = false ↔ ∀ j y, Btw i k j → (way L first c x)[j]? = some y → dcl L b ≤ dcl L y := by
  have hta : there L a = true := way_there (List.mem_of_getElem? ha)
  rw [hidden_false_iff hta]
  constructor
  · intro hh j y hj hy
    have hsub : ∀ r, r ∈ closeds L b → r ∈ closeds L y := fun r hr => by
      obtain ⟨r1, r2⟩ := closeds_over hr
      have ra : r ∈ over L a := by
        rcases hh r hr with h0 | h0
        · have hw := whole_of_root h r1 (closedB_root h r2) h0
          have e : whole L a = r := by rw [way_whole h i a ha, ← way_whole h k b hb, hw]
          rw [← e]; exact (over_last h hta).2.2
        · exact h0
      refine mem_closeds ?_ r2
      rcases hj with ⟨h1, h2⟩ | ⟨h1, h2⟩
      · exact way_convex h ha hb ra r1 (j - i) y (by omega) (by rw [show i + (j - i) = j from by omega]; exact hy)
      · exact way_convex h hb ha r1 ra (j - k) y (by omega) (by rw [show k + (j - k) = j from by omega]; exact hy)
    have hnd : (closeds L b).Nodup := (over_nodup h.ends b).sublist List.filter_sublist
    unfold dcl
    have := nodup_sub hnd hsub
    omega
  · intro hh r hr
    right
    have key : ∀ (d : Nat) (y : Int), d ≤ (k - i) + (i - k) → (way L first c x)[if i ≤ k then k - d else k + d]? = some y → closeds L b <:+ closeds L y := by
      intro d
      induction d with
      | zero =>
        intro y _ hy
        have : (if i ≤ k then k - 0 else k + 0) = k := by split <;> omega
        rw [this, hb] at hy
        cases hy; exact List.suffix_refl _
      | succ d ih =>
        intro y hbt hy
        have hb1 : Btw i k (if i ≤ k then k - (d + 1) else k + (d + 1)) := by
          by_cases hik : i ≤ k
          · rw [if_pos hik]; left; omega
          · rw [if_neg hik]; right; omega
        have hle := hh _ y hb1 hy
        by_cases hik : i ≤ k
        · simp only [hik, if_true] at hle hy ih
          have hd : i + d + 1 ≤ k := by omega
          obtain ⟨z, hz⟩ : ∃ z, (way L first c x)[k - d]? = some z := by
            have h1 := (List.getElem?_eq_some_iff.1 hb).1
            exact ⟨_, List.getElem?_eq_getElem (by omega)⟩
          have hs := ih z (by omega) hz
          obtain ⟨e, h0⟩ := way_next h x (k - (d + 1)) y z hy (by rw [show k - (d + 1) + 1 = k - d from by omega]; exact hz)
          rcases closeds_near h e h0 with hn | hn
          · exact List.suffix_of_suffix_length_le hs hn (by unfold dcl at hle; omega)
          · exact hs.trans hn
        · simp only [hik, if_false] at hle hy ih
          have hd : k + d + 1 ≤ i := by omega
          obtain ⟨z, hz⟩ : ∃ z, (way L first c x)[k + d]? = some z := by
            have h1 := (List.getElem?_eq_some_iff.1 ha).1
            exact ⟨_, List.getElem?_eq_getElem (by omega)⟩
          have hs := ih z (by omega) hz
          obtain ⟨e, h0⟩ := way_next h x (k + d) z y hz (by rw [show k + d + 1 = k + (d + 1) from by omega]; exact hy)
          rcases closeds_near h e h0 with hn | hn
          · exact hs.trans hn
          · exact List.suffix_of_suffix_length_le hs hn (by unfold dcl at hle; omega)
    have hs : closeds L b <:+ closeds L a := by
      by_cases hik : i ≤ k
      · refine key (k - i) a (by omega) ?_
        · rw [if_pos hik, show k - (k - i) = i from by omega]; exact ha
      · refine key (i - k) a (by omega) ?_
        · rw [if_neg hik, show k + (i - k) = i from by omega]; exact ha
    exact (closeds_over (hs.subset hr)).1

/-! ## What is seen -/
def placeR (node : Int) : List Sp → Int → Option (Nat × Int)
  | [], _ => none
  | s :: r, lv => if s.node = node then some (r.length, lv + b2 s.cr) else placeR node r (lv + b2 s.cr - b2 s.cs)
def placeL (p : List Sp) (node : Int) : Option (Nat × Int) := placeR node p.reverse 0
def walkL (more less : Sp → Bool) : List Sp → Int → Int → List Int
  | [], _, _ => []
  | s :: r, lv, lim => (if lv + b2 (more s) ≤ lim then [s.node] else []) ++ walkL more less r (lv + b2 (more s) - b2 (less s)) (if less s = true then min lim (lv + b2 (more s) - 1) else lim)
def fromL (p : List Sp) (node : Int) : List Int :=
  match placeL p node with
  | none => []
  | some (i, lv) => (walkL Sp.cr Sp.cs (p.take i).reverse lv lv).reverse ++ node :: walkL Sp.cs Sp.cr (p.drop (i + 1)) lv lv

theorem placeR_at {node : Int} : ∀ (pre : List Sp) (s : Sp) (r : List Sp) (lv : Int), (∀ t ∈ pre, t.node ≠ node) → s.node = node → ∃ lv', placeR node (pre ++ s :: r) lv = some (r.length, lv')
  | [], s, r, lv, _, hs => ⟨_, by rw [List.nil_append, placeR, if_pos hs]⟩
  | t :: pre, s, r, lv, hp, hs => by
    rw [List.cons_append, placeR, if_neg (hp t List.mem_cons_self)]
    exact placeR_at pre s r _ (fun u hu => hp u (List.mem_cons_of_mem _ hu)) hs
theorem placeL_at {p : List Sp} {i : Nat} {s : Sp} (hs : p[i]? = some s) (hd : ∀ (j : Nat) (t : Sp), p[j]? = some t → t.node = s.node → j = i) : ∃ lv, placeL p s.node = some (i, lv) := by
  obtain ⟨hi, e⟩ := List.getElem?_eq_some_iff.1 hs
  have e2 : p = p.take i ++ s :: p.drop (i + 1) := by
    rw [← e, ← List.drop_eq_getElem_cons hi, List.take_append_drop]
  have e3 : p.reverse = (p.drop (i + 1)).reverse ++ s :: (p.take i).reverse := by
    conv => lhs; rw [e2]
    simp
  unfold placeL
  rw [e3]
  obtain ⟨lv, hlv⟩ := placeR_at (node := s.node) (p.drop (i + 1)).reverse s (p.take i).reverse 0 (by
    intro t ht hn
    rw [List.mem_reverse] at ht
    obtain ⟨j, hj⟩ := List.mem_iff_getElem?.1 ht
    rw [List.getElem?_drop] at hj
    have := hd _ t hj hn
    omega) rfl
  refine ⟨lv, ?_⟩
  rw [hlv, List.length_reverse, List.length_take, Nat.min_eq_left (by omega)]

/-- One behind the other, as they are gone through: how the depth turns. -/
def Near (D : Int → Int) (more less : Sp → Bool) (s t : Sp) : Prop := D t.node = D s.node - b2 (less s) + b2 (more t) ∧ ¬ (less s = true ∧ more t = true)
theorem walk_mem {D : Int → Int} {more less : Sp → Bool} {c : Int} {x : Int} : ∀ (l : List Sp) (lv lim M : Int), (∀ (k : Nat) (s t : Sp), l[k]? = some s → l[k + 1]? = some t → Near D more less s t) → (∀ s : Sp, l[0]? = some s → lv + b2 (more s) = D s.node + c ∧ M ≤ D s.node) → lim = M + c →
    (x ∈ walkL more less l lv lim ↔ ∃ (k : Nat) (s : Sp), l[k]? = some s ∧ s.node = x ∧ D x ≤ M ∧ ∀ (j : Nat) (t : Sp), j ≤ k → l[j]? = some t → D x ≤ D t.node)
  | [], _, _, _, _, _, _ => by simp [walkL]
  | s :: r, lv, lim, M, hn, h0, hl => by
    obtain ⟨e0, hM⟩ := h0 s rfl
    rw [walkL, List.mem_append]
    have ih := walk_mem (D := D) (more := more) (less := less) (c := c) (x := x) r (lv + b2 (more s) - b2 (less s)) (if less s = true then min lim (lv + b2 (more s) - 1) else lim) (if less s = true then min M (D s.node - 1) else M)
      (fun k a b ha hb => hn (k + 1) a b (by simpa using ha) (by simpa using hb)) (by
        intro t ht
        obtain ⟨n1, n2⟩ := hn 0 s t rfl (by simpa using ht)
        refine ⟨by omega, ?_⟩
        split
        · rename_i hls
          have : more t = false := by
            cases hm : more t with
            | false => rfl
            | true => exact absurd ⟨hls, hm⟩ n2
          rw [hls, this] at n1
          simp only [b2] at n1
          simp at n1
          omega
        · rename_i hls
          have hls : less s = false := by simpa using hls
          rw [hls] at n1
          have : 0 ≤ b2 (more t) := by unfold b2; split <;> omega
          have e : b2 false = 0 := rfl
          omega) (by split <;> omega)
    rw [ih]
    have hD : lv + b2 (more s) ≤ lim ↔ D s.node ≤ M := by omega
    constructor
    · rintro (h1 | ⟨k, t, hk, ht, hx, hall⟩)
      · split at h1
        · rename_i hle
          rw [List.mem_singleton] at h1
          refine ⟨0, s, rfl, h1.symm, by rw [h1]; exact hD.1 hle, fun j t hj htj => ?_⟩
          obtain rfl : j = 0 := by omega
          simp only [List.getElem?_cons_zero, Option.some.injEq] at htj
          rw [h1, ← htj]; exact Int.le_refl _
        · cases h1
      · have hx' : D x ≤ M := by split at hx <;> omega
        refine ⟨k + 1, t, by simpa using hk, ht, hx', fun j u hj hu => ?_⟩
        cases j with
        | zero =>
          simp only [List.getElem?_cons_zero, Option.some.injEq] at hu
          rw [← hu]; omega
        | succ j => exact hall j u (by omega) (by simpa using hu)
    · rintro ⟨k, t, hk, ht, hx, hall⟩
      cases k with
      | zero =>
        left
        simp only [List.getElem?_cons_zero, Option.some.injEq] at hk
        subst hk
        rw [if_pos (hD.2 (by rw [ht]; exact hx)), List.mem_singleton]; exact ht.symm
      | succ k =>
        right
        refine ⟨k, t, by simpa using hk, ht, ?_, fun j u hj hu => hall (j + 1) u (by omega) (by simpa using hu)⟩
        split
        · rename_i hls
          obtain ⟨u, hu⟩ : ∃ u, r[0]? = some u := by
            have hk' : r[k]? = some t := by simpa using hk
            have := (List.getElem?_eq_some_iff.1 hk').1
            exact ⟨_, List.getElem?_eq_getElem (by omega)⟩
          have h1 := hall 1 u (by omega) (by simpa using hu)
          obtain ⟨n1, n2⟩ := hn 0 s u rfl (by simpa using hu)
          have : more u = false := by
            cases hm : more u with
            | false => rfl
            | true => exact absurd ⟨hls, hm⟩ n2
          rw [hls, this] at n1
          simp only [b2] at n1
          simp at n1
          omega
        · exact hx
/-- Of entries whose depths turn by their flags: which are seen. -/
theorem from_mem {D : Int → Int} {p : List Sp} (hn : ∀ (k : Nat) (s t : Sp), p[k]? = some s → p[k + 1]? = some t → Near D Sp.cs Sp.cr s t) (hd : ∀ (i j : Nat) (s t : Sp), p[i]? = some s → p[j]? = some t → s.node = t.node → i = j)
    {i k : Nat} {a b : Sp} (ha : p[i]? = some a) (hb : p[k]? = some b) : b.node ∈ fromL p a.node ↔ ∀ (j : Nat) (t : Sp), Btw i k j → p[j]? = some t → D b.node ≤ D t.node := by
  obtain ⟨lv, hlv⟩ := placeL_at ha (fun j t ht e => hd j i t a ht ha e)
  unfold fromL
  rw [hlv]
  simp only [List.mem_append, List.mem_cons, List.mem_reverse]
  have hi := (List.getElem?_eq_some_iff.1 ha).1
  have hk := (List.getElem?_eq_some_iff.1 hb).1
  have nearBack : ∀ (k : Nat) (s t : Sp), p[k + 1]? = some s → p[k]? = some t → Near D Sp.cr Sp.cs s t := fun k s t hs ht => by
    obtain ⟨n1, n2⟩ := hn k t s ht hs
    exact ⟨by omega, fun e => n2 ⟨e.2, e.1⟩⟩
  have rev : ∀ j, j < i → (p.take i).reverse[j]? = p[i - 1 - j]? := fun j hj => by
    rw [List.getElem?_reverse (by rw [List.length_take]; omega), List.length_take, Nat.min_eq_left (by omega), List.getElem?_take_of_lt (by omega)]
  have revn : ∀ j, i ≤ j → (p.take i).reverse[j]? = none := fun j hj => by
    rw [List.getElem?_eq_none]; rw [List.length_reverse, List.length_take]; omega
  have m1 := walk_mem (D := D) (more := Sp.cr) (less := Sp.cs) (c := lv - D a.node + b2 a.cs) (x := b.node) (p.take i).reverse lv lv (D a.node - b2 a.cs)
    (fun q s t hs ht => by
      have hq : q + 1 < i := Nat.lt_of_not_le fun hle => by rw [revn _ hle] at ht; cases ht
      rw [rev _ (by omega)] at hs
      rw [rev _ hq] at ht
      exact nearBack (i - 1 - (q + 1)) s t (by rw [show i - 1 - (q + 1) + 1 = i - 1 - q from by omega]; exact hs) ht)
    (by
      intro s hs
      have hq : 0 < i := Nat.lt_of_not_le fun hle => by rw [revn _ hle] at hs; cases hs
      rw [rev _ hq] at hs
      obtain ⟨n1, _⟩ := nearBack (i - 1) a s (by rw [show i - 1 + 1 = i from by omega]; exact ha) hs
      have : 0 ≤ b2 s.cr := by unfold b2; split <;> omega
      exact ⟨by omega, by omega⟩) (by omega)
  have m2 := walk_mem (D := D) (more := Sp.cs) (less := Sp.cr) (c := lv - D a.node + b2 a.cr) (x := b.node) (p.drop (i + 1)) lv lv (D a.node - b2 a.cr)
    (fun q s t hs ht => by
      rw [List.getElem?_drop] at hs ht
      exact hn (i + 1 + q) s t hs ht)
    (by
      intro s hs
      rw [List.getElem?_drop] at hs
      obtain ⟨n1, _⟩ := hn i a s ha hs
      have : 0 ≤ b2 s.cs := by unfold b2; split <;> omega
      exact ⟨by omega, by omega⟩) (by omega)
  rw [m1, m2]
  have hb2 : ∀ q : Bool, b2 q = 0 ∨ (q = true ∧ b2 q = 1) := fun q => by cases q <;> simp [b2]
  constructor
  · rintro (⟨q, s, hs, hx, hM, hall⟩ | e | ⟨q, s, hs, hx, hM, hall⟩) j t hj ht
    · have hq : q < i := Nat.lt_of_not_le fun hle => by rw [revn _ hle] at hs; cases hs
      rw [rev _ hq] at hs
      have hk' : i - 1 - q = k := hd _ _ s b hs hb hx
      by_cases e : j = i
      · subst e
        rw [ha] at ht
        cases ht
        have := hb2 a.cs
        omega
      · rcases hj with hj | hj
        · omega
        · exact hall (i - 1 - j) t (by omega) (by rw [rev _ (by omega), show i - 1 - (i - 1 - j) = j from by omega]; exact ht)
    · have hk' : k = i := hd _ _ b a hb ha e
      have : j = i := by rcases hj with hj | hj <;> omega
      subst this
      rw [ha] at ht
      cases ht
      rw [e]; exact Int.le_refl _
    · rw [List.getElem?_drop] at hs
      have hk' : i + 1 + q = k := hd _ _ s b hs hb hx
      by_cases e : j = i
      · subst e
        rw [ha] at ht
        cases ht
        have := hb2 a.cr
        omega
      · rcases hj with hj | hj
        · exact hall (j - (i + 1)) t (by omega) (by rw [List.getElem?_drop, show i + 1 + (j - (i + 1)) = j from by omega]; exact ht)
        · omega
  · intro hall
    rcases Nat.lt_trichotomy k i with hlt | e | hlt
    · left
      refine ⟨i - 1 - k, b, by rw [rev _ (by omega), show i - 1 - (i - 1 - k) = k from by omega]; exact hb, rfl, ?_, fun j t hj ht => ?_⟩
      · have h1 := hall i a (Or.inr ⟨by omega, by omega⟩) ha
        rcases hb2 a.cs with e | ⟨e, e2⟩
        · omega
        · obtain ⟨t, ht⟩ : ∃ t, p[i - 1]? = some t := ⟨_, List.getElem?_eq_getElem (by omega)⟩
          have h2 := hall (i - 1) t (Or.inr ⟨by omega, by omega⟩) ht
          obtain ⟨n1, n2⟩ := nearBack (i - 1) a t (by rw [show i - 1 + 1 = i from by omega]; exact ha) ht
          have : b2 t.cr = 0 := by
            rcases hb2 t.cr with e3 | ⟨e3, _⟩
            · exact e3
            · exact absurd ⟨e, e3⟩ n2
          omega
      · have hq : j < i := by omega
        rw [rev _ hq] at ht
        exact hall (i - 1 - j) t (Or.inr ⟨by omega, by omega⟩) ht
    · right; left
      subst e
      rw [ha] at hb
      cases hb; rfl
    · right; right
      refine ⟨k - (i + 1), b, by rw [List.getElem?_drop, show i + 1 + (k - (i + 1)) = k from by omega]; exact hb, rfl, ?_, fun j t hj ht => ?_⟩
      · have h1 := hall i a (Or.inl ⟨by omega, by omega⟩) ha
        rcases hb2 a.cr with e | ⟨e, e2⟩
        · omega
        · obtain ⟨t, ht⟩ : ∃ t, p[i + 1]? = some t := ⟨_, List.getElem?_eq_getElem (by omega)⟩
          have h2 := hall (i + 1) t (Or.inl ⟨by omega, by omega⟩) ht
          obtain ⟨n1, n2⟩ := hn i a t ha ht
          have : b2 t.cs = 0 := by
            rcases hb2 t.cs with e3 | ⟨e3, _⟩
            · exact e3
            · exact absurd ⟨e, e3⟩ n2
          omega
      · rw [List.getElem?_drop] at ht
        exact hall (i + 1 + j) t (Or.inl ⟨by omega, by omega⟩) ht

/-- NOTHING THAT IS HIDDEN IS SEEN, and what isn't hidden is. -/
theorem path_seen {L : Fo} (h : WF L) {target related : Int} {c : Bool} {i k : Nat} {a b : Sp} (ha : (pathL L target related c)[i]? = some a) (hb : (pathL L target related c)[k]? = some b) :
    b.node ∈ fromL (pathL L target related c) a.node ↔ hidden L b.node a.node = false := by
  have hnode : ∀ (j : Nat) (s : Sp), (pathL L target related c)[j]? = some s → (way L target c target)[j]? = some s.node := fun j s hs => (pathL_spec h hs).2.1
  rw [way_hidden h (hnode i a ha) (hnode k b hb), from_mem (D := dcl L) ?_ ?_ ha hb]
  · constructor
    · intro hh j y hj hy
      have hlen : j < (pathL L target related c).length := by
        have h1 := (List.getElem?_eq_some_iff.1 ha).1
        have h2 := (List.getElem?_eq_some_iff.1 hb).1
        rcases hj with hj | hj <;> omega
      have e := hnode j _ (List.getElem?_eq_getElem hlen)
      rw [e] at hy
      cases hy
      exact hh j _ hj (List.getElem?_eq_getElem hlen)
    · intro hh j t hj ht
      exact hh j t.node hj (hnode j t ht)
  · intro j s t hs ht
    obtain ⟨_, s1, _, _, s4, _⟩ := pathL_spec h hs
    obtain ⟨_, t1, _, _, t4, _, t6⟩ := pathL_spec h ht
    obtain ⟨e, h0⟩ := way_next h _ _ _ _ s1 t1
    have hc := t6 j rfl
    rw [s1, Option.getD_some] at hc
    have hd := dcl_step h e h0
    rw [← hc, ← s4] at hd
    exact hd
  · intro i j s t hs ht e
    have h1 := hnode i s hs
    have h2 := hnode j t ht
    rw [e] at h1
    exact way_inj h h1 h2
/-- All that is seen is of the path. -/
theorem walkL_sub {more less : Sp → Bool} {x : Int} : ∀ (l : List Sp) (lv lim : Int), x ∈ walkL more less l lv lim → ∃ s ∈ l, s.node = x
  | [], _, _, h => by simp [walkL] at h
  | s :: r, lv, lim, h => by
    rw [walkL, List.mem_append] at h
    rcases h with h | h
    · split at h
      · exact ⟨s, List.mem_cons_self, (List.mem_singleton.1 h).symm⟩
      · cases h
    · obtain ⟨t, ht, e⟩ := walkL_sub r _ _ h
      exact ⟨t, List.mem_cons_of_mem _ ht, e⟩
theorem fromL_sub {p : List Sp} {i : Nat} {s : Sp} (hs : p[i]? = some s) (hd : ∀ (j : Nat) (t : Sp), p[j]? = some t → t.node = s.node → j = i) {x : Int} (hx : x ∈ fromL p s.node) : ∃ (k : Nat) (t : Sp), p[k]? = some t ∧ t.node = x := by
  obtain ⟨lv, hlv⟩ := placeL_at hs hd
  unfold fromL at hx
  rw [hlv] at hx
  simp only [List.mem_append, List.mem_cons, List.mem_reverse] at hx
  have fin : ∀ t ∈ p, t.node = x → ∃ (k : Nat) (t : Sp), p[k]? = some t ∧ t.node = x := fun t ht e => by
    obtain ⟨k, hk⟩ := List.mem_iff_getElem?.1 ht
    exact ⟨k, t, hk, e⟩
  rcases hx with hx | hx | hx
  · obtain ⟨t, ht, e⟩ := walkL_sub _ _ _ hx
    exact fin t (List.mem_of_mem_take (List.mem_reverse.1 ht)) e
  · exact ⟨i, s, hs, hx.symm⟩
  · obtain ⟨t, ht, e⟩ := walkL_sub _ _ _ hx
    exact fin t (List.mem_of_mem_drop ht) e
end Tc
